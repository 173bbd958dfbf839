/- A part of the proof: nothing is stated here for its own sake. -/
import Derived.Deep.Quiet
import Derived.StillTail
import Derived.Laws.Cover3
import Derived.Laws.Pointers
import Derived.Scope
import Derived.Laws.StructEq
import Derived.Deep.AppendSrc
import Derived.Laws.BytesString
open _root_.Go.Addr renaming add->zab
open _root_.Array renaming getD_eq_getD_getElem?->zb6,getElem?_eq_getElem->zcc,getElem?_eq_some_iff->zaq,range->zfb,replicate->zcf,toList_map->zdx
open _root_.Bool renaming false_eq_true->zca,not_eq_true'->zd6,true_and->zce
open _root_.Go.Builtin renaming append_->zaj,firstCells->zdb,len_->zdn
open _root_.Go.Code renaming cond->ze4,region->ze7
open _root_.Go.Deferred renaming ofValue->zeo
open _root_.Go.Instr renaming entry->zen,fill->zfe,findNow->zc8,indexAt->ze5,keyThatStays->zd0,loadAt->zeg,lookup->zcy,makeSlice->zba,mapUpdate->zct,next->zdz,range->zey,sameNow->zeu,sliceAt->zet,storeAt->zae,sureAddr->zem
open _root_.Go.IntKind renaming bits->zbw,signed->ze0,wrap->zaa
open _root_.List renaming all_eq_true->zbl,append_nil->zbi,cons_append->zbs,drop_drop->zeb,eq_nil_of_length_eq_zero->za4,ext_getElem?->zbm,getElem?_drop->zb1,getElem?_eq_some_iff->zbb,getElem?_take->zbq,length_append->zah,length_cons->za1,length_drop->zcw,length_eq_zero_iff->zdr,length_nil->zbx,length_take->zbt,mapM_cons->zez,map_cons->zbk,mem_append->zav,mem_append_left->zap,mem_append_right->zaz,mem_cons->zal,mem_cons_of_mem->zan,mem_cons_self->zat,mem_range->zcs,nil_append->zcm,nodup_cons->zdk,nodup_range->zep,pairwise_append->zdo,pairwise_cons->zb2,pairwise_lt_range->zeh,range->za7,take_succ_eq_append_getElem->zai
open _root_.List.cons renaming injEq->zcv
open _root_.Nat renaming add_mul->zc7,blt_eq->zdl,eq_of_beq_eq_true->zao,eq_zero_or_pos->zei,le_mul_of_pos_right->zec,le_of_ble_eq_true->zci,le_refl->zac,le_trans->zb8,lt_of_lt_of_le->zda,lt_or_ge->zbv,min_eq_left->zew,mul_le_mul_right->za6,one_mul->ze8,zero_add->zax
open _root_.Go.Next renaming value->zd8
open _root_.Go.Op renaming equal->ze9
open _root_.Option renaming bind_some->zc3,map_eq_some_iff->zc5
open _root_.Option.some renaming inj->za9,injEq->zad
open _root_.Prod.mk renaming injEq->zb9
open _root_.Pure renaming pure->zd3
open _root_.Go.Region renaming wanted->zbj
open _root_.Go.Utf8 renaming decode->zfa
open _root_.Go.Value renaming int->zby,string->za0
open _root_.Go.Value.slice renaming injEq->zbc
open _root_.Go.Sem renaming run_bind->DM,run_pure->DQ
open _root_.Go.Result renaming andThen_ok->D0
open _root_.Go renaming Program->EM,World->Nd,TypeId->Nw,FuncId->n4,Operand->n7,Addr->n8,Oper->n9,execOp->hV
open _root_.Nat renaming beq->mv
open _root_.Go.Value renaming oneCell'->pi
open _root_.Go.Region renaming waitsFor->qr
open _root_.List renaming length->DB
set_option linter.all false
set_option maxRecDepth 1000000
set_option maxHeartbeats 20000000
namespace Go.X
end Go.X
namespace Go.Proofs
end Go.Proofs
open Go Go.X Go.Proofs
open _root_.Bool renaming true->Ta,false->Tc
open _root_.Option renaming some->Td,none->Te
namespace Go.X
section
section
theorem zv{c:Prop}{h:Decidable c}(n:¬c){α:Sort _}{t e:α}:@ite α c h t e=e:=if_neg n
theorem zA{c:Prop}{h:Decidable c}(n:c){α:Sort _}{t e:α}:@ite α c h t e=t:=if_pos n
theorem zG{p:Prop}[Decidable p]:(decide p=true)=p:=decide_eq_true_eq
theorem zH{p:Prop}[Decidable p](h:decide p=true):p:=of_decide_eq_true h
theorem zI{p:Prop}[Decidable p](h:decide p=false):¬p:=of_decide_eq_false h
theorem zJ{p:Prop}[Decidable p](h:p):decide p=true:=decide_eq_true h
theorem zK{α:Sort _}(a b:α):cond true a b=a:=rfl
theorem zL{α:Sort _}(a b:α):cond false a b=b:=rfl
abbrev Bt:= ByteArray
variable {i n m:Nat} {v u:Value} {a:Act} {o:n9}
abbrev zc:=Array Obj
abbrev vvv:=Value->zc->Prop
abbrev ac0:=List Nat
abbrev ac1:=List Value
abbrev ac2:=Array Value
abbrev ac3:=Value -> zc -> Prop
abbrev ac4:=Value->zc->Prop
abbrev ac5:=Int->zc->Prop
abbrev ac6:=Nat->Nat->Nat
abbrev ac7:=Int->zc->Nat
abbrev ac8:=Option Bool
abbrev ac9:=Value->Prop
abbrev ad0:=Option Nat
abbrev ad1:=Array Bool
abbrev ad2:=Bool->Prop
abbrev ad3:=Int->Prop
abbrev ad4:=List Int
abbrev ad5:=Nat->Nat
theorem ω{p:Prop}(h:p:=by omega):p:=h
theorem ξ{p:Prop}(h:p:=by simp):p:=h
theorem κ{p:Prop}(h:p:=by kernel_rfl):p:=h
theorem ζ{p:Prop}(h:p:=by decide):p:=h
theorem η{p:Prop}(h:p:=by grind):p:=h
theorem θ{p:Prop}(h:p:=by simp_all):p:=h
theorem φ{p:Prop}(h:p:=by simp;omega):p:=h
theorem ψ{p q:Prop}(h:q)(k:q->p:=by intro h;simpa using h):p:=k h
theorem χ{p q:Prop}(h:q)(k:q->p:=by intro h;omega):p:=k h
theorem ε{p q:Prop}(h:q)(k:q->p:=by intro h;cases h):p:=k h
theorem ν{p q:Prop}(h:q)(k:q->p:=by intro h;simp at h;omega):p:=k h
theorem ι{p q:Prop}(h:q)(k:q->p:=by intro h;simp at h):p:=k h
theorem ο{p q:Prop}(h:q)(k:q->p:=by intro h;rw[h];omega):p:=k h
theorem π{p q:Prop}(h:q)(k:q->p:=by intro h;rw[h];rfl):p:=k h
theorem υ{p q:Prop}(h:q)(k:q->p:=by intro h;rw[h];simp):p:=k h
theorem ϑ{p q:Prop}(h:q)(k:q->p:=by intro h;simp[h]):p:=k h
theorem ϕ{p q:Prop}(h:q)(k:q->p:=by intro h;rw[h]):p:=k h
theorem ϖ{p q r:Prop}(h:q)(g:r)(k:q->r->p:=by intro e h;rw[e];exact h):p:=k h g
theorem ς{p q r:Prop}(h:q)(g:r)(k:q->r->p:=by intro e h;rw[e]at h;cases h):p:=k h g
abbrev w6(n:Int):Int:=IntKind.wrap .i64 n
abbrev hZ(g h:Array Obj)(a:n8):Prop:=g[a.block]?=h[a.block]?
abbrev q0:Array Value:=(List.replicate 65 (.int .u8 0)).toArray
abbrev q01:Array Value:=(List.replicate 24 (.int .u8 0)).toArray
abbrev qj:=List (Nat×Bool)
abbrev bR:=List (Nat×qj×Value)
def mk(B:Nd)(d:Nat)(h:zc):Nd:={ B with heap:=h,drawn:=d }
def look:bR->Nat->Option (qj×Value)
 |[],_=>Te
 |(j,c,v)::e,i=>bif mv i j then Td (c,v)else look e i
def CT(σ:Nat->Value):qj->Prop
 |[]=>True
 |(g,p)::c=>σ g=.bool p/\CT σ c
def ql(a:Act)(i:Nat):Value:=a.tmps.getD i undef
def fact(σ:Nat->Value)(x:Nat×qj×Value):Prop:=(CT σ x.2.1->σ x.1=x.2.2)/\(¬CT σ x.2.1->σ x.1=undef)
structure Sat (n:Nat) (e:bR) (a:Act):Prop where
 defers:a.defers=[]
 size:a.tmps.size=n
 all:∀x∈e,fact (ql a) x
def mentions:qj->Nat->Bool
 |[],_=>Tc
 |(g,_)::c,i=>bif mv i g then Ta else mentions c i
def tQ:bR->Nat->bR
 |[],_=>[]
 |(j,c,v)::e,i=>bif (bif mv i j then Ta else mentions c i)then tQ e i else(j,c,v)::tQ e i
def put(e:bR)(i:Nat)(c:qj)(v:Value):bR:=(i,c,v)::tQ e i
def putO(e:bR):Option Nat->qj->Value->bR
 |none,_,_=>e
 |some d,c,v=>put e d c v
def clean:bR->bR
 |[]=>[]
 |(j,[],v)::e=>(j,[],v)::clean e
 |(_,_::_,_)::e=>clean e
def pf{e:bR}{c:qj}(h:look e i=Td (c,v)):(i,c,v)∈e:=by
 induction e with
 |nil=>cases h
 |cons x e f=>have⟨j,k,b⟩:=x;simp only[look]at h;by_cases hb:mv i j=Ta;simp_all;simp_all
def ZA{e:bR}{x:Nat×qj×Value}(h:x∈tQ e i):x∈e/\x.1≠i/\mentions x.2.1 i=Tc:=by
 induction e with
 |nil=>cases h
 |cons y e n=>
  have⟨j,f,m⟩:=y;simp only[tQ]at h;by_cases hb:mv i j=Ta;simp_all;have c:mv i j=Tc:=Bool.eq_false_iff.2 hb;simp only[c,zL]at h;by_cases k:mentions f i=Ta;simp_all;have b:mentions f i=Tc:=ψ k
  simp only[b,zL]at h;obtain rfl|h:=zal.1 h;refine⟨zat,λl=>?_,b⟩;simp_all;simp_all
def MW{e:bR}{x:Nat×qj×Value}(h:x∈clean e):x∈e/\x.2.1=[]:=by
 induction e with
 |nil=>cases h
 |cons y e i=>
  have⟨j,b,f⟩:=y;cases b with
  |nil=>simp only[clean]at h;grind
  |cons c cs=>simp only[clean]at h;simp_all
theorem Sat.sub{e b:bR}(h:Sat n e a)(c:∀x∈b,x∈e):Sat n b a:=⟨h.defers,h.size,λx f=>h.all x (c x f)⟩
theorem Sat.clean{n:Nat}{e:bR}{a:Act}(h:Sat n e a):Sat n (clean e) a:=h.sub λ_ b=>(MW b).1
def Qb{σ τ:Nat->Value}{c:qj}(b:mentions c i=Tc)(h:∀j,j≠i->σ j=τ j):CT σ c↔CT τ c:=by
 induction c with
 |nil=>exact Iff.rfl
 |cons x c f=>have⟨g,p⟩:=x;simp only[mentions]at b;by_cases hb:mv i g=Ta;grind;simp only[hb,zL]at b;have k:g≠i:=λe=>hb (by rw[e];simp);simp only[CT,h g k,f b]
theorem xu(hi:i<a.tmps.size):ql (a.put (Td i) u) i=u:=by simp[ql,Act.put,hi]
theorem qy{i j:Nat}(h:j≠i):ql (a.put (Td i) u) j=ql a j:=by simp[ql,Act.put,Array.getElem?_setIfInBounds_ne (Ne.symm h)]
theorem SM(a:Act)(d:ad0)(u:Value):(a.put d u).tmps.size=a.tmps.size:=by cases d <;> simp[Act.put]
theorem Zf(a:Act)(d:ad0)(u:Value):(a.put d u).defers=a.defers:=by cases d <;> simp[Act.put]
theorem Sat.put{n:Nat}{e:bR}{a:Act}(h:Sat n e a){i:Nat}{c:qj}{v u:Value}(hi:i<n)(w:mentions c i=Tc)(q:CT (ql a) c->u=v) (t:¬CT (ql a) c->u=undef):Sat n (put e i c v) (a.put (Td i) u):=by
 refine⟨by rw[Zf];exact h.defers,by rw[SM];exact h.size,λx m=>?_⟩;have k:i<a.tmps.size:=by rw[h.size];exact hi
 obtain rfl|m:=zal.1 m;have l:=Qb (σ:=ql (a.put (Td i) u)) (τ:=ql a) w (λj o=>qy o);refine⟨λf=>?_,λf=>?_⟩;exact(xu k).trans (q (l.1 f));exact(xu k).trans (t (λb=>f (l.2 b)));have⟨h1,h2,r⟩:=ZA m;have l:=Qb (σ:=ql (a.put (Td i) u)) (τ:=ql a) r (λj o=>qy o);have p:=h.all x h1;refine⟨λf=>?_,λf=>?_⟩;exact(qy h2).trans (p.1 (l.1 f));exact(qy h2).trans (p.2 (λb=>f (l.2 b)))
def wj(n:Nat)(c:qj):Option Nat->Bool
 |none=>Ta
 |some d=>bif mentions c d then Tc else Nat.blt d n
theorem Sat.putO{n:Nat}{e:bR}{a:Act}(h:Sat n e a){d:ad0}{c:qj}{v u:Value}(f:wj n c d=Ta)(k:CT (ql a) c->u=v) (l:¬CT (ql a) c->u=undef):Sat n (putO e d c v) (a.put d u):=by
 cases d with
 |none=>exact h
 |some i=>
  simp only[wj]at f;by_cases j:mentions c i=Ta;grind;have b:mentions c i=Tc:=ψ j
  simp only[b,zL]at f;exact h.put θ b k l
def Qc:qj->qj->Bool
 |[],[]=>Ta
 |(g,p)::c,(g',p')::c'=>bif mv g g' then(bif p then(bif p' then Qc c c' else Tc)else(bif p' then Tc else Qc c c'))else Tc
 |_,_=>Tc
theorem J4:∀{c b:qj},Qc c b=Ta->c=b
 |[],[],_=>rfl
 |[],_::_,h=>by simp[Qc]at h
 |_::_,[],h=>by simp[Qc]at h
 |(g,p)::c,(g',p')::b,h=>by simp only[Qc]at h;by_cases hb:mv g g'=Ta;simp only[hb,zK]at h;have e:=zao hb;cases p <;> cases p' <;> simp at h <;> rw[e,J4 h];grind
def lV(cs:qj):qj->Bool
 |[]=>Qc cs []
 |x::c=>bif Qc cs (x::c)then Ta else lV cs c
def J5{σ:Nat->Value}{cs:qj}:∀{c:qj},lV cs c=Ta->CT σ c->CT σ cs
 |[],h,_=>by rw[J4 h];trivial
 |x::c,h,hv=>by simp only[lV]at h;by_cases hb:Qc cs (x::c)=Ta;rw[J4 hb];exact hv;simp only[hb,zL]at h;exact J5 h hv.2
def jG(e:bR)(c:qj):n7->Option Value
 |.tmp t=>match look e t with
  |some (cs,v)=>bif lV cs c then Td v else Te
  |none=>Te
 |.const v=>Td v
 |.global g=>Td (.pointer (Td ⟨g,0,Te⟩))
 |.func f=>Td (.func (.func f) #[] #[])
theorem yc{e:bR}(h:Sat n e a){c:qj}(k:CT (ql a) c){x:n7}(b:jG e c x=Td v):a.eval x=v:=by
 cases x with
 |tmp t=>simp only[jG]at b;split at b;rename_i cs u j;by_cases i:lV cs c=Ta;simp only[i,zK,zad]at b;subst b;exact(h.all _ (pf j)).1 (J5 i k);grind;cases b
 |const u=>simp only[jG,zad]at b;exact b
 |global g=>simp only[jG,zad]at b;exact b
 |func f=>simp only[jG,zad]at b;exact b
def j4(e:bR)(c:qj)(x:n7):Value:=match jG e c x with
 |some v=>v
 |none=>undef
def known(e:bR)(c:qj):List n7->Bool
 |[]=>Ta
 |x::l=>match jG e c x with
  |some _=>known e c l
  |none=>Tc
def Wu{e:bR}(h:Sat n e a){c:qj}(j:CT (ql a) c){l:List n7}(b:known e c l=Ta):∀x∈l,a.eval x=j4 e c x:=by
 induction l with
 |nil=>simp
 |cons y l k=>intro x i;simp only[known]at b;split at b;rename_i v f;obtain rfl|i:=zal.1 i;rw[yc h j f];simp[j4,f];grind;cases b
def Js:Op->Bool
 |.select _ _=>Tc
 |_=>Ta
theorem u0{e:bR}(h:Sat n e a){c:qj}(j:CT (ql a) c)(f:Js o.op=Ta)(i:known e c o.op.operands.toList=Ta):hV a.eval o=hV (j4 e c) o:=
 execOp_congr o (λcs b hb=>ς hb f) λx k=>Wu h j i x (ψ k)
def jg(ops:Array n9)(j:Nat):Option Nat:=match ops[j]? with
 |some o=>o.dst
 |none=>Te
def Zq(ops:Array n9)(e:bR):Option (Nat×Bool)->Option qj
 |none=>Td []
 |some (j,p)=>match jg ops j with
  |some g=>match look e g with
   |some (cg,.bool _)=>Td ((g,p)::cg)
   |_=>Te
  |none=>Te
def uc(e:bR):qj->Option Bool
 |[]=>Td Ta
 |(g,p)::c=>match look e g with
  |some (cg,.bool b)=>bif Qc cg c then(match uc e c with
    |some cb=>Td (cb&&(bif p then b else !b))
    |none=>Te)else Te
  |_=>Te
def Gz{b:Bool}:undef≠.bool b:=by simp[undef]
def AD{n:Nat}{e:bR}{a:Act}(h:Sat n e a):∀{c:qj} {b:Bool},uc e c=Td b->(b=Ta↔CT (ql a) c)
 |[],b,hb=>by simp only[uc,zad]at hb;simp[<-hb,CT]
 |(g,p)::c,b,hb=>by
  simp only[uc]at hb;split at hb;rename_i q l m;by_cases k:Qc q c=Ta;simp only[k,zK]at hb;split at hb;rename_i cb i;simp only[zad]at hb;have o:=AD h i;have j:=h.all _ (pf m);rw[J4 k]at j;by_cases f:CT (ql a) c;have h1:ql a g=.bool l:=j.1 f;have h2:=o.2 f;subst hb;simp only[CT,h1,f,h2,zce,and_true,Value.bool.injEq];grind;have h1:cb=Tc:=by cases cb with|false=>rfl|true=>simp_all
  subst hb;simp[CT,f,h1];cases hb;grind;cases hb
def Qj{ops:Array n9}{e:bR}(h:Sat n e a){c:qj}(f:Zq ops e o.guard=Td c):zbj o (yielded ops a.tmps)=Ta↔CT (ql a) c:=by
 unfold zbj;cases hg:o.guard with
 |none=>rw[hg]at f;simp only[Zq,zad]at f;simp[<-f,CT]
 |some t=>
  have⟨j,p⟩:=t;rw[hg]at f;simp only[Zq]at f;split at f;rename_i g i;split at f;rename_i u b q;simp only[zad]at f;subst f;have k:((ops[j]?).bind (·.dst))=Td g:=by simp only[jg]at i;split at i;simp_all;cases i
  have m:=h.all _ (pf q);have r:yielded ops a.tmps j=Td p↔ql a g=.bool p:=by
   unfold yielded ql;rw[k];simp only[zc3];cases ht:a.tmps[g]? with
   |none=>simp[zb6,ht,undef]
   |some v=>cases v <;> simp[zb6,ht]
  simp only[beq_iff_eq,r,CT];constructor;intro h1;refine⟨h1,?_⟩;by_cases l:CT (ql a) u;exact l;have:=m.2 l;simp only at this;rw[h1]at this;exact absurd this.symm Gz;simp_all;cases f;cases f
structure BT (n:Nat) (h h':zc):Prop where
 size:h.size<=h'.size
 get:∀i,i<n->h'[i]?=h[i]?
theorem BT.refl(n:Nat)(h:zc):BT n h h:=⟨zac _,λ_ _=>rfl⟩
theorem BT.trans{a b c:zc}(h:BT n a b)(k:BT m b c)(e:n<=m):BT n a c:= ⟨zb8 h.size k.size,λi hi=>(k.get i (zda hi e)).trans (h.get i hi)⟩
theorem BT.mono{a b:zc}(h:BT n a b)(c:m<=n):BT m a b:=⟨h.size,λi hi=>h.get i (zda hi c)⟩
theorem BT.push(h:zc)(o:Obj)(b:n<=h.size):BT n h (h.push o):= ⟨ξ,λi hi=>η⟩
end
section
variable {P:EM} {α:Type} {h:zc} {v i:Value} {t:Nw} {g:Option Bool} {n l r:Int}
def zd(h:zc)(a:n8):Option Value:=
 match h[a.block]? with
 |some (.cells c _ _)=>if a.spot.isSome then Te else c[a.off]?
 |_=>Te
theorem CB(B:Nd)(d:Nat)(h:zc)(a:n8):(mk B d h).cell? a=zd h a:=rfl
def Je(P:EM){α:Type}:Sem α->Option α
 |.pure a=>Td a
 |.program k=>Je P (k P)
 |.mark _ k=>Je P k
 |_=>Te
def Bk(P:EM){α:Type}(s:Sem α)(h:zc)(x:α):Prop:=∀B d,s.run P (mk B d h)=.ok x (mk B d h)
def Fb{s:Sem α}{x:α}(h:Je P s=Td x)(w:Nd):s.run P w=.ok x w:=by
 induction s with
 |pure a=>simp only[Je,zad]at h;subst h;rfl
 |program k b=>exact b P h
 |mark m k b=>exact b h
 |_=>simp[Je]at h
theorem Vq{s:Sem α}{x:α}(h:Je P s=Td x)(b:zc):Bk P s b x:=λ_ _=>Fb h _
theorem Bk.bind{α β:Type}{s:Sem α}{f:α->Sem β}{x:α}{y:β}(h1:Bk P s h x)(h2:Bk P (f x) h y):Bk P (s >>= f) h y:=by intro B d;rw[DM,h1 B d];exact h2 B d
theorem Bk.pure(x:α):Bk P (zd3 x) h x:=λ_ _=>rfl
theorem Bk.val{s:Sem Value}(h1:Bk P s h v):Bk P (s >>= λx=>zd3 (zd8 x)) h (zd8 v):=h1.bind (Bk.pure _)
theorem Bk.underlying{d:TypeDesc}(b:P.underlying t=Td d):Bk P (Go.underlying t) h d:=by intro B e;simp[Go.underlying,program,b,Sem.run]
def yo(P:EM)(t:Nw):Nat:=match P.info? t with
 |some i=>i.size
 |none=>0
theorem Bk.sizeOf{i:TypeInfo}(hi:P.info? t=Td i):Bk P (Go.sizeOf t) h (yo P t):=by intro B d;simp[Go.sizeOf,typeInfo,program,hi,Sem.run,yo]
def Ok{d:TypeDesc}(b:P.underlying t=Td d):∃i,P.info? t=Td i:=by unfold Program.underlying at b;grind
inductive LE where
 |int (k:IntKind)|bool|str|sl|mp|ptr|raw|ad
structure Sl where
 a:Option n8
 len:Nat
 cap:Nat
@[reducible] def LE.den:LE->Type
 |.int _=>Int | .bool=>Bool | .str=>Bt | .sl=>Sl | .mp=>Option Nat | .ptr=>Option n8 | .raw=>Value | .ad=>n8
def LE.enc:(t:LE)->t.den->Value
 |.int k,n=>.int k n
 |.bool,b=>.bool b
 |.str,s=>.string s
 |.sl,s=>.slice s.a s.len s.cap
 |.mp,m=>.map m
 |.ptr,p=>.pointer p
 |.raw,v=>v
 |.ad,p=>.pointer (Td p)
def LE.dec:(t:LE)->Value->Option t.den
 |.int k,.int k' n=>if k=k' then Td n else Te
 |.bool,.bool b=>Td b
 |.str,.string s=>Td s
 |.sl,.slice a l c=>Td ⟨a,l,c⟩
 |.mp,.map m=>Td m
 |.ptr,.pointer p=>Td p
 |.raw,v=>Td v
 |.ad,.pointer (Td p)=>Td p
 |_,_=>Te
theorem LE.enc_of_dec{t:LE}{x:t.den}(h:t.dec v=Td x):t.enc x=v:=by
 cases t with
 |ad=>
  cases v with
  |pointer p=>
   cases p with
   |none=>simp[LE.dec]at h
   |some a=>simp[LE.dec]at h;rw[h];rfl
  |_=>simp[LE.dec]at h
 |_=>cases v <;> simp_all[LE.dec,LE.enc] <;> (grind)
inductive VT where
 |one (t:LE)
 |agg (l:List LE)
inductive RT where
 |one (v:VT)
 |tup (l:List VT)
def xG:List LE->(List Value->Prop)->Prop
 |[],F=>F []
 |t::l,F=>∃x:t.den,xG l λvs=>F (t.enc x::vs)
def Cj:VT->(Value->Prop)->Prop
 |.one t,F=>∃x:t.den,F (t.enc x)
 |.agg l,F=>xG l λvs=>F (.agg vs.toArray)
def Ag:List VT->(List Value->Prop)->Prop
 |[],F=>F []
 |t::l,F=>Cj t λv=>Ag l λvs=>F (v::vs)
def nj:RT->(Value->Prop)->Prop
 |.one v,F=>Cj v F
 |.tup l,F=>Ag l λvs=>F (.tuple vs.toArray)
def sW:List LE->(List Value->Prop)->Prop
 |[],F=>F []
 |t::l,F=>∀x:t.den,sW l λvs=>F (t.enc x::vs)
def sO:VT->(Value->Prop)->Prop
 |.one t,F=>∀x:t.den,F (t.enc x)
 |.agg l,F=>sW l λvs=>F (.agg vs.toArray)
def pt:List VT->(List Value->Prop)->Prop
 |[],F=>F []
 |t::l,F=>sO t λv=>pt l λvs=>F (v::vs)
def E6:RT->(Value->Prop)->Prop
 |.one v,F=>sO v F
 |.tup l,F=>pt l λvs=>F (.tuple vs.toArray)
def J6:∀{l:List LE} {F G:List Value->Prop},xG l F->sW l G->∃vs,DB vs=DB l/\F vs/\G vs
 |[],_,_,h,g=>⟨[],rfl,h,g⟩
 |_::_,_,_,⟨x,h⟩,g=>let ⟨vs,h0,h1,h2⟩:=J6 h (g x);⟨_,by simp[h0],h1,h2⟩
def xf:∀(l:List LE),sW l λ_=>True
 |[]=>trivial
 |_::l=>λ_=>xf l
def BL{v:VT}{F G:ac9}(h:Cj v F)(g:sO v G):∃u,F u/\G u:=by
 cases v with
 |one t=>have⟨x,h⟩:=h;exact⟨_,h,g x⟩
 |agg l=>have⟨vs,_,h1,h2⟩:=J6 h g;grind
def PP(v:VT):sO v λ_=>True:=by
 cases v with
 |one t=>exact λ_=>trivial
 |agg l=>exact xf l
def Ca:∀{l:List VT} {F G:List Value->Prop},Ag l F->pt l G->∃vs,F vs/\G vs
 |[],_,_,h,g=>⟨[],h,g⟩
 |_::_,_,_,h,g=>let ⟨_,h1,h2⟩:=BL h g;let ⟨_,h3,h4⟩:=Ca h1 h2;⟨_,h3,h4⟩
def Iz:∀(l:List VT),pt l λ_=>True
 |[]=>trivial
 |v::l=>by
  have h:=Iz l;simp only[pt];cases v with
  |one t=>exact λ_=>h
  |agg b=>
   simp only[sO];have key:∀(b:List LE) (f:List Value->List Value),sW b λ_=>pt l λ_=>True:=λb _=>by
    induction b with
    |nil=>exact h
    |cons t b c=>exact λ_=>c
   exact key b id
theorem Il{r:RT}{F G:ac9}(h:nj r F)(g:E6 r G):∃v,F v/\G v:=by
 cases r with
 |one v=>exact BL h g
 |tup l=>have⟨vs,h1,h2⟩:=Ca h g;grind
def xK{r:RT}{F:ac9}(h:nj r F):∃v,F v:=by
 cases r with
 |one v=>have⟨u,h1,_⟩:=BL h (PP v);grind
 |tup l=>have⟨vs,h1,_⟩:=Ca h (Iz l);grind
def LJ:TypeDesc->LE
 |.int k=>.int k
 |.bool=>.bool
 |.string=>.str
 |.slice _=>.sl
 |.map _ _=>.mp
 |.pointer _=>.ptr
 |_=>.raw
def uA(P:EM):Nat->Nw->Option (List LE)
 |0,_=>Te
 |n+1,t=>match P.underlying t with
  |some (.struct fs)=>fs.toList.foldr (λf l=>match uA P n f.type,l with
    |some x,some y=>Td (x++y)
    |_,_=>Te) (Td [])
  |some (.array m e)=>match uA P n e with
    |some x=>Td (List.replicate m x).flatten
    |none=>Te
  |some d=>Td [LJ d]
  |none=>Te
def kX(P:EM)(t:Nw):Option VT:=match P.underlying t with
 |some (.struct _)|some (.array _ _)=>match uA P 8 t with
  |some l=>bif mv l.length (yo P t)then Td (.agg l)else Te
  |none=>Te
 |some d=>Td (.one (LJ d))
 |none=>Te
def Ft(P:EM):List Nw->Option (List VT)
 |[]=>Td []
 |t::l=>match kX P t,Ft P l with
  |some x,some y=>Td (x::y)
  |_,_=>Te
def tU(P:EM)(t:Nw):Option RT:=match P.underlying t with
 |some (.tuple ts)=>match Ft P ts.toList with
  |some l=>Td (.tup l)
  |none=>Te
 |_=>match kX P t with
  |some v=>Td (.one v)
  |none=>Te
def req:Option Bool->Prop->Prop
 |none,p=>p
 |some b,p=>b=Ta->p
def ij:Option Bool->Prop
 |none=>True
 |some b=>b=Ta
theorem req.out{p:Prop}(h:req g p)(c:ij g):p:=by
 cases g with
 |none=>exact h
 |some b=>exact h c
def ze(h:zc)(p:n8):Nat->List Value->Prop
 |_,[]=>True
 |i,v::vs=>zd h (p.add i)=Td v/\ze h p (i+1) vs
def oc(P:EM)(h:zc)(t:Nw)(p:Value)(g:Option Bool)(K:Value->Prop):Prop:=
 match p,kX P t with
 |.pointer (Td p),Td (.one a)=>∃x:a.den,req g (zd h p=Td (a.enc x))/\K (a.enc x)
 |.pointer (Td p),Td (.agg l)=>xG l λvs=>req g (ze h p 0 vs)/\K (.agg vs.toArray)
 |_,_=>False
def E8{P:EM}{h:zc}{p:n8}:∀(vs:ac1) (i:Nat) (b:ac2),ze h p i vs->Bk P (loadCellsFrom p i (DB vs) b) h (b++vs.toArray)
 |[],i,b,_=>by intro B d;simp[loadCellsFrom]
 |v::vs,i,b,⟨h1,h2⟩=>by have c:=E8 (P:=P) vs (i+1) (b.push v) h2;intro B d;simp only[za1,loadCellsFrom,DM,run_load];rw[CB,h1];simp only[D0];rw[c B d];simp
def qY{a:LE}{p:n8}(c:kX P t=Td (.one a))(i:zd h p=Td v):Bk P (loadVar t p) h v:=by
 unfold kX at c;cases hu:P.underlying t with
 |none=>simp_all
 |some d=>
  rw[hu]at c;intro B e;have f:=Bk.underlying (h:=h) hu B e;have b:(isAgg t).run P (mk B e h)=.ok Tc (mk B e h):=by unfold isAgg;rw[DM,f];cases d <;> first|rfl|grind
  unfold loadVar;rw[DM,b];simp only[D0,zca,if_false,run_load];rw[CB,i]
def rS{l:List LE}{p:n8}{vs:ac1}(c:kX P t=Td (.agg l))(u:vs.length=DB l)(q:ze h p 0 vs):Bk P (loadVar t p) h (.agg vs.toArray):=by
 unfold kX at c;cases hu:P.underlying t with
 |none=>simp_all
 |some d=>
  rw[hu]at c;have⟨i,hi⟩:=Ok hu;have b:(∃f,d=.struct f)\/(∃n e,d=.array n e):=by cases d <;> first|exact Or.inl ⟨_,rfl⟩|exact Or.inr ⟨_,_,rfl⟩|(simp at c)
  have r:yo P t=DB l:=by
   have j:(match uA P 8 t with
    |some l=>cond (mv (DB l) (yo P t)) (Td (VT.agg l)) Te
    |none=>Te)=Td (.agg l):=by
    obtain⟨f,rfl⟩|⟨n,e,rfl⟩:=b <;> exact c
   split at j;rename_i o _;cases hb:mv (DB o) (yo P t)with
   |false=>simp_all
   |true=>simp_all
   cases j
  intro B e;have k:=Bk.underlying (h:=h) hu B e;have hA:(isAgg t).run P (mk B e h)=.ok Ta (mk B e h):=by unfold isAgg;rw[DM,k];obtain⟨f,rfl⟩|⟨n,w,rfl⟩:=b <;> rfl
  have m:=Bk.sizeOf (h:=h) hi B e;unfold loadVar;rw[DM,hA];simp only[D0,if_true];rw[DM,m];simp only[D0];have hL:=E8 (P:=P) vs 0 #[] q B e;unfold loadCells;simp_all
def IN{p:Value}{K:ac9}(H:oc P h t p g K):∃v,K v/\(ij g->Bk P (zeg t p) h v):=by unfold oc at H;split at H;rename_i q a b;have⟨x,h1,h2⟩:=H;exact⟨_,h2,λc=>qY b (h1.out c)⟩;rename_i q l b;have⟨vs,h0,⟨h1,h2⟩,_⟩:=J6 H (xf l);exact⟨_,h2,λc=>rS b h0 (h1.out c)⟩;cases H
def tj(P:EM)(t:Nw)(x i:Value)(g:Option Bool)(K:Value->Prop):Prop:=
 match P.underlying t with
 |some (.slice el)=>match x,i with
  |.slice base len _,.int _ n=>∃a:n8,req g (base=Td a/\0<=n/\n<(len:Int))/\K (.pointer (Td (a.add (n.toNat*yo P el))))
  |_,_=>False
 |some (.array len el)=>match x,i with
  |.pointer base,.int _ n=>∃a:n8,req g (base=Td a/\0<=n/\n<(len:Int))/\K (.pointer (Td (a.add (n.toNat*yo P el))))
  |_,_=>False
 |_=>False
def yf(P:EM)(t:Nw):Bool:=match P.info? t with
 |some _=>Ta
 |none=>Tc
theorem jv(h:yf P t=Ta):∃i,P.info? t=Td i:=by unfold yf at h;grind
def xw(t:Nw)(B:Nd)(d:Nat):(∃i,P.info? t=Td i)->(Go.sizeOf t).run P (mk B d h)=.ok (yo P t) (mk B d h):=λ⟨_,hi⟩=>Bk.sizeOf hi B d
def Qk{x i:Value}{K:ac9} (c:∀el,(P.underlying t=Td (.slice el)\/∃n,P.underlying t=Td (.array n el))->∃i,P.info? el=Td i) (H:tj P t x i g K):∃v,K v/\(ij g->∀h:zc,Bk P (ze5 t x i) h v):=by unfold tj at H;split at H;rename_i el b;split at H;rename_i base len cap k n;have⟨a,h1,h2⟩:=H;refine⟨_,h2,λj=>?_⟩;obtain⟨rfl,e,m⟩:=h1.out j;intro h B d;have l:=Bk.underlying (h:=h) b B d;have f:=xw (h:=h) el B d (c el (Or.inl b));unfold ze5;simp[asIntOf,DM,l,f,e,m];cases H;rename_i len el b;split at H;rename_i base k n;have⟨a,h1,h2⟩:=H;refine⟨_,h2,λj=>?_⟩;obtain⟨rfl,e,m⟩:=h1.out j;intro h B d;have l:=Bk.underlying (h:=h) b B d;have f:=xw (h:=h) el B d (c el (Or.inr ⟨_,b⟩));unfold ze5;simp[asIntOf,DM,l,f,e,m,zem];cases H;cases H
def zf(s:Bt)(i:Nat):Int:=((s.data[i]?.getD 0).toNat:Int)
def AE(x i:Value)(g:Option Bool)(K:Value->Prop):Prop:=
 match x,i with
 |.string s,.int _ n=>req g (0<=n/\n<(s.size:Int))/\K (.int .u8 (zf s n.toNat))
 |_,_=>False
def WZ(s:Bt)(i:Nat)(h:i<s.size):s[i]?=Td (s.data[i]?.getD 0):=by have h':i<s.data.size:=h;rw[getElem?_pos s i h];simp[zcc h'];rfl
def LH{x i:Value}{K:ac9}(b:P.underlying t=Td .string)(H:AE x i g K):∃v,K v/\(ij g->∀h:zc,Bk P (Instr.index t x i) h v):=by unfold AE at H;split at H;rename_i s k n;have⟨h1,h2⟩:=H;refine⟨_,h2,λe=>?_⟩;have⟨c,j⟩:=h1.out e;intro h B d;have f:=Bk.underlying (h:=h) b B d;unfold Instr.index;have hb:=WZ s n.toNat ω;simp only[asIntOf,DM,f,DQ,D0,c,if_true,hb,zf];cases H
def iy(a:Option n8)(sz l m:Nat):Option n8:=if m=l then a else a.map (·.add (l*sz))
def jd:Option Value->Int->Option Int
 |none,d=>Td d
 |some (.int _ n),_=>Td n
 |some _,_=>Te
def yG(P:EM)(t:Nw)(x:Value)(lo hi mx:Option Value)(g:Option Bool)(K:Value->Prop):Prop:=
 match P.underlying t with
 |some .string=>match x,mx with
  |.string s,none=>match jd lo 0,jd hi (s.size:Int)with
   |some l,some r=>req g (0<=l/\l<=r/\r<=(s.size:Int))/\K (.string (s.extract l.toNat r.toNat))
   |_,_=>False
  |_,_=>False
 |some (.slice el)=>match x with
  |.slice a len cap=>match jd lo 0,jd hi (len:Int),jd mx (cap:Int)with
   |some l,Td r,some m=>(mx=Te\/∃v,hi=Td v)/\req g (0<=l/\l<=r/\r<=m/\m<=(cap:Int))/\K (.slice (iy a (yo P el) l.toNat m.toNat) (r.toNat-l.toNat) (m.toNat-l.toNat))
   |_,_,_=>False
  |_=>False
 |some (.array n el)=>match x,mx with
  |.pointer (Td a),none=>match jd lo 0,jd hi (n:Int)with
   |some l,some r=>req g (0<=l/\l<=r/\r<=(n:Int))/\K (.slice (iy (Td a) (yo P el) l.toNat n) (r.toNat-l.toNat) (n-l.toNat))
   |_,_=>False
  |_,_=>False
 |_=>False
def jw{v:Option Value}{d n:Int}(h:jd v d=Td n):(v=Te/\n=d)\/∃k,v=Td (.int k n):=by unfold jd at h;grind
def jh{k:IntKind}{y:Nat}{c:BoundsCode}(h0:0<=n)(h1:n<=(y:Int)):Bk P (Instr.sliceBound (.int k n) y c) h n.toNat:=by intro B d;simp[Instr.sliceBound,asIntOf,h0,h1]
def HN{n:Nat}{lo hi:Option Value}(f:jd lo 0=Td l)(j:jd hi (n:Int)=Td r)(c:0<=l)(i:l<=r)(b:r<=(n:Int)):Bk P (Instr.sliceBounds Tc n n lo hi Te) h (l.toNat,r.toNat,n):=by have e:(r.toNat:Int)=r:=Int.toNat_of_nonneg ω;obtain⟨rfl,rfl⟩|⟨k,rfl⟩:=jw f <;> obtain⟨rfl,rfl⟩|⟨k',rfl⟩:=jw j;exact Bk.pure _;exact Bk.bind (Bk.pure n) (Bk.bind (jh ω b) (Bk.pure _));exact Bk.bind (Bk.pure n) (Bk.bind (Bk.pure n) (Bk.bind (jh c i) (Bk.pure _)));exact Bk.bind (Bk.pure n) (Bk.bind (jh ω b) (Bk.bind (jh c ω) (Bk.pure _)))
def zs3{len cap:Nat}{lo hi mx:Option Value}{l r m:Int}(f:jd lo 0=Td l)(i:jd hi (len:Int)=Td r)(o:jd mx (cap:Int)=Td m) (h0:mx=Te\/∃v,hi=Td v) (b:0<=l) (p:l<=r) (n:r<=m) (j:m<=(cap:Int)):Bk P (Instr.sliceBounds Ta len cap lo hi mx) h (l.toNat,r.toNat,m.toNat):=by have e:(r.toNat:Int)=r:=Int.toNat_of_nonneg ω;have u:(m.toNat:Int)=m:=Int.toNat_of_nonneg ω;obtain⟨rfl,rfl⟩|⟨t,rfl⟩:=jw o;obtain⟨rfl,rfl⟩|⟨k,rfl⟩:=jw f <;> obtain⟨rfl,rfl⟩|⟨q,rfl⟩:=jw i;exact Bk.pure _;exact Bk.bind (Bk.pure cap) (Bk.bind (jh ω n) (Bk.pure _));exact Bk.bind (Bk.pure cap) (Bk.bind (Bk.pure len) (Bk.bind (jh b p) (Bk.pure _)));exact Bk.bind (Bk.pure cap) (Bk.bind (jh ω n) (Bk.bind (jh b ω) (Bk.pure _)));obtain h0|⟨v,rfl⟩:=h0;cases h0;obtain⟨c,_⟩|⟨q,c⟩:=jw i;cases c;cases c;obtain⟨rfl,rfl⟩|⟨k,rfl⟩:=jw f;exact Bk.bind (x:=m.toNat) (jh ω j) (Bk.bind (jh ω ω) (Bk.pure _));exact Bk.bind (x:=m.toNat) (jh ω j) (Bk.bind (jh ω ω) (Bk.bind (jh b ω) (Bk.pure _)))
def Jf{x:Value}{lo hi mx:Option Value}{K:ac9} (o:∀el,(P.underlying t=Td (.slice el)\/∃n,P.underlying t=Td (.array n el))->∃i,P.info? el=Td i) (H:yG P t x lo hi mx g K):∃v,K v/\(ij g->∀h:zc,Bk P (zet t x lo hi mx) h v):=by unfold yG at H;split at H;rename_i b;split at H;rename_i s;split at H;rename_i l r e f;have⟨h1,h2⟩:=H;refine⟨_,h2,λk=>?_⟩;have⟨j,p,q⟩:=h1.out k;intro h B d;have c:=Bk.underlying (h:=h) b B d;have bb:=HN (P:=P) (h:=h) e f j p q B d;unfold zet;rw[DM,c];simp only[D0];unfold Instr.slice;simp_all;cases H;cases H;rename_i el b;split at H;rename_i a len cap;split at H;rename_i l r m e f w;have⟨h0,h1,h2⟩:=H;refine⟨_,h2,λk=>?_⟩;have⟨j,p,q,y⟩:=h1.out k;intro h B d;have c:=Bk.underlying (h:=h) b B d;have u:=xw (h:=h) el B d (o el (.inl b));have bb:=zs3 (P:=P) (h:=h) e f w h0 j p q y B d;unfold zet;rw[DM,c];simp only[D0];unfold Instr.slice;rw[DM,c];simp[bb,u,iy];cases H;cases H;rename_i n el b;split at H;rename_i a;split at H;rename_i l r e f;have⟨h1,h2⟩:=H;refine⟨_,h2,λk=>?_⟩;have⟨j,p,q⟩:=h1.out k;intro h B d;have c:=Bk.underlying (h:=h) b B d;have u:=xw (h:=h) el B d (o el (.inr ⟨n,b⟩));have bb:=HN (P:=P) (h:=h) e f j p q B d;unfold zet;rw[DM,c];simp only[D0,zem,DM,DQ,bb,u];unfold iy;split <;> rfl;cases H;cases H;cases H
end
section
variable {P:EM} {f:n4} {h:zc} {K:Value -> zc -> Prop} {t ty t':Nw} {g:Option Bool} {w w':Nd} {v:Value} {o:n9} {ρ:n7 -> Value} {a:Act}
def XC(P:EM)(f:n4)(args:Array Value)(h:zc)(R:Value->zc->Prop):Prop:=
 ∀B d,Calls P f args (mk B d h) λe w'=>∃v b h',e=.returned v/\w'=mk B b h'/\R v h'
theorem XC.mono{args:ac2}{R b:vvv}(H:XC P f args h R)(e:∀v h',R v h'->b v h'):XC P f args h b:= λB d=>(H B d).mono λ_ _ ⟨v,i,h',c,j,r⟩=>⟨v,i,h',c,j,e _ _ r⟩
def qq(P:EM)(s:Sem Value)(h:zc)(K:Value->zc->Prop):Prop:=∀B d,∃v b h',s.run P (mk B d h)=.ok v (mk B b h')/\K v h'
def CA(P:EM)(s:Sem Unit)(h:zc)(K:zc->Prop):Prop:=∀B d,∃b h',s.run P (mk B d h)=.ok () (mk B b h')/\K h'
theorem CA.mono{s:Sem Unit}{K b:zc->Prop}(H:CA P s h K)(c:∀h',K h'->b h'):CA P s h b:= λB d=>let ⟨d',h',e,k⟩:=H B d;⟨d',h',e,c _ k⟩
def qg(n:Nat):Prop:=n<=9223372036854775807
def lA(P:EM)(s:Sem Next)(K:Value->Prop):Prop:=match Je P s with
 |some (.value v)=>K v
 |_=>False
def uO(P:EM)(ty:Nw)(s:Sem Value)(g:Option Bool)(h:zc)(K:Value->Prop):Prop:=match tU P ty with
 |some b=>nj b λv=>req g (Bk P s h v)/\K v
 |none=>False
def pZ(P:EM)(t:Nw):Bool:=match P.underlying t with
 |some (.slice _)=>Ta
 |_=>Tc
def pQ(P:EM)(t:Nw):Bool:=match P.underlying t with
 |some (.pointer e)=>mv e (P.pointee t)
 |_=>Tc
def ED(h:pQ P t=Ta):P.underlying t=Td (.pointer (P.pointee t)):=by unfold pQ at h;grind [zao]
def ug(P:EM)(t:Nw)(s:Sem Next)(c:BinOp)(x y:Value)(g:Option Bool)(K:Value->Prop):Prop:=
 match c,x,y with
 |.eql,.slice a _ _,.slice Te 0 0=>bif pZ P t then K (.bool a.isNone)else lA P s K
 |.neq,.slice a _ _,.slice Te 0 0=>bif pZ P t then K (.bool (!a.isNone))else lA P s K
 |.eql,.pointer a,.pointer none=>bif pQ P t then K (.bool a.isNone)else lA P s K
 |.neq,.pointer a,.pointer none=>bif pQ P t then K (.bool (!a.isNone))else lA P s K
 |.quo,.int k a,.int k' b=>k=k'/\req g (b≠0)/\K (.int k (k.wrap (a.tdiv b)))
 |.rem,.int k a,.int k' b=>k=k'/\req g (b≠0)/\K (.int k (a.tmod b))
 |.add,.string a,.string b=>req g (qg (a.size+b.size))/\K (.string (a++b))
 |_,_,_=>lA P s K
def A5(b:BinOp)(y:n7):Bool:=match y with
 |.const _=>Tc
 |_=>match b with
  |.shl | .shr=>Ta
  |_=>Tc
def wT(c:BinOp)(x y:Value)(g:Option Bool)(K:Value->Prop):Prop:=
 match x,y with
 |.int k a,.int _ b=>match c with
  |.shl=>req g (0<=b)/\K (.int k (k.wrap (a*2 ^ (min b.toNat k.bits))))
  |.shr=>req g (0<=b)/\K (.int k (a.fdiv (2 ^ (min b.toNat k.bits))))
  |_=>False
 |_,_=>False
def rP(P:EM)(t:Nw)(y:n7):Bool:=match y with
 |.const .nilIface=>match P.underlying t with
  |some (.interface _)=>Ta
  |_=>Tc
 |_=>Tc
def oB:Value->Bool
 |.nilIface=>Ta
 |.iface _ _=>Ta
 |_=>Tc
def pp:Value->Bool
 |.nilIface=>Ta
 |_=>Tc
def vj(b:BinOp)(x y:Value)(g:Option Bool)(K:Value->Prop):Prop:=match y with
 |.nilIface=>match b with
  |.eql=>req g (oB x=Ta)/\K (.bool (pp x))
  |.neq=>req g (oB x=Ta)/\K (.bool (!pp x))
  |_=>False
 |_=>False
def FX(b:Builtin)(c:Array Nw)(e:Nw)(args:Array Value):Option (Sem Value):=
 match b with
 |.append=>Td (zaj c e args)
 |.copy=>Td (Builtin.copy_ c e args)
 |.clear=>Td (Builtin.clear_ c e args)
 |.delete=>Td (Builtin.delete_ c e args)
 |.len=>Td (zdn c e args)
 |_=>Te
def BD(P:EM)(s:Sem Next)(ty:Nw)(b:Array Nw)(args:Array Value)(g:Option Bool)(h:zc)(K:Value->Prop):Prop:=
 match (args[0]?:Option Value)with
 |some (Value.map _)=>uO P ty (zdn b ty args) g h K
 |_=>lA P s K
def mJ(P:EM)(t:Nw):Bool:=match P.underlying t with
 |some (.slice el)=>yf P el
 |some (.array _ el)=>yf P el
 |_=>Ta
def Qd(h:mJ P t=Ta):∀el,(P.underlying t=Td (.slice el)\/∃n,P.underlying t=Td (.array n el))->∃i,P.info? el=Td i:=by intro el b;unfold mJ at h;grind [jv]
def rZ(P:EM)(t:Nw):Bool:=match P.underlying t with
 |some .string=>Ta
 |_=>Tc
def Eo(h:rZ P t=Ta):P.underlying t=Td .string:=by unfold rZ at h;grind
def vo(P:EM)(s:Sem Next)(x:Value)(g:Option Bool)(K:Value->Prop):Prop:=match x with
 |.pointer p=>∃a:n8,req g (p=Td a)/\K (.pointer (Td a))
 |_=>lA P s K
def jO(P:EM)(o:n9)(ρ:n7->Value)(g:Option Bool)(h:zc)(K:Value->Prop):Prop:=
 match o.op with
 |.load t a=>oc P h t (ρ a) g K
 |.indexAddr t x i=>bif mJ P t then tj P t (ρ x) (ρ i) g K else False
 |.index t x i=>bif rZ P t then AE (ρ x) (ρ i) g K else lA P (hV ρ o) K
 |.slice t x lo hi mx=>bif mJ P t then yG P t (ρ x) (lo.map ρ) (hi.map ρ) (mx.map ρ) g K else False
 |.binOp b t x y _=>bif A5 b y then wT b (ρ x) (ρ y) g K else bif rP P t y then vj b (ρ x) (ρ y) g K else ug P t (hV ρ o) b (ρ x) (ρ y) g K
 |.lookup t m k ok=>uO P o.type (zcy t (ρ m) (ρ k) ok) g h K
 |.nilCheck x=>vo P (hV ρ o) (ρ x) g K
 |.call c=>match c.callee with
  |.builtin .len=>BD P (hV ρ o) o.type c.argTypes (c.args.map ρ) g h K
  |_=>lA P (hV ρ o) K
 |_=>lA P (hV ρ o) K
def qn{s:Sem Next}{K:ac9}(H:lA P s K)(g:ac8):∃v,K v/\(ij g->∀h:zc,Bk P s h (.value v)):=by unfold lA at H;grind [Vq]
def Ms{s:Sem Value}{K:ac9}(H:uO P ty s g h K):∃v,K v/\(ij g->Bk P s h v):=by unfold uO at H;split at H;have⟨v,h1,h2⟩:=xK H;exact⟨v,h2,λb=>h1.out b⟩;cases H
theorem Zr{c:BinOp}(t:Nw)(x y:n7)(a b:Value)(h1:(c matches .eql | .neq)=Tc):eqGuard c t x y a b=pure ():=by unfold eqGuard;grind
def uG{s:Sem Value}(h:s.run P w=.ok v w'):(s >>= λx=>(zd3 (zd8 x):Sem Next)).run P w=.ok (.value v) w':=θ
def pv{s:Sem Next}{K:ac9}(h:zc)(H:∃v,K v/\(ij g->∀h:zc,Bk P s h (.value v))):∃v,K v/\(ij g->Bk P s h (.value v)):=
 let ⟨v,h1,h2⟩:=H;⟨v,h1,λb=>h2 b h⟩
def MV{p:BinOp}{x y:n7}(q:o.op=.binOp p t x y t'){K:ac9}(H:ug P t (hV ρ o) p (ρ x) (ρ y) g K):∃v,K v/\(ij g->∀h:zc,Bk P (hV ρ o) h (.value v)):=by
 have f:∀(p:BinOp) (x y:n7) (a b:Option n8) (l c u r:Nat) (w:Nd),(eqGuard p t x y (.slice a l c) (.slice b u r)).run P w=.ok () w:=λp x y a b l c u r w=>by unfold eqGuard;simp
 have e:∀(p:BinOp) (x y:n7) (a b:Option n8) (w:Nd),(eqGuard p t x y (.pointer a) (.pointer b)).run P w=.ok () w:=λp x y a b w=>by unfold eqGuard;simp
 unfold ug at H;split at H;rename_i a l c j i;cases hs:pZ P t with
 |false=>rw[hs]at H;exact qn H g
 |true=>
  rw[hs,zK]at H;refine⟨_,H,λn h B d=>?_⟩;have m:∃el,P.underlying t=Td (.slice el):=by unfold pZ at hs;split at hs;simp_all;cases hs
  have⟨el,m⟩:=m;simp only[hV,q,j,i];refine uG ?_;rw[DM,f];simp only[D0,binOp,DM,run_equal_slice_nil _ t _ _ _ _ m];rfl
 rename_i a l c j i;cases hs:pZ P t with
 |false=>rw[hs]at H;exact qn H g
 |true=>
  rw[hs,zK]at H;refine⟨_,H,λn h B d=>?_⟩;have m:∃el,P.underlying t=Td (.slice el):=by unfold pZ at hs;split at hs;simp_all;cases hs
  have⟨el,m⟩:=m;simp only[hV,q,j,i];refine uG ?_;rw[DM,f];simp only[D0,binOp,DM,run_equal_slice_nil _ t _ _ _ _ m];rfl
 rename_i a j i;cases hs:pQ P t with
 |false=>rw[hs]at H;exact qn H g
 |true=>rw[hs,zK]at H;refine⟨_,H,λn h B d=>?_⟩;have m:=ED hs;simp only[hV,q,j,i];refine uG ?_;rw[DM,e];simp only[D0,binOp,DM,run_equal_pointer_nil _ t _ m];rfl
 rename_i a j i;cases hs:pQ P t with
 |false=>rw[hs]at H;exact qn H g
 |true=>rw[hs,zK]at H;refine⟨_,H,λn h B d=>?_⟩;have m:=ED hs;simp only[hV,q,j,i];refine uG ?_;rw[DM,e];simp only[D0,binOp,DM,run_equal_pointer_nil _ t _ m];rfl
 rename_i k a A b j i;obtain⟨rfl,h1,h2⟩:=H;refine⟨_,h2,λn=>?_⟩;have hb:=h1.out n;intro h B d;simp only[hV,q,j,i];rw[Zr _ _ _ _ _ rfl];simp[binOp,Op.intDiv,hb];rename_i k a A b j i;obtain⟨rfl,h1,h2⟩:=H;refine⟨_,h2,λn=>?_⟩;have hb:=h1.out n;intro h B d;simp only[hV,q,j,i];rw[Zr _ _ _ _ _ rfl];simp[binOp,Op.intDiv,hb];rename_i a b j i;have⟨h1,h2⟩:=H;refine⟨_,h2,λn=>?_⟩;have hb:=h1.out n;intro h B d;simp only[hV,q,j,i];rw[Zr _ _ _ _ _ rfl];have z:¬((a.size+b.size:Nat):Int)>IntKind.i64.max:=by
  unfold qg at hb;have:IntKind.i64.max=9223372036854775807:=ζ
  omega
 simp only[binOp,Op.stringOp,zv z];rfl;exact qn H g
def Rj{j:BinOp}{x y:n7}(e:o.op=.binOp j t x y t'){K:ac9}(H:wT j (ρ x) (ρ y) g K):∃v,K v/\(ij g->∀h:zc,Bk P (hV ρ o) h (.value v)):=by unfold wT at H;split at H;rename_i k a l b i f;split at H;have⟨h1,h2⟩:=H;refine⟨_,h2,λc h B d=>?_⟩;have hb:=h1.out c;simp only[hV,e,i,f];rw[Zr _ _ _ _ _ rfl];simp only[binOp,Op.shift,zv (show¬b<0 by omega)];rfl;have⟨h1,h2⟩:=H;refine⟨_,h2,λc h B d=>?_⟩;have hb:=h1.out c;simp only[hV,e,i,f];rw[Zr _ _ _ _ _ rfl];simp only[binOp,Op.shift,zv (show¬b<0 by omega)];rfl;cases H;cases H
def Ov{b:BinOp}{x y:n7}(i:o.op=.binOp b t x y t'){K:ac9}(hb:rP P t y=Ta) (H:vj b (ρ x) (ρ y) g K):∃v,K v/\(ij g->∀h:zc,Bk P (hV ρ o) h (.value v)):=by
 have f:∃ms,P.underlying t=Td (.interface ms)/\y=.const .nilIface:=by unfold rP at hb;split at hb;grind;cases hb
 obtain⟨ms,f,rfl⟩:=f;have key:∀{u:Value} (h:zc),oB u=Ta->Bk P (ze9 t u .nilIface) h (pp u):=by intro u h hi B d;have l:=Bk.underlying (h:=h) f B d;unfold ze9 Op.maxDepth;cases u <;> first|(cases hi;done)|(unfold Op.equalIn;rw[DM,l];rfl)
 have k:∀b u (h:zc),oB u=Ta->Bk P (eqGuard b t x (.const .nilIface) u .nilIface) h ():=by intro b u h hi B d;unfold eqGuard;cases u <;> first|simp|simp
 have c:∀b u,oB u=Ta->(binOp b t u .nilIface=match b with | .eql=>(do pure (.bool (<-ze9 t u .nilIface))) | .neq=>(do pure (.bool (!(<-ze9 t u .nilIface))))|_=>binOp b t u .nilIface):=by intro b u hi;cases u <;> first|(cases hi;done)|(cases b <;> rfl)
 unfold vj at H;split at H;rename_i j;split at H;refine⟨_,H.2,λe h=>?_⟩;have hi:=H.1.out e;simp only[hV,i,j];refine Bk.val ((k _ _ h hi).bind ?_);rw[c _ _ hi];exact(key h hi).bind (Bk.pure _);refine⟨_,H.2,λe h=>?_⟩;have hi:=H.1.out e;simp only[hV,i,j];refine Bk.val ((k _ _ h hi).bind ?_);rw[c _ _ hi];exact(key h hi).bind (Bk.pure _);cases H;cases H
def As{b:BinOp}{x y:n7}(c:o.op=.binOp b t x y t'){K:ac9}(H:cond (A5 b y) (wT b (ρ x) (ρ y) g K) (cond (rP P t y) (vj b (ρ x) (ρ y) g K) (ug P t (hV ρ o) b (ρ x) (ρ y) g K))):∃v,K v/\(ij g->∀h:zc,Bk P (hV ρ o) h (.value v)):=by
 cases hb:A5 b y with
 |true=>rw[hb]at H;exact Rj c H
 |false=>
  rw[hb]at H;cases hn:rP P t y with
  |true=>rw[hn]at H;exact Ov c hn H
  |false=>rw[hn]at H;exact MV c H
theorem WY{c:Call}(b:o.op=.call c)(f:c.callee=.builtin .len){K:ac9}(H:BD P (hV ρ o) o.type c.argTypes (c.args.map ρ) g h K):∃v,K v/\(ij g->Bk P (hV ρ o) h (.value v)):=by unfold BD at H;split at H;have⟨v,h1,h2⟩:=Ms H;refine⟨v,h1,λe=>?_⟩;have:=h2 e;intro B d;simp only[hV,b,resolve,f,DM,DQ,D0,invoke,builtin];rw[this B d];rfl;exact pv h (qn H g)
theorem yQ{K:ac9}(H:jO P o ρ g h K):∃v,K v/\(ij g->Bk P (hV ρ o) h (.value v)):=by
 unfold jO at H;split at H;rename_i t a b;have⟨v,h1,h2⟩:=IN H;refine⟨v,h1,λe=>?_⟩;simp only[hV,b];exact(h2 e).val;rename_i t x i b;cases he:mJ P t with
 |false=>simp_all
 |true=>rw[he]at H;have⟨v,h1,h2⟩:=Qk (Qd he) H;refine⟨v,h1,λe=>?_⟩;simp only[hV,b];exact(h2 e h).val
 rename_i t x i b;cases he:rZ P t with
 |false=>rw[he]at H;exact pv h (qn H g)
 |true=>rw[he]at H;have⟨v,h1,h2⟩:=LH (Eo he) H;refine⟨v,h1,λe=>?_⟩;simp only[hV,b];exact(h2 e h).val
 rename_i t x lo hi mx b;cases he:mJ P t with
 |false=>simp_all
 |true=>rw[he]at H;have⟨v,h1,h2⟩:=Jf (Qd he) H;refine⟨v,h1,λe=>?_⟩;simp only[hV,b];exact(h2 e h).val
 rename_i l t x y t' b;exact pv h (As b H);rename_i t m k ok b;have⟨v,h1,h2⟩:=Ms H;refine⟨v,h1,λe=>?_⟩;simp only[hV,b];exact(h2 e).val;rename_i x b;unfold vo at H;split at H;rename_i p j;have⟨a,h1,h2⟩:=H;refine⟨_,h2,λe=>?_⟩;have f:=h1.out e;subst f;intro B d;simp only[hV,b,j];rfl;exact pv h (qn H g);rename_i c b;split at H;simp_all[WY];exact pv h (qn H g);exact pv h (qn H g)
def mt(o:n9):Bool:=match o.op with
 |.lookup .. => Tc
 |.call c=>match c.callee with
  |.builtin .len=>Tc
  |_=>Ta
 |_=>Ta
def QA{p:n8}(H:zd h p=Td v):p.block<h.size:=by unfold zd at H;grind
def F5{h h':zc}(k:BT h.size h h'){p:n8}(H:zd h p=Td v):zd h' p=Td v:=by have:=QA H;unfold zd at H ⊢;rw[k.get _ this];exact H
def IH{h h':zc}(k:BT h.size h h'){p:n8}:∀{vs:ac1} {i:Nat},ze h p i vs->ze h' p i vs
 |[],_,_=>trivial
 |_::_,_,⟨h1,h2⟩=>⟨F5 k h1,IH k h2⟩
def vc{K:ac9}(u:mt o=Ta)(H:jO P o ρ g h K):∃v,K v/\(ij g->∀h',BT h.size h h'->Bk P (hV ρ o) h' (.value v)):=by
 unfold jO at H;split at H;rename_i t a e;unfold oc at H;split at H;rename_i q b j r;have⟨x,h1,h2⟩:=H;refine⟨_,h2,λf h' n=>?_⟩;simp only[hV,e,j];exact(qY r (F5 n (h1.out f))).val;rename_i q l j r;have⟨vs,h0,⟨h1,h2⟩,_⟩:=J6 H (xf l);refine⟨_,h2,λf h' n=>?_⟩;simp only[hV,e,j];exact(rS r h0 (IH n (h1.out f))).val;cases H;rename_i t x i e;cases he:mJ P t with
 |false=>simp_all
 |true=>rw[he]at H;have⟨v,h1,h2⟩:=Qk (Qd he) H;refine⟨v,h1,λf h' _=>?_⟩;simp only[hV,e];exact(h2 f h').val
 rename_i t x i e;cases he:rZ P t with
 |false=>rw[he]at H;have⟨v,h1,h2⟩:=qn H g;grind
 |true=>rw[he]at H;have⟨v,h1,h2⟩:=LH (Eo he) H;refine⟨v,h1,λf h' _=>?_⟩;simp only[hV,e];exact(h2 f h').val
 rename_i t x lo hi mx e;cases he:mJ P t with
 |false=>simp_all
 |true=>rw[he]at H;have⟨v,h1,h2⟩:=Jf (Qd he) H;refine⟨v,h1,λf h' _=>?_⟩;simp only[hV,e];exact(h2 f h').val
 rename_i A t x y t' e;have⟨v,h1,h2⟩:=As e H;grind;rename_i t m k ok e;simp[mt,e]at u;rename_i x e;unfold vo at H;split at H;rename_i p w;have⟨a,h1,h2⟩:=H;refine⟨_,h2,λf h' _=>?_⟩;have j:=h1.out f;subst j;intro B d;simp only[hV,e,w];rfl;have⟨v,h1,h2⟩:=qn H g;grind;rename_i c e;split at H;rename_i z;simp[mt,e,z]at u;have⟨v,h1,h2⟩:=qn H g;grind;have⟨v,h1,h2⟩:=qn H g;grind
def nA(P:EM){α:Type}:Sem α->zc->(α->zc->Prop)->Prop
 |.pure a,h,K=>K a h
 |.program k,h,K=>nA P (k P) h K
 |.mark _ k,h,K=>nA P k h K
 |.new o k,h,K=>nA P (k h.size) (h.push o) K
 |_,_,_=>False
def C7{α:Type}{s:Sem α}{K:α->zc->Prop}(H:nA P s h K)(B:Nd)(d:Nat):∃x h',s.run P (mk B d h)=.ok x (mk B d h')/\K x h':=by
 induction s generalizing h with
 |pure a=>exact⟨a,h,rfl,H⟩
 |program k b=>exact b P H
 |mark m k b=>exact b H
 |new o k b=>have⟨x,h',h1,h2⟩:=b h.size H;exact⟨x,h',h1,h2⟩
 |_=>cases H
def typed(P:EM)(ty:Nw)(v:Value)(K:Value->Prop):Prop:=match tU P ty with
 |some c=>nj c λb=>v=b/\K b
 |none=>False
theorem Zs{K:ac9}(H:typed P ty v K):K v:=by unfold typed at H;split at H;have⟨b,h1,h2⟩:=xK H;grind;cases H
def zy(P:EM)(f:n4):Bool:=match P.funcs[f]? with
 |some fn=>(match fn.body with
  |some _=>Ta
  | none => false) && !(fn.name == "runtime.NumGoroutine")
 |none=>Tc
theorem Ba(h:zy P f=Ta)(args:ac2)(w:Nd):(callFunc f args).run P w=.ok (.enter f args) w:=by unfold zy at h;split at h;rename_i fn b;simp only[Bool.and_eq_true,zd6]at h;have⟨h1,h2⟩:=h;unfold callFunc;simp only[program,DM,Sem.run,D0,b];split at h1;simp_all;cases h1;cases h
def mG(P:EM)(v:Value)(args:Array Value)(K:n4->Array Value->Prop):Prop:=match v with
 |.func (.func f) first cap=>zy P f=Ta/\K f (first++args++cap)
 |_=>False
def LZ{c:Call}{x:n7}(b:o.op=.call c)(h:c.callee=.value x){K:n4->Array Value->Prop}(H:mG P (ρ x) (c.args.map ρ) K):∃f args,K f args/\∀w,(hV ρ o).run P w=.ok (.enter f args) w:=by
 unfold mG at H;split at H;rename_i f first cap e
 have⟨h1,h2⟩:=H;refine⟨_,_,h2,λw=>?_⟩;simp only[hV,b,resolve,h,e,zeo,DM,DQ,D0,invoke];exact Ba h1 _ w;cases H
def sh:n7->Bool
 |.func _=>Ta
 |_=>Tc
def ND(P:EM)(f:n4):Bool:=match P.funcs[f]? with
 |some fn=>(match fn.body with
  |some _=>Tc
  |none=>Ta)
 |none=>Tc
def Vp(P:EM)(f:n4)(args:Array Value)(h:zc)(K:Value->zc->Prop):Prop:=∀B d,∃v b h',(callFunc f args).run P (mk B d h)=.ok (.value v) (mk B b h')/\K v h'
def Ih(P:EM):n7->Bool
 |.func f=>ND P f
 |_=>Tc
def De(P:EM)(v:Value)(args:Array Value)(h:zc)(K:Value->zc->Prop):Prop:=match v with
 |.func (.func f) first cap=>Vp P f (first++args++cap) h K
 |_=>False
def Pz{c:Call}{x:n7}(e:o.op=.call c)(j:c.callee=.value x)(H:De P (ρ x) (c.args.map ρ) h K)(B:Nd)(d:Nat):∃v b h',(hV ρ o).run P (mk B d h)=.ok (.value v) (mk B b h')/\K v h':=by
 unfold De at H;split at H;rename_i f first cap i
 have⟨v,b,h',h1,h2⟩:=H B d;refine⟨v,b,h',?_,h2⟩;simp only[hV,e,resolve,j,i,zeo,DM,DQ,D0,invoke];exact h1;cases H
def Fw(P:EM)(t:Nw):Bool:=match P.underlying t with
 |some (.map _ _)=>Ta
 |_=>Tc
def xZ(P:EM)(o:n9)(ρ:n7->Value)(h:zc)(K:Value->zc->Prop):Prop:=
 match o.op with
 |.store t a x=>CA P (zae t (ρ a) (ρ x)) h λh'=>K undef h'
 |.mapUpdate t m k x=>CA P (zct t (ρ m) (ρ k) (ρ x)) h λh'=>K undef h'
 |.insert t m k x=>CA P (zct t (ρ m) (ρ k) (ρ x)) h λh'=>K undef h'
 |.entryStore t m s x=>CA P (Instr.entryStore t (ρ m) (ρ s) (ρ x)) h λh'=>K undef h'
 |.mapEntry t m k=>qq P (Instr.mapEntry t (ρ m) (ρ k)) h λv h'=>typed P o.type v λe=>K e h'
 |.makeSlice t l c=>qq P (zba t (ρ l) (ρ c)) h λv h'=>typed P o.type v λe=>K e h'
 |.convert s t x=>qq P (convert s t (ρ x)) h λv h'=>typed P o.type v λe=>K e h'
 |.typeAssert x t t' ok=>qq P (Instr.typeAssert (ρ x) t t' ok) h λv h'=>typed P o.type v λe=>K e h'
 |.range t x=>bif Fw P t then qq P (zey t (ρ x)) h λv h'=>∃q:Option n8,v=.pointer q/\K (.pointer q) h' else nA P (hV ρ o) h λi h'=>match i with
   |.value v=>K v h'
   |.skip=>K undef h'
   |_=>False
 |.next x s=>bif s then qq P (zdz (ρ x) s o.type) h λv h'=>(v=.tuple #[.bool Tc]/\K (.tuple #[.bool Tc]) h')\/∃k u:Int,v=.tuple #[.bool Ta,.int .i64 k,.int .i32 u]/\K (.tuple #[.bool Ta,.int .i64 k,.int .i32 u]) h'
  else qq P (zdz (ρ x) s o.type) h λv h'=>(v=.tuple #[.bool Tc]/\K (.tuple #[.bool Tc]) h')\/∃k u:Value,v=.tuple #[.bool Ta,k,u]/\K (.tuple #[.bool Ta,k,u]) h'
 |.entry x=>qq P (zen (ρ x)) h λv h'=>∃k u:Value,v=.tuple #[k,u]/\K (.tuple #[k,u]) h'
 |.call c=>match c.callee with
  |.builtin b=>match FX b c.argTypes o.type (c.args.map ρ)with
   |some s=>qq P s h λv h'=>typed P o.type v λe=>K e h'
   |none=>False
  |.value x=>bif Ih P x then De P (ρ x) (c.args.map ρ) h (λv h'=>typed P o.type v λe=>K e h')else bif sh x then(nA P (hV ρ o) h λi h'=>match i with
   |.enter f args=>XC P f args h' λv h''=>typed P o.type v λe=>K e h''
   |.value v=>K v h'
   |_=>False)else mG P (ρ x) (c.args.map ρ) λf args=>XC P f args h λv h''=>typed P o.type v λe=>K e h''
  |_=>False
 |_=>nA P (hV ρ o) h λi h'=>match i with
   |.value v=>K v h'
   |.skip=>K undef h'
   |_=>False
def qkf:Builtin->Bool
 |.append | .copy | .clear | .delete=>Ta
 |_=>Tc
def z4g(P:EM)(s t:Nw):Bool:=match P.underlying s,P.underlying t with
 |some (.int _),Td (.int _)=>Ta
 |some .string,Td .string=>Ta
 |_,_=>Tc
def l7(P:EM)(o:n9):Bool:=
 match o.op with
 |.load _ _ | .indexAddr _ _ _ | .index _ _ _ | .slice _ _ _ _ _ | .binOp _ _ _ _ _ | .lookup _ _ _ _ | .nilCheck _=>Ta
 |.move _ | .assign _ | .unOp _ _ _ | .build _ _ | .makeFunc _ _ _ | .makeInterface _ _ | .extract _ _ | .field _ _ _ | .fieldAddr _ _ _=>Ta
 |.convert s t _=>z4g P s t
 |.call c=>match c.callee with
  |.builtin b=>!qkf b
  |_=>Tc
 |_=>Tc
def Bv(P:EM)(o:n9)(ρ:n7->Value)(b:Bool)(h:zc)(K:Value->zc->Prop):Prop:=
 match tU P o.type with
 |some c=>∃J:Value->zc->Prop,(b=Ta->xZ P o ρ h J)/\(b=Tc->nj c λv=>J v h)/\(b=Ta->∀v h',J v h'->nj c λe=>v=e)/\E6 c λv=>∀h',J v h'->K v h'
 |none=>False
def stepW(P:EM)(o:n9)(ρ:n7->Value)(g:Option Bool)(h:zc)(K:Value->zc->Prop):Prop:=
 bif l7 P o then jO P o ρ g h (λv=>K v h)else match g with
  |none=>xZ P o ρ h K
  |some b=>Bv P o ρ b h K
theorem upon_value{next:Act->Nd->Prop}{Q:Exit->Act->Nd->Prop}{s:Sem Next}(h:s.run P w=.ok (.value v) w')(b:next (a.put o.dst v) w'):o.upon P a next Q (s.run P w):=ϖ h b
theorem PI{next:Act->Nd->Prop}{Q:Exit->Act->Nd->Prop}{s:Sem Next}(h:s.run P w=.ok .skip w')(b:next (a.put o.dst undef) w'):o.upon P a next Q (s.run P w):=ϖ h b
def J7{s:Sem Value}(h:s.run P w=.ok v w'):(s >>= λx=>(zd3 (zd8 x):Sem Next)).run P w=.ok (.value v) w':=θ
def qG{s:Sem Unit}(h:s.run P w=.ok () w'):(s >>= λ_=>(zd3 Next.skip:Sem Next)).run P w=.ok .skip w':=θ
theorem LC(H:xZ P o ρ h K)(B:Nd)(d:Nat){next:Act->Nd->Prop}{Q:Exit->Act->Nd->Prop}(i:∀v e h',K v h'->next (a.put o.dst v) (mk B e h')):o.upon P a next Q ((hV ρ o).run P (mk B d h)):=by
 unfold xZ at H;split at H;case h_1 t x y ho=>have⟨e,h',h1,h2⟩:=H B d;exact PI (by simp only[hV,ho];exact qG h1) (i _ _ _ h2)
 case h_2 t m k x ho=>have⟨e,h',h1,h2⟩:=H B d;exact PI (by simp only[hV,ho];exact qG h1) (i _ _ _ h2)
 case h_3 t m k x ho=>have⟨e,h',h1,h2⟩:=H B d;exact PI (by simp only[hV,ho];exact qG h1) (i _ _ _ h2)
 case h_4 t m s x ho=>have⟨e,h',h1,h2⟩:=H B d;exact PI (by simp only[hV,ho];exact qG h1) (i _ _ _ h2)
 case h_5 t m k ho=>have⟨v,e,h',h1,h2⟩:=H B d;exact upon_value (by simp only[hV,ho];exact J7 h1) (i _ _ _ (Zs h2))
 case h_6 t l c ho=>have⟨v,e,h',h1,h2⟩:=H B d;exact upon_value (by simp only[hV,ho];exact J7 h1) (i _ _ _ (Zs h2))
 case h_7 s t x ho=>have⟨v,e,h',h1,h2⟩:=H B d;exact upon_value (by simp only[hV,ho];exact J7 h1) (i _ _ _ (Zs h2))
 case h_8 x t t' ok ho=>have⟨v,e,h',h1,h2⟩:=H B d;exact upon_value (by simp only[hV,ho];exact J7 h1) (i _ _ _ (Zs h2))
 case h_9 t x ho=>
  cases hm:Fw P t with
  |true=>rw[hm]at H;obtain⟨v,e,h',h1,q,rfl,h2⟩:=H B d;exact upon_value (by simp only[hV,ho];exact J7 h1) (i _ _ _ h2)
  |false=>rw[hm]at H;have⟨n,h',h1,h2⟩:=C7 H B d;grind [upon_value,PI]
 case h_10 x s ho=>
  cases s with
  |true=>simp only[zK]at H;have⟨v,e,h',h1,h2⟩:=H B d;refine upon_value (v:=v) (w':=mk B e h') (by simp only[hV,ho];exact J7 h1) (i _ _ _ ?_);grind
  |false=>simp only[zL]at H;have⟨v,e,h',h1,h2⟩:=H B d;refine upon_value (v:=v) (w':=mk B e h') (by simp only[hV,ho];exact J7 h1) (i _ _ _ ?_);grind
 case h_11 x ho=>obtain⟨v,e,h',h1,k,u,rfl,h2⟩:=H B d;exact upon_value (by simp only[hV,ho];exact J7 h1) (i _ _ _ h2)
 case h_12 c ho=>
  split at H;rename_i b hb;split at H;rename_i s j;have⟨v,e,h',h1,h2⟩:=H B d;refine upon_value (w':=mk B e h') ?_ (i _ _ _ (Zs h2));have key:hV ρ o=s >>= λx=>(zd3 (zd8 x):Sem Next):=by
   simp only[hV,ho,resolve,hb];unfold FX at j;split at j <;> first
    |(simp only[zad]at j;subst j;rfl)
    |cases j
  simp_all;cases H
  ·rename_i x p;cases hex:Ih P x with
   |true=>rw[hex]at H;have⟨v,e,h',h1,h2⟩:=Pz ho p H B d;exact upon_value h1 (i _ _ _ (Zs h2))
   |false=>
   rw[hex]at H;simp only[zL]at H;cases hst:sh x with
   |true=>
    rw[hst]at H;have⟨n,h',h1,h2⟩:=C7 H B d;cases n with
    |enter f args=>rw[h1];refine(h2 B d).mono ?_;grind [Zs]
    |value v=>exact upon_value h1 (i _ _ _ h2)
    |_=>cases h2
   |false=>rw[hst]at H;simp only[zL]at H;have⟨f,args,h1,h2⟩:=LZ ho p H;rw[h2];refine(h1 B d).mono ?_;grind [Zs]
  cases H
 case h_13=>have⟨n,h',h1,h2⟩:=C7 H B d;grind [upon_value,PI]
theorem zwr(H:stepW P o ρ g h K)(c:ij g)(B:Nd)(d:Nat){next:Act->Nd->Prop}{Q:Exit->Act->Nd->Prop}(e:∀v f h',K v h'->next (a.put o.dst v) (mk B f h')):o.upon P a next Q ((hV ρ o).run P (mk B d h)):=by
 unfold stepW at H;cases hq:l7 P o with
 |true=>rw[hq]at H;have⟨v,h1,h2⟩:=yQ H;exact upon_value (h2 c B d) (e _ _ _ h1)
 |false=>
  rw[hq]at H;cases g with
  |none=>exact LC H B d e
  |some b=>have hb:b=Ta:=c;subst hb;simp only[zL]at H;unfold Bv at H;grind [LC,Il]
theorem SB(H:stepW P o ρ (Td Tc) h K):∃v,K v h:=by
 unfold stepW at H;cases hq:l7 P o with
 |true=>grind [yQ]
 |false=>rw[hq]at H;simp only[zL]at H;unfold Bv at H;grind [Il]
end
section
variable {n:Nat} {e:bR} {a b:Act} {c:qj} {g:Option Bool} {P:EM} {o:n9} {h:zc} {K:Value -> zc -> Prop} {ms:List Nat}
def Ym(e:bR):qj->Option (Option Bool)
 |[]=>Td Te
 |c=>match uc e c with
  |some b=>Td (Td b)
  |none=>Te
theorem Yn(f:Sat n e a)(h:Ym e c=Td g)(i:CT (ql a) c):ij g:=by unfold Ym at h;split at h;simp only[zad]at h;subst h;trivial;split at h;rename_i b hb;simp only[zad]at h;subst h;exact(AD f hb).2 i;cases h
theorem QL(i:Sat n e a)(h:Ym e c=Td g)(f:¬CT (ql a) c):g=Td Tc:=by
 unfold Ym at h;split at h;exact absurd trivial f;split at h;rename_i b hb;simp only[zad]at h;subst h;cases b with
 |false=>rfl
 |true=>exact absurd ((AD i hb).1 rfl) f
 cases h
def sd(b:Bool):Value->Value->Value
 |.bool x,.bool y=>.bool (bif b then x else y)
 |x,y=>bif b then x else y
theorem Hk(b:Bool)(x y:Value):sd b x y=ite (b=Ta) x y:=by unfold sd;grind
def xO:Option Value->Option Value->Option Value
 |some v,_=>Td v
 |none,w=>w
def vt(e:bR)(c:qj)(x a b:n7)(K:Value->Prop):Prop:=
 match x with
 |.tmp s=>match look e s with
  |some (cs,.bool t)=>bif lV cs c then(match xO (jG e c a) (jG e ((s,Ta)::cs) a),xO (jG e c b) (jG e ((s,Tc)::cs) b)with
    |some va,some vb=>K (sd t va vb)
    |_,_=>False)else False
  |_=>False
 |_=>False
theorem Cw{f:Act}(i:Sat n e f){x a b:n7}{K:ac9}(H:vt e c x a b K):∃v,K v/\(CT (ql f) c->∃t,f.eval x=.bool t/\(ite (t=Ta) (f.eval a) (f.eval b))=v):=by
 unfold vt at H;split at H;rename_i s;split at H;rename_i cs t k;cases hsf:lV cs c with
 |false=>simp_all
 |true=>
  rw[hsf]at H;simp only[zK]at H;split at H;rename_i o p j hb;refine⟨_,H,λm=>⟨t,?_,?_⟩⟩;exact(i.all _ (pf k)).1 (J5 hsf m);have h:=J5 hsf m;have l:ql f s=.bool t:=(i.all _ (pf k)).1 h;rw[Hk];cases t with
  |true=>simp only[if_true];unfold xO at j;split at j;grind [zad,yc];exact yc i (c:=(s,Ta)::cs) ⟨l,h⟩ j
  |false=>simp only[zca,if_false];unfold xO at hb;split at hb;grind [zad,yc];exact yc i (c:=(s,Tc)::cs) ⟨l,h⟩ hb
  cases H
 cases H;cases H
def nk(P:EM)(o:n9)(e:bR)(c:qj)(h:zc)(K:Value->zc->Prop):Prop:=
 match o.op with
 |.pick x a b=>vt e c x a b λv=>K v h
 |_=>bif Js o.op then(bif known e c o.op.operands.toList then(match Ym e c with
   |some g=>stepW P o (j4 e c) g h K
   |none=>False)else False)else False
def wR(P:EM)(n:Nat)(ops:Array n9)(K:bR->zc->Prop):List n9->bR->zc->Prop
 |[],e,h=>K (clean e) h
 |o::rest,e,h=>match Zq ops e o.guard with
  |some c=>bif wj n c o.dst then nk P o e c h λv h'=>wR P n ops K rest (putO e o.dst c v) h' else False
  |none=>False
theorem KI(H:nk P o e c h K)(j:Sat n e a)(l:CT (ql a) c)(B:Nd)(d:Nat){next:Act->Nd->Prop} {Q:Exit->Act->Nd->Prop} (k:∀v f h',K v h'->next (a.put o.dst v) (mk B f h')):o.wp P a (mk B d h) next Q:=by
 unfold nk at H;unfold Oper.wp;split at H;rename_i x y z b;have⟨v,h1,h2⟩:=Cw j H;have⟨t,i,m⟩:=h2 l;refine upon_value (w':=mk B d h) (v:=v) ?_ (k _ _ _ h1);simp only[hV,b,i,asBool,DM,DQ,D0];rw[m];cases hns:Js o.op with
 |false=>simp_all
 |true=>
  rw[hns]at H;cases hk:known e c o.op.operands.toList with
  |false=>simp_all
  |true=>rw[hk]at H;simp only[zK]at H;grind [u0,zwr,Yn]
theorem Lw(H:nk P o e c h K)(f:Sat n e a)(b:¬CT (ql a) c):∃v,K v h:=by
 unfold nk at H;split at H;grind [Cw];cases hns:Js o.op with
 |false=>simp_all
 |true=>
  rw[hns]at H;cases hk:known e c o.op.operands.toList with
  |false=>simp_all
  |true=>rw[hk]at H;simp only[zK]at H;grind [QL,SB]
def w9:List n9->List Nat
 |[]=>[]
 |o::l=>match o.dst with
  |some d=>d::w9 l
  |none=>w9 l
def Same(ms:List Nat)(a b:Act):Prop:=∀i,i∉ms->ql b i=ql a i
theorem Same.refl(ms:ac0)(a:Act):Same ms a a:=λ_ _=>rfl
theorem Same.trans{a b c:Act}(h:Same ms a b)(k:Same ms b c):Same ms a c:=λi hi=>(k i hi).trans (h i hi)
theorem Same.mono{ms c:ac0}(h:Same ms a b)(f:∀x∈ms,x∈c):Same c a b:=λi hi=>h i λe=>hi (f i e)
theorem Same.put(a:Act)(d:ad0)(v:Value)(h:∀i,d=Td i->i∈ms):Same ms a (a.put d v):=by
 intro i hi;cases d with
 |none=>rfl
 |some j=>grind [qy]
def rV{P:EM}{n:Nat}{ops:Array n9}{K:bR->zc->Prop}{Q:Exit->Act->Nd->Prop}(B:Nd):∀(l:List n9) (e:bR) (h:zc) (a:Act) (d:Nat),wR P n ops K l e h->Sat n e a->(∀k f m h',Sat n k f->Same (w9 l) a f->K k h'->Q .normal f (mk B m h'))->wpList P ops Q l a (mk B d h)
 |[],e,h,a,d,H,hs,hQ=>hQ _ _ _ _ hs.clean (Same.refl _ _) H
 |o::rest,e,h,a,d,H,hs,hQ=>by
  unfold wR at H;split at H;rename_i c C;cases hd:wj n c o.dst with
  |false=>simp_all
  |true=>
   rw[hd]at H;simp only[zK]at H;have q:=Qj hs C;have j:∀i,o.dst=Td i->i∈w9 (o::rest):=λi hi=>by simp[w9,hi]
   have b:∀x∈w9 rest,x∈w9 (o::rest):=λx r=>by unfold w9;grind
   have w:∀v u m h',(CT (ql a) c->u=v)->(¬CT (ql a) c->u=undef)->wR P n ops K rest (putO e o.dst c v) h'->wpList P ops Q rest (a.put o.dst u) (mk B m h'):=λv u m h' h1 h2 A=>
    rV B rest _ _ _ _ A (hs.putO hd h1 h2) λk f p g y D z=>hQ k f p g y ((Same.put a o.dst u j).trans (D.mono b)) z
   unfold wpList;by_cases t:CT (ql a) c;rw[zA (q.2 t)];grind [KI];rw[zv (λr=>t (q.1 r))];grind [Lw]
  cases H
def Ad(P:EM)(o:n9)(ρ:n7->Value)(g:Option Bool)(h:zc)(K:Value->Prop):Prop:=
 match o.op with
 |.call c=>match c.callee with
  |.value x=>bif sh x then(match Je P (hV ρ o)with
    |some (.enter f args)=>match tU P o.type with
     |some b=>nj b λv=>req g (XC P f args h λe h'=>e=v/\h'=h)/\K v
     |none=>False
    |_=>False)else(match tU P o.type with
     |some b=>nj b λv=>req g (mG P (ρ x) (c.args.map ρ) λf args=>XC P f args h λe h'=>e=v/\h'=h)/\K v
     |none=>False)
  |_=>False
 |_=>False
def Nt{ρ:n7->Value}{K:ac9}(H:Ad P o ρ g h K):∃v,K v/\(ij g->∃f args,(∀w,(hV ρ o).run P w=.ok (.enter f args) w)/\XC P f args h λi h'=>i=v/\h'=h):=by
 unfold Ad at H;split at H;rename_i c e;split at H;rename_i x j;cases hst:sh x with
 |true=>rw[hst]at H;simp only[zK]at H;split at H;rename_i f args k;split at H;have⟨v,h1,h2⟩:=xK H;exact⟨v,h2,λb=>⟨f,args,λw=>Fb k w,h1.out b⟩⟩;cases H;cases H
 |false=>rw[hst]at H;simp only[zL]at H;split at H;have⟨v,h1,h2⟩:=xK H;refine⟨v,h2,λb=>?_⟩;have⟨f,args,l,m⟩:=LZ e j (h1.out b);grind;cases H
 cases H;cases H
def sn(o:n9):Bool:=match o.op with
 |.call c=>match c.callee with
  |.builtin _=>Tc
  |_=>Ta
 |_=>Tc
def CO(P:EM)(o:n9)(e:bR)(c:qj)(h:zc)(f:Bool)(K:Value->Prop):Prop:=
 match o.op with
 |.pick x a b=>vt e c x a b K
 |_=>bif Js o.op then(bif known e c o.op.operands.toList then(match Ym e c with
   |some g=>bif sn o then(bif f then Ad P o (j4 e c) g h K else False)else jO P o (j4 e c) g h K
   |none=>False)else False)else False
def wQ(P:EM)(n:Nat)(ops:Array n9)(h:zc)(b:Bool)(K:bR->Prop):List n9->bR->Prop
 |[],e=>K e
 |o::rest,e=>match Zq ops e o.guard with
  |some c=>bif wj n c o.dst then CO P o e c h b λv=>wQ P n ops h b K rest (putO e o.dst c v)else False
  |none=>False
def YQ(P:EM)(o:n9)(a:Act)(B:Nd)(h:zc)(b:Bool)(v:Value):Prop:=
 (∀d,(hV a.eval o).run P (mk B d h)=.ok (.value v) (mk B d h)) \/
 (b=Ta/\∃f args,(∀d,(hV a.eval o).run P (mk B d h)=.ok (.enter f args) (mk B d h))/\XC P f args h λc h'=>c=v/\h'=h)
def Nr{b:Bool}{K:ac9}(H:CO P o e c h b K)(j:Sat n e a)(B:Nd):∃v,K v/\(CT (ql a) c->YQ P o a B h b v):=by
 unfold CO at H;split at H;rename_i x y z p;have⟨v,h1,h2⟩:=Cw j H;refine⟨v,h1,λi=>?_⟩;have⟨t,l,k⟩:=h2 i;refine .inl λd=>?_;simp only[hV,p,l,asBool,DM,DQ,D0];rw[k];cases hns:Js o.op with
 |false=>simp_all
 |true=>
  rw[hns]at H;cases hk:known e c o.op.operands.toList with
  |false=>simp_all
  |true=>
   rw[hk]at H;simp only[zK]at H;split at H;rename_i g m;cases hc:sn o with
   |false=>rw[hc]at H;have⟨v,h1,h2⟩:=yQ H;refine⟨v,h1,λi=>.inl λd=>?_⟩;rw[u0 j i hns hk];exact h2 (Yn j m i) B d
   |true=>
    rw[hc]at H;cases b with
    |false=>cases H
    |true=>simp only[zK]at H;have⟨v,h1,h2⟩:=Nt H;refine⟨v,h1,λi=>?_⟩;have⟨f,args,l,k⟩:=h2 (Yn j m i);refine .inr ⟨rfl,f,args,λd=>?_,k⟩;grind [u0]
   cases H
def Eb{P:EM}{n:Nat}{ops:Array n9}{h:zc}{j:Bool}{K:bR->Prop}{Q:Act->Prop}(B:Nd):∀(l:List n9) (e:bR) (a:Act),wQ P n ops h j K l e->Sat n e a->(∀q k,Sat n q k->Same (w9 l) a k->K q->Q k)->wpQuiet P ops (λw=>∃d,w=mk B d h) Q l a
 |[],e,a,H,hs,hQ=>hQ _ _ hs (Same.refl _ _) H
 |o::rest,e,a,H,hs,hQ=>by
  unfold wQ at H;split at H;rename_i c E;cases hd:wj n c o.dst with
  |false=>simp_all
  |true=>
   rw[hd]at H;simp only[zK]at H;have C:=Qj hs E;have m:∀i,o.dst=Td i->i∈w9 (o::rest):=λi hi=>by simp[w9,hi]
   have b:∀x∈w9 rest,x∈w9 (o::rest):=λx G=>by unfold w9;grind
   have⟨v,z,D⟩:=Nr H hs B;have p:∀u,(CT (ql a) c->u=v)->(¬CT (ql a) c->u=undef)->wpQuiet P ops (λw=>∃d,w=mk B d h) Q rest (a.put o.dst u):=λu h1 h2=>
    Eb B rest _ _ z (hs.putO hd h1 h2) λq k y F A=>hQ q k y ((Same.put a o.dst u m).trans (F.mono b)) A
   unfold wpQuiet;by_cases t:CT (ql a) c;rw[zA (C.2 t)];refine⟨v,?_,p v (λ_=>rfl) (λr=>absurd t r)⟩;rintro w ⟨d,rfl⟩;unfold Oper.quietAt;obtain h1|⟨_,f,args,h1,h2⟩:=D t;rw[h1 d];exact⟨rfl,rfl⟩;rw[h1 d];refine⟨rfl,(h2 B d).mono ?_⟩;simp;simp_all
  cases H
end
section
variable {i:Nat} {a b:Act} {o:n9} {h h':zc} {ρ:n7 -> Value} {P:EM} {g:Option Bool} {ops:Array n9} {listed:Array Bool}
def Fm:List Nat->Nat->Bool
 |[],_=>Tc
 |j::l,i=>bif mv i j then Ta else Fm l i
theorem Yh{l:ac0}(h:Fm l i=Tc):i∉l:=by
 induction l with
 |nil=>simp
 |cons j l b=>simp only[Fm]at h;by_cases hb:mv i j=Ta;grind;simp_all
def MT:List n7->List Nat
 |[]=>[]
 |.tmp t::l=>t::MT l
 |_::l=>MT l
def Qe(ops:Array n9)(o:n9):List Nat:=(match o.guard with
 |some (j,_)=>match jg ops j with
  |some g=>[g]
  |none=>[]
 |none=>[])++MT o.op.operands.toList
def Yo(ops:Array n9)(k:Nat)(S:List Nat):Nat->Bool
 |0=>Ta
 |p+1=>bif (match jg ops p with
  |some t=>bif Fm S t then qr .any ops k p else Ta
  |none=>Ta)then Yo ops k S p else Tc
def Zg{ops:Array n9}{k:Nat}{S:ac0}:∀{m:Nat},Yo ops k S m=Ta->∀p t,p<m->jg ops p=Td t->t∈S->qr .any ops k p=Ta
 |0,_,p,t,hp,_,_=>ω
 |m+1,h,p,t,hp,hd,ht=>by
  simp only[Yo]at h;cases hb:(match jg ops m with
   |some t=>cond (Fm S t) (qr .any ops k m) Ta
   |none=>Ta)with
  |false=>simp_all
  |true=>rw[hb]at h;obtain h1|h1:=zbv p m;exact Zg h p t h1 hd ht;grind [Yh]
def wo(ops:Array n9):Nat->Bool
 |0=>Ta
 |j+1=>bif (match ops[j]? with
  |some o=>o.after.toList.all λe=>!(Region.binds .any e)||Nat.blt e.on j
  |none=>Ta)then wo ops j else Tc
def je{ops:Array n9}:∀{n:Nat},wo ops n=Ta->∀j o,j<n->ops[j]?=Td o->∀e∈o.after,Region.binds .any e=Ta->e.on<j
 |0,_,j,_,hj,_,_,_,_=>ω
 |n+1,h,j,o,hj,ho,e,he,hb=>by
  simp only[wo]at h;cases hc:(match ops[n]? with
   |some o=>o.after.toList.all λe=>!(Region.binds .any e)||Nat.blt e.on n
   |none=>Ta)with
  |false=>simp_all
  |true=>
   rw[hc]at h;obtain h1|h1:=zbv j n;exact je h j o h1 ho e he hb;have:j=n:=ω
   subst this;rw[ho]at hc;have:=zbl.1 hc e (ψ he);simp_all
def tJ(ops:Array n9)(d:Nat):Nat->Bool
 |0=>Tc
 |p+1=>bif (match jg ops p with
  |some t=>mv t d
  |none=>Tc)then Ta else tJ ops d p
def J8(ops:Array n9):Nat->Bool
 |0=>Ta
 |p+1=>bif (match jg ops p with
  |some t=>!(tJ ops t p)
  |none=>Ta)then J8 ops p else Tc
theorem AS{ops:Array n9}{d:Nat}:∀{m:Nat},tJ ops d m=Tc->∀p,p<m->jg ops p≠Td d
 |0,_,p,hp=>ω
 |m+1,h,p,hp=>by
  simp only[tJ]at h;cases hb:(match jg ops m with
   |some t=>mv t d
   |none=>Tc)with
  |true=>simp_all
  |false=>
   rw[hb]at h;obtain h1|h1:=zbv p m;exact AS h p h1;have:p=m:=ω
   subst this;intro e;simp_all
def wq{ops:Array n9}:∀{m:Nat},J8 ops m=Ta->∀p q t,p<m->q<m->jg ops p=Td t->jg ops q=Td t->p=q
 |0,_,p,q,t,hp,_,_,_=>ω
 |m+1,h,p,q,t,hp,hq,e1,e2=>by
  simp only[J8]at h;cases hb:(match jg ops m with
   |some t=>!(tJ ops t m)
   |none=>Ta)with
  |false=>simp_all
  |true=>rw[hb]at h;obtain h1|h1:=zbv p m <;> obtain h2|h2:=zbv q m;exact wq h p q t h1 h2 e1 e2;grind [zd6,AS];grind [zd6,AS];omega
def oM(o:n9):Option Bool:=match o.op with
 |.fieldAddr _ _ _=>Td Ta
 |.indexAddr _ _ _=>Td Ta
 |.move _=>Td Ta
 |.assign _=>match o.after.toList with
  |[]=>Td Ta
  |_=>Te
 |.nilCheck _=>Td Ta
 |.slice _ _ _ _ _=>Td Ta
 |.binOp _ _ _ _ _=>Td Ta
 |.load _ _=>Td Tc
 |_=>Te
def sF(o:n9):Bool:=match oM o with
 |some _=>Ta
 |none=>Tc
def ji(o:n9):Bool:=match oM o with
 |some b=>!b
 |none=>Tc
def vB{a b:Act}:∀{l:List n7},(∀t∈MT l,ql a t=ql b t)->∀x∈l,a.eval x=b.eval x
 |[],_,x,c=>ε c
 |y::l,h,x,c=>by
  obtain rfl|c:=zal.1 c;cases x with
  |tmp t=>exact h t (by simp[MT])
  |const v=>rfl
  |global g=>rfl
  |func f=>rfl
  refine vB (l:=l) (λt e=>h t ?_) x c;cases y <;> simp[MT,e]
theorem CQ(c:Js o.op=Ta)(h:∀t∈MT o.op.operands.toList,ql a t=ql b t):hV a.eval o=hV b.eval o:= execOp_congr o (λcs b hb=>ς hb c) λx e=>vB h x (ψ e)
def XP{p:n8}(e:h'[p.block]?=h[p.block]?)(i:Nat):zd h' (p.add i)=zd h (p.add i):=by
 have hb:(p.add i).block=p.block:=by unfold zab;split <;> rfl
 unfold zd;rw[hb,e]
def HJ{h h':zc}{p:n8}(e:h'[p.block]?=h[p.block]?):∀{vs:ac1} {i:Nat},ze h p i vs->ze h' p i vs
 |[],_,_=>trivial
 |v::vs,i,⟨h1,h2⟩=>⟨(XP e i).trans h1,HJ e h2⟩
def YS(o:n9)(ρ:n7->Value)(h h':zc):Prop:=ji o=Tc\/BT h.size h h'\/∀t a p,o.op=.load t a->ρ a=.pointer (Td p)->h'[p.block]?=h[p.block]?
theorem YS.congr{ρ c:n7->Value}(e:∀x∈o.op.operands.toList,c x=ρ x)(H:YS o ρ h h'):YS o c h h':=by obtain H|H|H:=H;exact .inl H;exact .inr (.inl H);refine .inr (.inr λt a p b f=>H t a p b ?_);rw[<-e a (by rw[b];simp[Op.operands])];exact f
def SH{t:Nw}{x:Value}{K:ac9}(H:oc P h t x g K):∃v p,x=.pointer (Td p)/\K v/\(ij g->Bk P (zeg t x) h v/\∀h',h'[p.block]?=h[p.block]?->Bk P (zeg t x) h' v):=by unfold oc at H;split at H;rename_i q a b;have⟨x,h1,h2⟩:=H;refine⟨_,q,rfl,h2,λc=>?_⟩;have h1:zd h q=Td _:=h1.out c;refine⟨qY b h1,λh' e=>qY b ?_⟩;unfold zd at h1 ⊢;rw[e];exact h1;rename_i q l b;have⟨vs,h0,⟨h1,h2⟩,_⟩:=J6 H (xf l);exact⟨_,q,rfl,h2,λc=>⟨rS b h0 (h1.out c),λh' e=>rS b h0 (HJ e (h1.out c))⟩⟩;cases H
def TV(m:sF o=Ta){K:ac9}(H:jO P o ρ g h K):∃v,K v/\(ij g->∀h',YS o ρ h h'->Bk P (hV ρ o) h' (.value v)):=by
 cases ho:o.op with
 |load t x=>
  have e:mt o=Ta:=by unfold mt;rw[ho]
  by_cases b:ij g;have⟨f,j,k2⟩:=vc e H;unfold jO at H;rw[ho]at H;simp only at H;have⟨v,p,k,h1,h2⟩:=SH H;have q:f=v:=by
   have a1:=k2 b h (BT.refl _ _) default 0;have a2:Bk P (hV ρ o) h (.value v):=by simp only[hV,ho];exact(h2 b).1.val
   have a2:=a2 default 0;rw[a1]at a2;injection a2 with a2 _;injection a2
  subst q;refine⟨f,j,λ_ h' c=>?_⟩;obtain c|c|c:=c;unfold ji oM at c;rw[ho]at c;cases c;exact k2 b h' c;have:=(h2 b).2 h' (c t x p ho k);simp only[hV,ho];exact this.val;have⟨f,j,_⟩:=vc e H;exact⟨f,j,λl=>absurd l b⟩
 |indexAddr t x i=>
  unfold jO at H;rw[ho]at H;simp only at H;cases he:mJ P t with
  |false=>rw[he]at H;cases H
  |true=>rw[he]at H;have⟨v,h1,h2⟩:=Qk (Qd he) H;refine⟨v,h1,λb h' _=>?_⟩;simp only[hV,ho];exact(h2 b h').val
 |slice t x lo hi mx=>
  unfold jO at H;rw[ho]at H;simp only at H;cases he:mJ P t with
  |false=>rw[he]at H;cases H
  |true=>rw[he]at H;have⟨v,h1,h2⟩:=Jf (Qd he) H;refine⟨v,h1,λb h' _=>?_⟩;simp only[hV,ho];exact(h2 b h').val
 |binOp r t x y t'=>unfold jO at H;rw[ho]at H;have⟨v,h1,h2⟩:=As ho H;exact⟨v,h1,λb h' _=>h2 b h'⟩
 |nilCheck x=>unfold jO at H;rw[ho]at H;simp only at H;unfold vo at H;split at H;rename_i p k;have⟨a,h1,h2⟩:=H;refine⟨_,h2,λb h' _ B d=>?_⟩;have n:=h1.out b;subst n;simp only[hV,ho,k];rfl;have⟨v,h1,h2⟩:=qn H g;exact⟨v,h1,λb h' _=>h2 b h'⟩
 |_=>first|(unfold sF oM at m;rw[ho]at m;cases m;done)|(unfold jO at H;rw[ho]at H;have⟨v,h1,h2⟩:=qn H g;exact⟨v,h1,λb h' _=>h2 b h'⟩)
theorem wu{d:ad0}{u:Value}{s:Nat}(h:d≠Td s):ql (a.put d u) s=ql a s:=by
 cases d with
 |none=>rfl
 |some t=>grind [qy]
def N7{next:Act->Nd->Prop}{Q:Exit->Act->Nd->Prop}{r:Result Next}(hb:b.defers=[])(H:o.upon P b (λc w=>c.defers=[]/\∀v,c=b.put o.dst v->next (a.put o.dst v) w) (λ_ _ _=>False) r):o.upon P a next Q r:=by
 have lo:¬LetsOut (λ(_:Exit) (_:Act) (_:Nd)=>False):=λh=>by have⟨_,_,h⟩:=h;exact h
 cases r with
 |ok x w=>
  cases x with
  |value v=>exact H.2 v rfl
  |skip=>exact H.2 undef rfl
  |defer d=>have:=H.1;rw[Zf]at this;cases this
  |enter f args=>refine Calls.mono (show Calls P f args w _ from H) λe w' i=>?_;grind
  |row row args=>exact Rows.mono (show Rows P row args w _ from H) λv w' i=>i.2 v rfl
  |_=>exact H
 |halt x w=>cases x <;> first|exact H.elim|exact H
theorem vF{i p:Nat}(hi:i∈Region.ready .any ops listed)(f:qr .any ops i p=Ta):listed.getD p Tc=Ta:=by have⟨l,h,e,k,hb,c⟩:=Region.waitsFor_spec f;have⟨_,o,j,b⟩:=mem_ready.1 hi;grind
def Jg{n:Nat}(inv:HeadInv .any ops n listed){i p:Nat}(hi:listed.getD i Tc=Ta)(f:qr .any ops i p=Ta):listed.getD p Tc=Ta:=by have⟨j,c,e,h,hb,b⟩:=Region.waitsFor_spec f;rw[<-b];exact inv.closed i j c hi e h hb
def Px{p:Nat->Bool}{N:Nat}(h:∃k,k<N/\p k=Tc):∃k,k<N/\p k=Tc/\∀j,j<k->p j=Ta:=by
 have⟨k,h1,h2⟩:=h;induction k using Nat.strongRecOn with
 |_ k b=>grind
def G5{o:n9}:∀{l:List n9},o∈l->∀i,o.dst=Td i->i∈w9 l
 |[],h,_,_=>ε h
 |x::l,h,i,hi=>by unfold w9;obtain rfl|h:=zal.1 h;simp_all;have:=G5 h i hi;grind
theorem yz{k:Nat}(h:ops[k]?=Td o):jg ops k=o.dst:=by simp[jg,h]
def jt(j:Nat):List Nat->List Nat
 |[]=>[]
 |k::l=>bif mv k j then jt j l else k::jt j l
theorem rN{j x:Nat}:∀{l:ac0},x∈jt j l↔x∈l/\x≠j
 |[]=>by simp[jt]
 |k::l=>by
  simp only[jt];cases hb:mv k j with
  |true=>have:=zao hb;subst this;rw[zK,rN,zal];simp_all
  |false=>
   have b:k≠j:=λe=>θ
   rw[zL,zal,zal,rN];grind
def BU{j:Nat}:∀{l:ac0},l.Nodup->(jt j l).Nodup
 |[],h=>h
 |k::l,h=>by
  simp only[jt];rw[zdk]at h;cases mv k j with
  |true=>exact BU h.2
  |false=>rw[zL,zdk];exact⟨λb=>h.1 (rN.1 b).1,BU h.2⟩
theorem FC{j:Nat}:∀{l:ac0},(jt j l).length<=DB l
 |[]=>zac _
 |k::l=>by simp only[jt];have:=FC (j:=j) (l:=l);grind
def Mw{j:Nat}:∀{l:ac0},j∈l->(jt j l).length+1<=DB l
 |[],h=>by cases h
 |k::l,h=>by
  simp only[jt];cases hb:mv k j with
  |true=>simp[FC,zK,za1]
  |false=>
   have b:k≠j:=λe=>θ
   have:=Mw (j:=j) (l:=l) η;simp_all
def Dh(p:Nat->Prop):List Nat->Prop
 |[]=>True
 |[j]=>p j
 |j::k::l=>p j/\Dh p (k::l)
def H6{p:Nat->Prop}:∀{l:ac0},Dh p l->∀j∈l,p j
 |[],_,j,h=>ε h
 |[k],H,j,h=>by simp at h;subst h;exact H
 |k::k2::l,H,j,h=>by obtain rfl|h:=zal.1 h;exact H.1;exact H6 H.2 j h
def tu(p:Nat->Bool):List Nat->List Nat
 |[]=>[]
 |j::l=>bif p j then j::tu p l else tu p l
def Dp{p:Nat->Bool}{j:Nat}:∀{l:ac0},j∈l->p j=Ta->j∈tu p l
 |[],h,_=>ε h
 |k::l,h,hp=>by
  simp only[tu];obtain rfl|h:=zal.1 h;simp_all;cases p k with
  |true=>exact zan _ (Dp h hp)
  |false=>exact Dp h hp
end
section
variable {l:List Nat} {i m n:Nat} {ops:Array n9} {P:EM} {o:n9} {h h0:zc} {e:bR} {a b:Act}
def JJ(o:n9):Bool:=match o.op with
 |.extract _ _=>Ta
 |_=>Tc
variable {gq : Bool}
def qI(o:n9):Bool:=bif sF o then Ta else JJ o
def mf(ops:Array n9):Nat->List Nat->List Nat
 |0,S=>S
 |k+1,S=>mf ops k (bif S.any λp=>qr .any ops p k then k::S else S)
def Cz{ops:Array n9}{listed:ad1}(b:∀i p,listed.getD i Tc=Ta->qr .any ops i p=Ta->listed.getD p Tc=Ta):∀{m:Nat} {S:ac0},(∀j∈S,listed.getD j Tc=Ta)->∀k∈mf ops m S,listed.getD k Tc=Ta
 |0,S,h,k,hk=>h k hk
 |m+1,S,h,k,hk=>by unfold mf at hk;refine Cz b (m:=m) (λj c=>?_) k hk;grind
theorem Wv(h:Fm l i=Ta):i∈l:=by
 induction l with
 |nil=>cases h
 |cons j l b=>simp only[Fm]at h;grind [zao,zat,zan]
theorem wO(h:i∈l):Fm l i=Ta:=by grind [Yh]
def Mz(ops:Array n9)(k:Nat):Bool:=match ops[k]? with
 |some o=>!(qI o)
 |none=>Tc
def YZ(ops:Array n9)(i:Nat):Bool:=(mf ops ops.size [i]).any (Mz ops)
def Vh(o:n9):Bool:=match o.guard with
 |none=>Tc
 |some _=>Ta
def GH(ops:Array n9)(t:Nat):Nat->Bool
 |0=>Tc
 |k+1=>bif (match ops[k]? with
  |some o=>Fm (MT o.op.operands.toList) t
  |none=>Tc)then Ta else GH ops t k
def WP(ops:Array n9)(i:Nat)(o:n9):Bool:=match o.op with
 |.assign _=>(match o.dst with
  |some t=>GH ops t i
  |none=>Tc)
 |_=>Tc
def hX(gq:Bool)(ops:Array n9)(i:Nat):Bool:=match ops[i]? with
 |some o=>bif (bif Vh o then !gq else Tc)then Ta else bif qI o then(bif ji o then YZ ops i else WP ops i o)else Ta
 |none=>Ta
def jn(gq:Bool)(ops:Array n9):List Nat:=(za7 ops.size).filter (hX gq ops)
def qS{j:Nat}:j∈jn gq ops↔j<ops.size/\hX gq ops j=Ta:=by unfold jn;simp
def V4(ops:Array n9):(jn gq ops).Nodup:=zep.filter _
def nS(gq:Bool)(ops:Array n9)(done S:List Nat)(k:Nat):Nat->Bool
 |0=>Ta
 |p+1=>bif qr .any ops k p then(bif (bif hX gq ops p then Fm done p else Fm S p)then nS gq ops done S k p else Tc)else nS gq ops done S k p
def x5{ops:Array n9}{done S:ac0}{k:Nat}:∀{m:Nat},nS gq ops done S k m=Ta↔∀p,p<m->qr .any ops k p=Ta->(hX gq ops p=Ta->p∈done)/\(hX gq ops p=Tc->p∈S)
 |0=>⟨λ_ p c=>ω,λ_=>rfl⟩
 |m+1=>by
  unfold nS;have e:=x5 (ops:=ops) (done:=done) (S:=S) (k:=k) (m:=m);constructor;intro h p c b;obtain h1|h1:=zbv p m;grind;have:p=m:=ω
  subst this;rw[b,zK]at h;cases hi:hX gq ops p with
  |true=>simp_all[zK,Wv]
  |false=>simp_all[zL,Wv]
  intro h;have h1:=e.2 λp c b=>h p ω b;cases b:qr .any ops k m with
  |false=>exact h1
  |true=>simp_all[zK,wO]
def vd(gq:Bool)(ops:Array n9)(done S:List Nat)(k:Nat):List Nat:=bif hX gq ops k then S else(bif nS gq ops done S k k then k::S else S)
def J9(gq:Bool)(ops:Array n9)(done:List Nat):Nat->List Nat
 |0=>[]
 |k+1=>vd gq ops done (J9 gq ops done k) k
theorem xy{ops:Array n9}{done:ac0}:∀{m i:Nat},i∈J9 gq ops done m->i<m/\hX gq ops i=Tc/\nS gq ops done (J9 gq ops done i) i i=Ta
 |0,i,h=>ε h
 |m+1,i,h=>by
  unfold J9 vd at h;cases hi:hX gq ops m with
  |true=>rw[hi,zK]at h;have:=xy h;grind
  |false=>
   rw[hi,zL]at h;cases ho:nS gq ops done (J9 gq ops done m) m m with
   |false=>rw[ho,zL]at h;have:=xy h;grind
   |true=>rw[ho,zK]at h;obtain rfl|h:=zal.1 h;simp_all;have:=xy h;grind
def Bm{ops:Array n9}{done:ac0}{m:Nat}:∀{m' i:Nat},m<=m'->i∈J9 gq ops done m->i∈J9 gq ops done m'
 |0,i,h,hi=>θ
 |m'+1,i,h,hi=>by obtain e|e:=Nat.eq_or_lt_of_le h;simp_all;have:=Bm (m':=m') ω hi;unfold J9 vd;grind
theorem vE{done:ac0}(b:i<m)(h1:hX gq ops i=Tc)(h2:nS gq ops done (J9 gq ops done i) i i=Ta):i∈J9 gq ops done m:=by refine Bm (m:=i+1) b ?_;unfold J9 vd;simp_all
theorem uq{done:ac0}{m i p:Nat}(h:i∈J9 gq ops done m)(c:p<i)(e:qr .any ops i p=Ta):(hX gq ops p=Ta->p∈done)/\(hX gq ops p=Tc->p∈J9 gq ops done m):=by have⟨h1,h2,f⟩:=xy h;have⟨a,b⟩:=x5.1 f p c e;exact⟨a,λhi=>Bm ω (b hi)⟩
def Wa(b c:List Nat)(n:Nat):List Nat:=(za7 n).filter λi=>bif Fm c i then !(Fm b i)else Tc
theorem Kp{c b:ac0}:i∈Wa c b n↔i<n/\i∈b/\i∉c:=by
 unfold Wa;rw[List.mem_filter,zcs];constructor;rintro⟨h1,h2⟩;cases hn:Fm b i with
 |false=>simp_all
 |true=>rw[hn,zK]at h2;grind [Wv,wO]
 rintro⟨h1,h2,e⟩;refine⟨h1,?_⟩;rw[wO h2,zK];grind [Wv]
def F9(b c:ac0)(n:Nat):(Wa b c n).Pairwise (· < ·):=zeh.filter _
def wI(P:EM)(n:Nat)(h:zc)(ld:Bool)(ops:Array n9)(K:bR->Prop):List Nat->bR->Prop
 |[],e=>K e
 |i::l,e=>match ops[i]? with
  |some o=>bif qI o then(bif (bif ld then Ta else !(ji o))then(bif Js o.op then(match Zq ops e o.guard with
   |some c=>bif wj n c o.dst then(bif known e c o.op.operands.toList then(match Ym e c with
    |some g=>jO P o (j4 e c) g h λv=>wI P n h ld ops K l (putO e o.dst c v)
    |none=>False)else False)else False
   |none=>False)else False)else False)else False
  |none=>False
def yw(ops:Array n9)(f:Nat->Value):List Nat->Act->Act
 |[],a=>a
 |i::l,a=>yw ops f l (a.put (jg ops i) (f i))
def Vj(b:qI o=Ta){ρ:n7->Value}{g:ac8}{K:ac9}(H:jO P o ρ g h K):∃v,K v/\(ij g->∀h',YS o ρ h h'->Bk P (hV ρ o) h' (.value v)):=by
 unfold qI at b;cases hb:sF o with
 |true=>exact TV hb H
 |false=>rw[hb,zL]at b;unfold JJ at b;split at b;rename_i x i c;unfold jO at H;rw[c]at H;have⟨v,h1,h2⟩:=qn H g;grind;cases b
def Kd{ops:Array n9}{f:Nat->Value}:∀{l:ac0} {a:Act},(yw ops f l a).tmps.size=a.tmps.size/\(yw ops f l a).defers=a.defers
 |[],_=>⟨rfl,rfl⟩
 |i::l,a=>by unfold yw;have:=Kd (ops:=ops) (f:=f) (l:=l) (a:=a.put (jg ops i) (f i));rw[this.1,this.2];exact⟨SM _ _ _,Zf _ _ _⟩
theorem jy{ops:Array n9}{f:Nat->Value}{s:Nat}:∀{l:ac0} {a:Act},(∀i∈l,jg ops i≠Td s)->ql (yw ops f l a) s=ql a s
 |[],_,_=>rfl
 |i::l,a,h=>by unfold yw;rw[jy λj b=>h j (zan _ b)];exact wu (h i zat)
theorem zZ{ops:Array n9}{f:Nat->Value}:∀{l m:ac0} {a:Act},yw ops f (l++m) a=yw ops f m (yw ops f l a)
 |[],_,_=>rfl
 |i::l,m,a=>by rw[zbs];show yw ops f (l++m) _=yw ops f m (yw ops f l _);exact zZ
def A6{P:EM}{n:Nat}{h:zc}{ld:Bool}{ops:Array n9}{K:bR->Prop}(f0:Nat->Value):∀{l:ac0} {e:bR} {a:Act},l.Nodup->wI P n h ld ops K l e->Sat n e a->∃(f:Nat->Value) (y:bR),K y/\Sat n y (yw ops f l a)/\(∀i,i∉l->f i=f0 i) /\ ∀b i B,l=b++i::B->∃o,ops[i]?=Td o/\(ld=Tc->ji o=Tc)/\Js o.op=Ta/\(∀t,o.dst=Td t->t<n)/\(zbj o (yielded ops (yw ops f b a).tmps)=Ta->∀h',YS o (yw ops f b a).eval h h'->Bk P (hV (yw ops f b a).eval o) h' (.value (f i)))/\(zbj o (yielded ops (yw ops f b a).tmps)≠Ta->f i=undef)
 |[],e,a,_,H,hs=>⟨f0,e,H,hs,λ_ _=>rfl,λb i B h=>ι h⟩
 |i::l,e,a,hnd,H,hs=>by
  unfold wI at H;cases ho:ops[i]? with
  |none=>simp_all
  |some o=>
   rw[ho]at H;simp only at H;cases hq:qI o with
   |false=>simp_all
   |true=>
    rw[hq,zK]at H;cases hld:(cond ld Ta (!(ji o)))with
    |false=>simp_all
    |true=>
     rw[hld,zK]at H;cases hns:Js o.op with
     |false=>simp_all
     |true=>
      rw[hns,zK]at H;split at H;rename_i c I;cases hd:wj n c o.dst with
      |false=>simp_all
      |true=>
       rw[hd,zK]at H;cases hk:known e c o.op.operands.toList with
       |false=>simp_all
       |true=>
        rw[hk,zK]at H;split at H;rename_i g J;rw[zdk]at hnd;have⟨v,E,G⟩:=Vj hq H;have r:jg ops i=o.dst:=yz ho;obtain⟨u,w,p⟩:∃u,(CT (ql a) c->u=v)/\(¬CT (ql a) c->u=undef):=by by_cases k:CT (ql a) c;simp_all;simp_all
        have q:=Qj hs I;have⟨f,y,g1,g2,M,N⟩:=A6 (λx=>ite (x=i) u (f0 x)) (a:=a.put o.dst u) hnd.2 E (hs.putO hd w p);have m:f i=u:=by rw[M i hnd.1,zA rfl]
        have C:∀b,yw ops f (i::b) a=yw ops f b (a.put o.dst u):=λb=>by show yw ops f b (a.put (jg ops i) (f i))=_;rw[r,m]
        refine⟨f,y,g1,η,λj O=>?_,λb j B A=>?_⟩;simp_all;cases b with
        |nil=>simp only[zcm,zcv]at A;obtain⟨rfl,rfl⟩:=A;refine⟨o,ho,λA=>θ,hns,λt D=>by rw[D]at hd;unfold wj at hd;simp_all,λz h' L=>?_,λz=>?_⟩;show Bk P (hV a.eval o) h' _;have k:=q.1 z;rw[u0 hs k hns hk,m,w k];exact G (Yn hs J k) h' (YS.congr (λx F=>(Wu hs k hk x F).symm) L);rw[m];exact p λk=>z (q.2 k)
        |cons Q b=>grind
        cases H
      cases H
def rX(gq:Bool)(ops:Array n9)(U:List Nat):Nat->Bool
 |0=>Tc
 |k+1=>bif (match ops[k]? with
  |some o=>bif ji o then(bif hX gq ops k then Tc else !(Fm U k))else Tc
  |none=>Tc)then Ta else rX gq ops U k
theorem JX{ops:Array n9}{U:ac0}:∀{m:Nat},rX gq ops U m=Tc->∀k o,k<m->ops[k]?=Td o->ji o=Ta->hX gq ops k=Tc->k∈U
 |0,_,k,o,hk,_,_,_=>ω
 |m+1,h,k,o,hk,ho,hl,hi=>by
  unfold rX at h;cases hb:(match ops[m]? with
   |some o=>cond (ji o) (cond (hX gq ops m) Tc (!(Fm U m))) Tc
   |none=>Tc)with
  |true=>simp_all
  |false=>
   rw[hb,zL]at h;obtain h1|h1:=zbv k m;exact JX h k o h1 ho hl hi;have:k=m:=ω
   simp_all[zK,zL,Wv]
def oR(gq:Bool)(ops:Array n9)(U:List Nat)(e:bR)(h0 h':zc)(K:Prop):Nat->Prop
 |0=>K
 |k+1=>match ops[k]? with
  |some o=>bif (bif ji o then(bif hX gq ops k then Tc else !(Fm U k))else Tc)then(match o.op,Zq ops e o.guard with
   |.load _ a,some c=>bif known e c [a]then(match j4 e c a,Ym e c with
    |.pointer (Td p),some g=>req g (h'[p.block]?=h0[p.block]?)/\oR gq ops U e h0 h' K k
    |_,_=>False)else False
   |_,_=>False)else oR gq ops U e h0 h' K k
  |none=>oR gq ops U e h0 h' K k
def Mc{ops:Array n9}{U:ac0}{e:bR}{h0 h':zc}{K:Prop}:∀{m:Nat},oR gq ops U e h0 h' K m->K/\∀k o,k<m->ops[k]?=Td o->ji o=Ta->hX gq ops k=Tc->k∉U ->∃t a p c g,o.op=.load t a/\Zq ops e o.guard=Td c/\Ym e c=Td g/\known e c [a]=Ta/\j4 e c a=.pointer (Td p)/\req g (h'[p.block]?=h0[p.block]?)
 |0,H=>⟨H,λk o i=>ω⟩
 |m+1,H=>by
  unfold oR at H;have step:oR gq ops U e h0 h' K m->(∀o,ops[m]?=Td o->ji o=Ta->hX gq ops m=Tc->m∉U->∃t a p c g,o.op=.load t a/\Zq ops e o.guard=Td c/\Ym e c=Td g/\known e c [a]=Ta/\j4 e c a=.pointer (Td p)/\req g (h'[p.block]?=h0[p.block]?)) ->
   K/\∀k o,k<m+1->ops[k]?=Td o->ji o=Ta->hX gq ops k=Tc->k∉U->∃t a p c g,o.op=.load t a/\Zq ops e o.guard=Td c/\Ym e c=Td g/\known e c [a]=Ta/\j4 e c a=.pointer (Td p)/\req g (h'[p.block]?=h0[p.block]?):=λf j=>by
   have⟨h1,h2⟩:=Mc f;grind
  cases ho:ops[m]? with
  |none=>grind
  |some o=>
   rw[ho]at H;simp only at H;have same:∀b,ops[m]?=Td b->b=o:=λb h1=>za9 (h1.symm.trans ho);cases hc:(cond (ji o) (cond (hX gq ops m) Tc (!(Fm U m))) Tc)with
   |false=>rw[hc]at H;refine step H λb h1 h2 h l=>?_;rw[same b h1]at h2;rw[h2,h,zK,zL]at hc;grind [Wv]
   |true=>grind
def tT(gq:Bool)(ops:Array n9)(T:List Nat)(e:bR)(h0 h':zc)(K:Prop):Prop:=bif rX gq ops (mf ops ops.size T) ops.size then oR gq ops (mf ops ops.size T) e h0 h' K ops.size else K
def vA(ops:Array n9)(todo:List Nat)(j:Nat):Bool:=todo.all λk=>bif mv k j then Ta else !(Fm (mf ops ops.size [j]) k)
def mr(gq:Bool)(P:EM)(n:Nat)(ops:Array n9)(h0:zc)(K:bR->zc->Prop):Nat->List Nat->List Nat->bR->zc->Prop
 |_,_,[],e,h=>K (clean e) h
 |0,_,_::_,_,_=>False
 |f+1,T,b::l0,e,h=>Dh (λj=>match ops[j]? with
  |some o=>(match Zq ops e o.guard with|some c=>bif wj n c o.dst then nk P o e c h λv h'=>wI P n h' Tc ops (λi=>tT gq ops (j::T) i h0 h' (mr gq P n ops h0 K f (j::T) (jt j (b::l0)) i h')) (Wa (J9 gq ops T ops.size) (J9 gq ops (j::T) ops.size) ops.size) (putO e o.dst c v)else False|none=>False)
  |none=>False) (tu (vA ops (b::l0)) (b::l0))
theorem Oe{K:bR->zc->Prop}{f:Nat}{T todo:ac0}(H:mr gq P n ops h0 K (f+1) T todo e h){j:Nat}(b:j∈todo)(k:vA ops todo j=Ta):match ops[j]? with
 |some o=>(match Zq ops e o.guard with|some c=>bif wj n c o.dst then nk P o e c h λv h'=>wI P n h' Tc ops (λi=>tT gq ops (j::T) i h0 h' (mr gq P n ops h0 K f (j::T) (jt j todo) i h')) (Wa (J9 gq ops T ops.size) (J9 gq ops (j::T) ops.size) ops.size) (putO e o.dst c v)else False|none=>False)
 |none=>False:=by
 cases todo with
 |nil=>cases b
 |cons m l=>exact H6 H j (Dp b k)
def p8(gq:Bool)(ops:Array n9)(k:Nat)(S:List Nat):Nat->Bool
 |0=>Ta
 |p+1=>bif (match jg ops p with
  |some t=>bif Fm S t then(bif qr .any ops k p then Ta else bif hX gq ops p then qr .any ops p k else Tc)else Ta
  |none=>Ta)then p8 gq ops k S p else Tc
def Ww{ops:Array n9}{k:Nat}{S:ac0}:∀{m:Nat},p8 gq ops k S m=Ta->∀p t,p<m->jg ops p=Td t->t∈S->qr .any ops k p=Ta\/(hX gq ops p=Ta/\qr .any ops p k=Ta)
 |0,_,p,t,hp,_,_=>ω
 |m+1,h,p,t,hp,hd,ht=>by
  simp only[p8]at h;cases hb:(match jg ops m with
   |some t=>cond (Fm S t) (cond (qr .any ops k m) Ta (cond (hX gq ops m) (qr .any ops m k) Tc)) Ta
   |none=>Ta)with
  |false=>simp_all
  |true=>
   rw[hb]at h;obtain h1|h1:=zbv p m;exact Ww h p t h1 hd ht;have:p=m:=ω
   simp_all[wO,zK]
def qB(gq:Bool)(ops:Array n9):Nat->Bool
 |0=>Ta
 |k+1=>bif (match ops[k]? with
  |some o=>p8 gq ops k (MT o.op.operands.toList) ops.size
  |none=>Ta)then qB gq ops k else Tc
def Wx{ops:Array n9}:∀{m:Nat},qB gq ops m=Ta->∀k o,k<m->ops[k]?=Td o->p8 gq ops k (MT o.op.operands.toList) ops.size=Ta
 |0,_,k,o,hk,_=>ω
 |m+1,h,k,o,hk,ho=>by
  unfold qB at h;cases hb:(match ops[m]? with
   |some o=>p8 gq ops m (MT o.op.operands.toList) ops.size
   |none=>Ta)with
  |false=>simp_all
  |true=>rw[hb,zK]at h;obtain h1|h1:=zbv k m;exact Wx h k o h1 ho;grind
def qF(ops:Array n9)(o:n9):List Nat:=match o.guard with
 |none=>[]
 |some (j,_)=>match jg ops j with
  |some t=>[t]
  |none=>[]
def pk(ops:Array n9):Nat->Bool
 |0=>Ta
 |k+1=>bif (match ops[k]? with
  |some o=>bif Js o.op then Yo ops k (qF ops o) ops.size else Tc
  |none=>Ta)then pk ops k else Tc
def Cy{ops:Array n9}:∀{m:Nat},pk ops m=Ta->∀k o,k<m->ops[k]?=Td o->Js o.op=Ta/\Yo ops k (qF ops o) ops.size=Ta
 |0,_,k,o,hk,_=>ω
 |m+1,h,k,o,hk,ho=>by
  unfold pk at h;cases hb:(match ops[m]? with
   |some o=>cond (Js o.op) (Yo ops m (qF ops o) ops.size) Tc
   |none=>Ta)with
  |false=>simp_all
  |true=>rw[hb,zK]at h;obtain h1|h1:=zbv k m;exact Cy h k o h1 ho;grind
def Cx(h:∀t∈qF ops o,ql a t=ql b t):zbj o (yielded ops a.tmps)=zbj o (yielded ops b.tmps):=by
 unfold zbj;cases hg:o.guard with
 |none=>rfl
 |some f=>
  have⟨j,p⟩:=f;have:yielded ops a.tmps j=yielded ops b.tmps j:=by
   unfold yielded;cases hd:(ops[j]?).bind (·.dst)with
   |none=>rfl
   |some t=>
    have e:jg ops j=Td t:=by
     unfold jg;cases hoj:ops[j]? with
     |none=>simp_all
     |some i=>simp_all
    have c:=h t (by unfold qF;simp_all);unfold ql at c;simp only[zb6]at c;simp only[zc3];cases h1:a.tmps[t]? <;> cases h2:b.tmps[t]? <;> rw[h1,h2]at c <;> simp at c <;> first|rfl|(subst c;rfl)|(rw[<-c];rfl)|(rw[c];rfl)
  grind
def nL(gq:Bool)(ops:Array n9):Bool:=bif pk ops ops.size then(bif wo ops ops.size then(bif J8 ops ops.size then qB gq ops ops.size else Tc)else Tc)else Tc
def JR(h:nL gq ops=Ta):pk ops ops.size=Ta/\wo ops ops.size=Ta/\J8 ops ops.size=Ta/\qB gq ops ops.size=Ta:=by unfold nL at h;simp_all
structure St7 (gq:Bool) (P:EM) (n:Nat) (ops:Array n9) (h0:zc) (K:bR->zc->Prop) (f:Nat->Value) (a0:Act) (listed:Array Bool) (a b:Act) (e:bR) (h:zc) (done todo:List Nat):Prop where
 inv:HeadInv .any ops ops.size listed
 ag:∀s,(∀i o,ops[i]?=Td o->hX gq ops i=Tc->listed.getD i Tc=Tc->o.dst≠Td s)->ql a s=ql b s
 sz:a.tmps.size=n
 ad:a.defers=[]
 sb:Sat n e b
 qv:∀i o t,ops[i]?=Td o->i∈J9 gq ops done ops.size->o.dst=Td t->ql b t=f i/\t<n
 qx:∀i o,ops[i]?=Td o->i∈J9 gq ops done ops.size->listed.getD i Tc=Tc->(zbj o (yielded ops b.tmps)=Ta->∀h',YS o b.eval h0 h'->Bk P (hV b.eval o) h' (.value (f i)))/\(zbj o (yielded ops b.tmps)≠Ta->f i=undef)
 tt:∀j,j∈jn gq ops->(j∈todo↔listed.getD j Tc=Tc)
 ch:∀j,j∈jn gq ops->(listed.getD j Tc=Ta↔j∈done)
 dn:∀j∈done,j∈jn gq ops
 th:∀j∈todo,j∈jn gq ops
 nd:todo.Nodup
 wt:∃fu,todo.length<=fu/\mr gq P n ops h0 K fu done todo e h
 kp:∀i o,ops[i]?=Td o->ji o=Ta->hX gq ops i=Tc->listed.getD i Tc=Tc->zbj o (yielded ops b.tmps)=Ta->YS o b.eval h0 h
 sm:Same (w9 ops.toList) a0 a
def F7{ld:Bool}(G:pk ops ops.size=Ta)(y:wo ops ops.size=Ta)(O:J8 ops ops.size=Ta)(M:qB gq ops ops.size=Ta){f:Nat->Value}(F:b.tmps.size=n)(m:∀i∈l,i<ops.size)(aa:∀i∈l,hX gq ops i=Tc)(w:l.Pairwise (· < ·)) (H:∀c i e,l=c++i::e->∃o,ops[i]?=Td o/\(ld=Tc->ji o=Tc)/\Js o.op=Ta/\(∀t,o.dst=Td t->t<n)/\(zbj o (yielded ops (yw ops f c b).tmps)=Ta->∀h',YS o (yw ops f c b).eval h h'->Bk P (hV (yw ops f c b).eval o) h' (.value (f i)))/\(zbj o (yielded ops (yw ops f c b).tmps)≠Ta->f i=undef)):∀i o,ops[i]?=Td o->i∈l->(∀t,o.dst=Td t->ql (yw ops f l b) t=f i/\t<n)/\(ld=Tc->ji o=Tc)/\(zbj o (yielded ops (yw ops f l b).tmps)=Ta->∀h',YS o (yw ops f l b).eval h h'->Bk P (hV (yw ops f l b).eval o) h' (.value (f i)))/\(zbj o (yielded ops (yw ops f l b).tmps)≠Ta->f i=undef):=by
 intro i o E hi;obtain⟨c,e,rfl⟩:=List.append_of_mem hi;have⟨z,Z,T,q4,U,Y,V⟩:=H c i e rfl;have:z=o:=za9 (Z.symm.trans E);subst this;have p:i<ops.size:=m i ξ;have hs:∀j∈e,i<j:=λj k=>by rw[zdo]at w;simp_all
 have q:yw ops f (c++i::e) b=yw ops f e ((yw ops f c b).put (jg ops i) (f i)):=by rw[zZ];rfl
 have r:jg ops i=z.dst:=yz E;have C:∀j∈i::e,qr .any ops i j=Ta->False:=λj k I=>by have⟨oj,L,x,J,hb,S⟩:=Region.waitsFor_spec I;have h1:=je y i oj p L x J hb;grind
 have Q:yw ops f (c++i::e) b=yw ops f (i::e) (yw ops f c b):=zZ;have A:∀t∈MT z.op.operands.toList,ql (yw ops f (c++i::e) b) t=ql (yw ops f c b) t:=λt u=>by rw[Q];refine jy λj k D=>C j k ?_;rcases Ww (Wx M i z p E) j t (m j (ϑ k)) D u with h|h;exact h;simp_all
 have N:zbj z (yielded ops (yw ops f (c++i::e) b).tmps)=zbj z (yielded ops (yw ops f c b).tmps):=Cx λt u=>by rw[Q];exact jy λj k D=>C j k (Zg (Cy G i z p E).2 j t (m j (ϑ k)) D u)
 rw[N];refine⟨λt u=>?_,T,λI h' hh=>?_,V⟩;have B:=U t u;refine⟨?_,B⟩;rw[q,jy λj k D=>?_,r,u,xu (by rw[Kd.1,F];exact B)];have:=wq O i j t p (m j (ϑ k)) (by rw[r,u]) D;grind;rw[CQ q4 A];exact Y I h' (YS.congr (λx J=>(vB A x J).symm) hh)
theorem TL{K:bR->zc->Prop}{Q:Exit->Act->Nd->Prop}(B:Nd)(hmix:nL gq ops=Ta){a0:Act}
    (hQ:∀e' a' d' h',Sat n e' a'->Same (w9 ops.toList) a0 a'->K e' h'->Q .normal a' (mk B d' h')):
    ∀(N:Nat) (U:List Nat) (listed:Array Bool) (f:Nat->Value) (a b:Act) (e:bR) (h:zc) (d:Nat) (done todo:List Nat),U.length=N->U.Nodup->(∀k,k∈U↔k<ops.size/\listed.getD k Tc=Tc) ->
      St7 gq P n ops h0 K f a0 listed a b e h done todo->wpAny P .any ops Q N listed a (mk B d h):=by
  obtain⟨hng,hback,hnd,hsl⟩:=JR hmix
  have hgd:∀(i:Nat) (o:n9),ops[i]?=Td o->Js o.op=Ta/\Yo ops i (qF ops o) ops.size=Ta:=λi o ho=>Cy hng i o (zaq.1 ho).1 ho
  have hslot0:∀k o,ops[k]?=Td o->∀p t,p<ops.size->jg ops p=Td t->t∈MT o.op.operands.toList->qr .any ops k p=Ta\/(hX gq ops p=Ta/\qr .any ops p k=Ta):=λk o ho p t hp hd ht=>
    Ww (Wx hsl k o (zaq.1 ho).1 ho) p t hp hd ht
  have hbk:∀k p,qr .any ops k p=Ta->p<k:=λk p hw=>by
    obtain⟨oj,hoj,x,hx,hb,hon⟩:=Region.waitsFor_spec hw
    have:=je hback k oj (zaq.1 hoj).1 hoj x hx hb
    omega
  have fin:∀{listed:Array Bool} {f:Nat->Value} {a b:Act} {e:bR} {h:zc} {d:Nat} {done todo:List Nat},(∀k,k<ops.size->listed.getD k Tc=Ta)->St7 gq P n ops h0 K f a0 listed a b e h done todo->Q .normal a (mk B d h):=by
    intro listed f a b e h d done todo hall S
    have htodo:todo=[]:=by
      cases htd:todo with
      |nil=>rfl
      |cons j l=>
        have hm:j∈todo:=by rw[htd];simp
        have hj:=S.th j hm
        have:=(S.tt j hj).1 hm
        rw[hall j (qS.1 hj).1]at this;cases this
    obtain⟨fu,_,hw⟩:=S.wt
    rw[htodo]at hw
    have hw:K (clean e) h:=by cases fu <;> exact hw
    have hv:∀s,ql a s=ql b s:=λs=>S.ag s λi o ho hq hl=>by
      grind
    have hs:Sat n e a:=⟨S.ad,S.sz,λx hx=>by
      have:=S.sb.all x hx
      have e1:ql a=ql b:=funext hv
      grind⟩
    exact hQ _ _ _ _ hs.clean S.sm hw
  intro N
  induction N with
  |zero=>
    intro U listed f a b e h d done todo hU _ hmem S
    have hUn:U=[]:=zdr.1 hU
    subst hUn
    have hall:∀k,k<ops.size->listed.getD k Tc=Ta:=λk hk=>by
      simp_all
    refine⟨?_,fin hall S⟩
    rw[List.eq_nil_iff_forall_not_mem]
    intro j hj
    obtain⟨h1,o,ho,_⟩:=mem_ready.1 hj
    grind
  |succ N ih=>
    intro U listed f a b e h d done todo hU hdup hmem S
    have hex:∃k,k<ops.size/\listed.getD k Tc=Tc:=by
      cases U with
      |nil=>cases hU
      |cons k U=>exact⟨k,(hmem k).1 zat⟩
    refine⟨λhr=>?_,λi hi=>?_⟩
    · exfalso
      obtain⟨k,hk1,hk2,hk3⟩:=Px hex
      have:k∈Region.ready .any ops listed:=mem_ready.2 ⟨by rw[<-hk2];simp[S.inv.size,hk1],ops[k],zcc hk1,λx hx hb=>hk3 _ (je hback k ops[k] hk1 (zcc hk1) x hx hb)⟩
      grind
    · obtain⟨hun1,o,ho,hall⟩:=mem_ready.1 hi
      have hun:listed.getD i Tc=Tc:=getD_both hun1
      have hlt:i<ops.size:=(zaq.1 ho).1
      obtain⟨hns,hgs⟩:=hgd i o ho
      have hils:i<listed.size:=by rw[S.inv.size];exact hlt
      have hU':(U.erase i).length=N:=by rw[List.length_erase_of_mem ((hmem i).2 ⟨hlt,hun⟩),hU];rfl
      have hdup':(U.erase i).Nodup:=hdup.erase i
      have hmem':∀k,k∈U.erase i↔k<ops.size/\(listed.setIfInBounds i Ta).getD k Tc=Tc:=λk=>by
        rw[hdup.mem_erase_iff,hmem k]
        by_cases hk:i=k
        · subst hk;simp[hils]
        · rw[getD_set_ne Tc hk];grind
      have inv':=S.inv.set hi hlt
      have hset:∀k,k≠i->(listed.setIfInBounds i Ta).getD k Tc=listed.getD k Tc:=λk hk=>getD_set_ne Tc (Ne.symm hk)
      have hsetI:(listed.setIfInBounds i Ta).getD i Tc=Ta:=by simp[hils]
      have hops:∀t∈MT o.op.operands.toList,ql a t=ql b t:=λt ht=>S.ag t λk ok hok hq hl hd=>by
        rcases hslot0 i o ho k t (zaq.1 hok).1 (by rw[yz hok,hd]) ht with hw|hw
        grind [vF]
        grind
      have hexec:=CQ hns hops
      have hsame:∀v,Same (w9 ops.toList) a0 (a.put o.dst v):=λv=>S.sm.trans (Same.put a o.dst _ λt ht=>G5 (by
          grind) t ht)
      unfold wpOp
      rw[ho]
      simp only
      have hwab:zbj o (yielded ops a.tmps)=zbj o (yielded ops b.tmps):=Cx λt ht=>S.ag t λk ok hok hq hl hd=>by
        have hw:=Zg hgs k t (zaq.1 hok).1 (by rw[yz hok,hd]) ht
        grind [vF]
      cases hq:hX gq ops i with
      |false=>
        have hrdyG:∀m k ok,k<m->ops[k]?=Td ok->hX gq ops k=Tc->(∀p,qr .any ops k p=Ta->listed.getD p Tc=Ta)->k∈J9 gq ops done ops.size:=by
          intro m
          induction m with
          |zero=>omega
          |succ m ihm=>
            intro k ok hk hok hkh hkw
            refine vE (zaq.1 hok).1 hkh (x5.2 λp hp hw=>⟨λhph=>?_,λhph=>?_⟩)
            · have hpl:=hkw p hw
              exact(S.ch p (qS.2 ⟨η,hph⟩)).1 hpl
            · have hps:p<ops.size:=χ ((zaq.1 hok).1)
              have hin:=ihm p ops[p] ω (zcc hps) hph λq hq2=>Jg S.inv (hkw p hw) hq2
              grind [xy,vE]
        have hrdy:=hrdyG (i+1) i o ω ho hq λp hw=>vF hi hw
        have hqx:=S.qx i o ho hrdy hun
        have hnot:i∉jn gq ops:=λhm=>by rw[(qS.1 hm).2]at hq;cases hq
        have hunset:∀k,(listed.setIfInBounds i Ta).getD k Tc=Tc->listed.getD k Tc=Tc:=λk hu=>by
          grind
        have hfin:wpAny P .any ops Q N (listed.setIfInBounds i Ta) (a.put o.dst (f i)) (mk B d h):=by
         refine ih _ _ f _ b e h d done todo hU' hdup' hmem' { S with inv:=inv',ag:=λs hs=>?_,sz:=by rw[SM];exact S.sz,ad:=by rw[Zf];exact S.ad,tt:=λj hj=>(by have:j≠i:=λe=>hnot (e ▸ hj);rw[hset j this];exact S.tt j hj),ch:=λj hj=>?_,qx:=λk ok hok hk hu=>S.qx k ok hok hk (hunset k hu),kp:=λk ok hok hl hkh hk=>?_,sm:=hsame _ }
         · by_cases hd:o.dst=Td s
           · obtain⟨hv,hsn⟩:=S.qv i o s ho hrdy hd
             rw[hd,xu (by rw[S.sz];exact hsn),hv]
           · rw[wu hd]
             refine S.ag s λk ok hok hqk hlk=>?_
             grind
         · have:j≠i:=λe=>hnot (e ▸ hj)
           rw[hset j this];exact S.ch j hj
         · by_cases hki:k=i
           grind
           · rw[hset k hki]at hk;exact S.kp k ok hok hl hkh hk
        by_cases hw:zbj o (yielded ops a.tmps)=Ta
        · rw[zA hw]
          left
          unfold Oper.wp
          rw[hexec,hqx.1 η h (by
            cases hl:ji o with
            |false=>exact .inl hl
            |true=>exact S.kp i o ho hl hq hun η) B d,Oper.upon_value]
          exact hfin
        grind
      |true=>
        have hin:i∈jn gq ops:=qS.2 ⟨hlt,hq⟩
        have hit:i∈todo:=(S.tt i hin).2 hun
        obtain⟨fu,hfu,hW0⟩:=S.wt
        have hcl:∀p q,(listed.setIfInBounds i Ta).getD p Tc=Ta->qr .any ops p q=Ta->(listed.setIfInBounds i Ta).getD q Tc=Ta:=λp q h1 h2=>Jg inv' h1 h2
        have hcand:vA ops todo i=Ta:=by
          unfold vA
          rw[zbl]
          intro k hk
          cases hki:mv k i with
          |true=>rfl
          |false=>
            have hne:k≠i:=λe=>by rw[e]at hki;simp at hki
            cases hr:Fm (mf ops ops.size [i]) k with
            |false=>rfl
            |true=>
              exfalso
              have:=Cz hcl (m:=ops.size) (S:=[i]) (λj hj=>η) k (Wv hr)
              rw[hset k hne]at this
              have h2:=(S.tt k (S.th k hk)).1 hk
              grind
        have hW:match ops[i]? with
            |some o=>(match Zq ops e o.guard with|some c=>bif wj n c o.dst then nk P o e c h λv h'=>wI P n h' Tc ops (λe'=>tT gq ops (i::done) e' h0 h' (mr gq P n ops h0 K (fu-1) (i::done) (jt i todo) e' h')) (Wa (J9 gq ops done ops.size) (J9 gq ops (i::done) ops.size) ops.size) (putO e o.dst c v)else False|none=>False)
            |none=>False:=by
          cases fu with
          |zero=>grind
          |succ fu=>
            grind [Oe]
        rw[ho]at hW
        simp only at hW
        cases hch:Zq ops e o.guard with
        |none=>grind
        |some c=>
        rw[hch]at hW
        simp only at hW
        cases hd:wj n c o.dst with
        |false=>grind
        |true=>
          rw[hd,zK]at hW
          have hwv:=Qj S.sb hch
          have key:∀(v u:Value) (d':Nat) (h':zc),(CT (ql b) c->u=v)->(¬CT (ql b) c->u=undef)->wI P n h' Tc ops (λe'=>tT gq ops (i::done) e' h0 h' (mr gq P n ops h0 K (fu-1) (i::done) (jt i todo) e' h')) (Wa (J9 gq ops done ops.size) (J9 gq ops (i::done) ops.size) ops.size) (putO e o.dst c v)->wpAny P .any ops Q N (listed.setIfInBounds i Ta) (a.put o.dst u) (mk B d' h'):=by
           intro v v2 d' h' hv1 hv0 hK
           have sb1:Sat n (putO e o.dst c v) (b.put o.dst v2):=S.sb.putO hd hv1 hv0
           generalize hbl:Wa (J9 gq ops done ops.size) (J9 gq ops (i::done) ops.size) ops.size=bl at hK
           have hbm:∀k,k∈bl↔k<ops.size/\k∈J9 gq ops (i::done) ops.size/\k∉J9 gq ops done ops.size:=λk=>by rw[<-hbl];exact Kp
           have hbsort:bl.Pairwise (· < ·):=by rw[<-hbl];exact F9 _ _ _
           have hbnd:bl.Nodup:=hbsort.imp λh=>ω
           obtain⟨f',e2,HK,sb2,hf0,hfx⟩:=A6 f hbnd hK sb1
           have hbf:=F7 hng hback hnd hsl (f:=f') (l:=bl) (b:=b.put o.dst v2) sb1.size (λk hk=>((hbm k).1 hk).1) (λk hk=>(xy ((hbm k).1 hk).2.1).2.1) hbsort hfx
           have hbnh:∀k∈bl,hX gq ops k=Tc:=λk hk=>(xy ((hbm k).1 hk).2.1).2.1
           have hlist':∀j,j∈jn gq ops->((listed.setIfInBounds i Ta).getD j Tc=Ta↔j∈i::done):=λj hj=>by
             by_cases hji:j=i
             · subst hji;grind
             · rw[hset j hji,S.ch j hj];simp[hji]
           have hjl:∀j∈i::done,(listed.setIfInBounds i Ta).getD j Tc=Ta:=λj hj=>by
             obtain rfl|hj:=zal.1 hj
             · exact hsetI
             · exact getD_set_true ((S.ch j (S.dn j hj)).2 hj)
           have hup:∀k,k∈mf ops ops.size (i::done)->(listed.setIfInBounds i Ta).getD k Tc=Ta:=λk hk=>Cz hcl hjl k hk
           have hundone:i∉done:=λhm=>by rw[(S.ch i hin).2 hm]at hun;cases hun
           have hslot1:∀k ok,ops[k]?=Td ok->k∈J9 gq ops done ops.size->listed.getD k Tc=Tc->∀t∈MT ok.op.operands.toList,ql (b.put o.dst v2) t=ql b t:=λk ok hok hk hu t ht=>wu λhdo=>by
             rcases hslot0 k ok hok i t hlt (by rw[yz ho,hdo]) ht with hw|hw
             · exact hundone ((uq hk (hbk k i hw) hw).1 hq)
             · rw[vF hi hw.2]at hu;cases hu
           have hslot2:∀k ok,ops[k]?=Td ok->k∈J9 gq ops done ops.size->listed.getD k Tc=Tc->∀t∈MT ok.op.operands.toList,ql (yw ops f' bl (b.put o.dst v2)) t=ql b t:=λk ok hok hk hu t ht=>by
             rw[jy λp hp hdp=>?_]
             · exact hslot1 k ok hok hk hu t ht
             · obtain hw|hw:=hslot0 k ok hok p t ((hbm p).1 hp).1 hdp ht
               · exact((hbm p).1 hp).2.2 ((uq hk (hbk k p hw) hw).2 (hbnh p hp))
               · have:=hbnh p hp
                 grind
           have hslot3:∀k ok,ops[k]?=Td ok->k∈J9 gq ops done ops.size->zbj ok (yielded ops (yw ops f' bl (b.put o.dst v2)).tmps)=zbj ok (yielded ops b.tmps):=λk ok hok hk=>Cx λt ht=>by
             have hwt:∀p,p<ops.size->jg ops p=Td t->qr .any ops k p=Ta:=λp hp hd=>Zg (hgd k ok hok).2 p t hp hd ht
             rw[jy λp hp hdp=>((hbm p).1 hp).2.2 ((uq hk (hbk k p (hwt p ((hbm p).1 hp).1 hdp)) (hwt p ((hbm p).1 hp).1 hdp)).2 (hbnh p hp))]
             exact wu λhdo=>hundone ((uq hk (hbk k i (hwt i hlt (by rw[yz ho,hdo]))) (hwt i hlt (by rw[yz ho,hdo]))).1 hq)
           have hdist:∀k ok t,ops[k]?=Td ok->k≠i->ok.dst=Td t->o.dst≠Td t:=λk ok t hok hki hdk hdo=>by
             have:=wq hnd k i t (zaq.1 hok).1 hlt (by rw[yz hok,hdk]) (by rw[yz ho,hdo])
             exact hki this
           have hne_i:∀k,hX gq ops k=Tc->k≠i:=λk hk e=>by rw[e,hq]at hk;cases hk
           have hQK:mr gq P n ops h0 K (fu-1) (i::done) (jt i todo) e2 h'/\(∀k ok,ops[k]?=Td ok->ji ok=Ta->hX gq ops k=Tc->(listed.setIfInBounds i Ta).getD k Tc=Tc->zbj ok (yielded ops (yw ops f' bl (b.put o.dst v2)).tmps)=Ta->YS ok (yw ops f' bl (b.put o.dst v2)).eval h0 h'):=by
             unfold tT at HK
             cases hl:rX gq ops (mf ops ops.size (i::done)) ops.size with
             |false=>
               rw[hl,zL]at HK
               exact⟨HK,λk ok hok hlo hkh hf _=>by rw[hup k (JX hl k ok (zaq.1 hok).1 hok hlo hkh)]at hf;cases hf⟩
             |true=>
               rw[hl,zK]at HK
               obtain⟨g1,g2⟩:=Mc HK
               refine⟨g1,λk ok hok hlo hkh hf hw=>.inr (.inr λt a p hop hp=>?_)⟩
               obtain⟨t',a',p',c',g',e1,ec,eg,e2',e3,e4⟩:=g2 k ok (zaq.1 hok).1 hok hlo hkh (λhm=>by rw[hup k hm]at hf;cases hf)
               rw[hop]at e1
               injection e1 with _ e1
               subst e1
               have hvc:=(Qj sb2 ec).1 hw
               have eb:(yw ops f' bl (b.put o.dst v2)).eval a=j4 e2 c' a:=Wu sb2 hvc e2' a ξ
               rw[eb,e3]at hp
               injection hp with hp
               injection hp with hp
               rw[<-hp];exact e4.out (Yn sb2 eg hvc)
           have htt:∀j,j∈jn gq ops->(j∈jt i todo↔(listed.setIfInBounds i Ta).getD j Tc=Tc):=λj hj=>by
             rw[rN]
             by_cases hji:j=i
             · subst hji;rw[hsetI];simp
             · rw[hset j hji,<-S.tt j hj];simp;omega
           refine ih _ _ f' _ (yw ops f' bl (b.put o.dst v2)) e2 h' d' (i::done) (jt i todo) hU' hdup' hmem' ⟨inv',λs hs=>?_,by rw[SM];exact S.sz,by rw[Zf];exact S.ad,sb2,λk ok t hok hk hdk=>?_,λk ok hok hk hu=>?_,htt,hlist',(λj hj=>by
             obtain rfl|hj:=zal.1 hj
             · exact hin
             · exact S.dn j hj),(λj hj=>S.th j (rN.1 hj).1),BU S.nd,⟨fu-1,χ (Mw hit),hQK.1⟩,hQK.2,hsame _⟩
           · -- slots
             have hs':∀k ok,ops[k]?=Td ok->hX gq ops k=Tc->listed.getD k Tc=Tc->ok.dst≠Td s:=λk ok hok hqk hlk=>hs k ok hok hqk (by rw[hset k (hne_i k hqk)];exact hlk)
             have hbl:∀p∈bl,jg ops p≠Td s:=λp hp hdp=>by
               have hps:=((hbm p).1 hp).1
               have hok:ops[p]?=Td ops[p]:=zcc hps
               have hph:=hbnh p hp
               refine hs p _ hok hph ?_ (by rw[<-yz hok];exact hdp)
               cases hlp:(listed.setIfInBounds i Ta).getD p Tc with
               |false=>rfl
               |true=>
                 exfalso
                 rw[hset p (hne_i p hph)]at hlp
                 have:∀m q,q<m->q<ops.size->hX gq ops q=Tc->listed.getD q Tc=Ta->q∈J9 gq ops done ops.size:=by
                   intro m
                   induction m with
                   |zero=>omega
                   |succ m ihm=>
                     intro q hqm hqs hqh hql
                     refine vE hqs hqh (x5.2 λp2 hp2 hw2=>⟨λhph2=>?_,λhph2=>?_⟩)
                     · exact(S.ch p2 (qS.2 ⟨ω,hph2⟩)).1 (Jg S.inv hql hw2)
                     · have hin2:=ihm p2 ω ω hph2 (Jg S.inv hql hw2)
                       obtain⟨_,g2,g3⟩:=xy hin2
                       exact vE hp2 g2 g3
                 exact((hbm p).1 hp).2.2 (this (p+1) p ω hps hph hlp)
             rw[jy hbl]
             by_cases hds:o.dst=Td s
             · rw[hds]
               have hsn:s<n:=by
                 rw[hds]at hd
                 unfold wj at hd
                 simp at hd;exact hd.2
               rw[xu (by rw[S.sz];exact hsn),xu (by rw[S.sb.size];exact hsn)]
             · rw[wu hds,wu hds];exact S.ag s hs'
           · by_cases hkb:k∈bl
             · exact(hbf k ok hok hkb).1 t hdk
             · have hk0:k∈J9 gq ops done ops.size:=Classical.byContradiction λhc=>hkb ((hbm k).2 ⟨(zaq.1 hok).1,hk,hc⟩)
               have hkh:=(xy hk0).2.1
               obtain⟨q1,q2⟩:=S.qv k ok t hok hk0 hdk
               refine⟨?_,q2⟩
               rw[jy λp hp hdp=>?_,wu (hdist k ok t hok (hne_i k hkh) hdk),q1,hf0 k hkb]
               have:=wq hnd p k t ((hbm p).1 hp).1 (zaq.1 hok).1 hdp (by rw[yz hok,hdk])
               subst this;exact hkb hp
           · by_cases hkb:k∈bl
             · obtain⟨_,q2,q3,q4⟩:=hbf k ok hok hkb
               exact⟨λhw h'' _=>q3 hw h'' (.inl (q2 rfl)),q4⟩
             · have hk0:k∈J9 gq ops done ops.size:=Classical.byContradiction λhc=>hkb ((hbm k).2 ⟨(zaq.1 hok).1,hk,hc⟩)
               have hu0:listed.getD k Tc=Tc:=by rw[<-hset k (hne_i k (xy hk0).2.1)];exact hu
               have hx:=S.qx k ok hok hk0 hu0
               rw[hslot3 k ok hok hk0,hf0 k hkb,CQ (b:=b) (hgd k ok hok).1 (hslot2 k ok hok hk0 hu0)]
               exact⟨λhw h'' hh=>hx.1 hw h'' (YS.congr (λx hx=>(vB (hslot2 k ok hok hk0 hu0) x hx).symm) hh),hx.2⟩
          by_cases hv:CT (ql b) c
          · rw[zA η]
            left
            unfold Oper.wp
            rw[hexec]
            refine N7 (b:=b) S.sb.defers ?_
            refine KI hW S.sb hv B d λv d' h' hK=>⟨by rw[Zf];exact S.sb.defers,λv2 hv2=>?_⟩
            have hbv:b.put o.dst v2=b.put o.dst v:=hv2.symm
            by_cases hds:∃t,o.dst=Td t
            · obtain⟨t,ht⟩:=hds
              have htn:t<n:=by
                have hd2:=hd
                rw[ht]at hd2
                unfold wj at hd2
                simp at hd2;exact hd2.2
              have:v2=v:=by
                have e1:ql (b.put o.dst v2) t=ql (b.put o.dst v) t:=by rw[hbv]
                rw[ht,xu (by rw[S.sb.size];exact htn),xu (by rw[S.sb.size];exact htn)]at e1
                exact e1
              grind
            · have hdn:o.dst=Te:=by
                cases hdx:o.dst with
                |none=>rfl
                |some t=>grind
              have e1:a.put o.dst v2=a.put o.dst v:=by rw[hdn];rfl
              grind
          · rw[zv η]
            obtain⟨v,hK⟩:=Lw hW S.sb hv
            grind
def J2{K:bR->zc->Prop}{Q:Exit->Act->Nd->Prop}(B:Nd)(q:nL gq ops=Ta) (H:wI P n h Ta ops (λA=>mr gq P n ops h K (jn gq ops).length [] (jn gq ops) A h) (Wa [] (J9 gq ops [] ops.size) ops.size) e) (C:Sat n e a)(hQ:∀A F Z h',Sat n A F->Same (w9 ops.toList) a F->K A h'->Q .normal F (mk B Z h')) (d:Nat):wpAny P .any ops Q ops.size (zcf ops.size Tc) a (mk B d h):=by
 have⟨D,r,N,L⟩:=JR q;have m:∀k,k∈Wa [] (J9 gq ops [] ops.size) ops.size↔k∈J9 gq ops [] ops.size:=λk=>by rw[Kp];exact⟨λh=>h.2.1,λh=>⟨(xy h).1,h,ξ⟩⟩
 have c:=F9 [] (J9 gq ops [] ops.size) ops.size;generalize Wa [] (J9 gq ops [] ops.size) ops.size=bl at H m c;have z:bl.Nodup:=c.imp λh=>ω
 have⟨f,V,HK,M,_,O⟩:=A6 (λ_=>undef) z H C;have y:=F7 D r N L (f:=f) (l:=bl) (b:=a) C.size (λk J=>(xy ((m k).1 J)).1) (λk J=>(xy ((m k).1 J)).2.1) c O;have w:∀s,(∀i o,ops[i]?=Td o->hX gq ops i=Tc->(zcf ops.size Tc).getD i Tc=Tc->o.dst≠Td s)->ql a s=ql (yw ops f bl a) s:=λs E=>(jy λp U I=>by have S:=(xy ((m p).1 U)).1;have x:ops[p]?=Td ops[p]:=zcc S;exact E p _ x (xy ((m p).1 U)).2.1 (getD_replicate_false _ _) (by rw[<-yz x];exact I)).symm;refine TL B q hQ ops.size (za7 ops.size) _ f a (yw ops f bl a) V h d [] (jn gq ops) List.length_range zep (λk=>by rw[zcs,getD_replicate_false];simp) ⟨⟨ξ,λj oj _ T=>(by rw[getD_replicate_false]at T;cases T),λt ht Y=>ω⟩,w,C.size,C.defers,M,λi o t G hi hd=>(y i o G ((m i).2 hi)).1 t hd,λi o G hi _=>(y i o G ((m i).2 hi)).2.2,(λj u=>by rw[getD_replicate_false];simp[u]),(λj u=>by rw[getD_replicate_false];simp),(λj u=>ε u),(λj u=>u),V4 ops,⟨_,zac _,HK⟩,λ_ _ _ _ _ _=>λ_=>.inr (.inl (BT.refl _ _)),Same.refl _ _⟩
def A4:List (Nat×Nat)->Nat->Option Nat
 |[],_=>Te
 |(j,m)::l,i=>bif mv i j then Td m else A4 l i
def aa4(P:EM)(n:Nat)(f:List (Nat×Nat))(id:Nat)(ops:Array n9)(b:Bool)(K:bR->zc->Prop)(e:bR)(h:zc):Prop:=
 bif b then(match A4 f id with
  |none=>bif Region.lexB .any ops then wQ P n ops h Ta (λc=>K (clean c) h) ops.toList e else False
  |some m=>bif nL (mv m 7000) ops then wI P n h Ta ops (λc=>mr (mv m 7000) P n ops h K (jn (mv m 7000) ops).length [] (jn (mv m 7000) ops) c h) (Wa [] (J9 (mv m 7000) ops [] ops.size) ops.size) e else False)
 else wR P n ops K ops.toList e h
theorem Yp(l m:List n9):w9 (l++m)=w9 l++w9 m:=by
 induction l with
 |nil=>rfl
 |cons o l b=>simp only[zbs,w9];split <;> simp[b]
def Mv(l:P.follows .mixedOrders=Ta){o:List (Nat×Nat)}{id:Nat}{b:Bool}{K:bR->zc->Prop} (H:aa4 P n o id ops b K e h) (B:Nd) (d:Nat) (f:Sat n e a) {Q:Exit->Act->Nd->Prop}(i:∀j c k h',Sat n j c->Same (w9 ops.toList) a c->K j h'->Q .normal c (mk B k h')):(ze7 id ops b).wp P Q a (mk B d h):=by
 unfold aa4 at H;cases b with
 |false=>exact wp_region_list (rV B _ _ _ _ _ H f i)
 |true=>
  simp only[zK]at H;split at H;cases hB:Region.lexB .any ops with
  |false=>rw[hB]at H;cases H
  |true=>rw[hB]at H;refine wp_region_quiet (C:=λw=>∃d,w=mk B d h) l hB ⟨d+1,rfl⟩ ?_;refine Eb B _ _ _ H f λj c p r q=>?_;rintro w' ⟨k,rfl⟩;exact i _ _ _ _ p.clean r q
  rename_i m _;cases hB:nL (mv m 7000) ops with
  |false=>rw[hB]at H;cases H
  |true=>rw[hB]at H;exact wp_region_any l (J2 B hB H f i (d+1))
end
section
variable {n:Nat} {e:bR} {a:Act} {ms:List Nat} {P:EM} {h:zc} {R:Value -> zc -> Prop} {f:n4}
@[reducible] def kL:List LE->Type->Type
 |[],X=>X
 |t::l,X=>t.den->kL l X
def qW{X:Type}:(l:List LE)->kL l X->(List Value->X->Prop)->Prop
 |[],f,k=>k [] f
 |t::l,f,k=>∀x:t.den,qW l (f x) λvs y=>k (t.enc x::vs) y
def i9{X:Type}:(l:List LE)->List Value->kL l X->Option X
 |[],[],f=>Td f
 |t::l,v::vs,f=>match t.dec v with
  |some x=>i9 l vs (f x)
  |none=>Te
 |_,_,_=>Te
def oW{X:Type}:(l:List LE)->(List Value->X)->kL l X
 |[],f=>f []
 |t::l,f=>λx=>oW l λvs=>f (t.enc x::vs)
def om{X Y:Type}:(l:List LE)->kL l X->kL l Y->kL l (X×Y)
 |[],f,g=>(f,g)
 |_::l,f,g=>λx=>om l (f x) (g x)
def uR{X:Type}:∀{l:List LE} {vs:ac1} {f:kL l X} {x:X} {k:List Value->X->Prop},i9 l vs f=Td x->qW l f k->k vs x
 |[],[],f,x,k,h,g=>by simp only[i9,zad]at h;subst h;exact g
 |[],_::_,f,x,k,h,g=>by simp[i9]at h
 |_::_,[],f,x,k,h,g=>by simp[i9]at h
 |t::l,v::vs,f,x,k,h,g=>by simp only[i9]at h;split at h;rename_i y b;have:=uR h (g y);grind [LE.enc_of_dec];cases h
def Ai{X:Type}:∀{l:List LE} {vs:ac1} {f:List Value->X} {x:X},i9 l vs (oW l f)=Td x->x=f vs
 |[],[],f,x,h=>by simp only[i9,oW,zad]at h;exact h.symm
 |[],_::_,f,x,h=>by simp[i9]at h
 |_::_,[],f,x,h=>by simp[i9]at h
 |t::l,v::vs,f,x,h=>by simp only[i9,oW]at h;split at h;rename_i y b;have:=Ai h;grind [LE.enc_of_dec];cases h
def Cc{X:Type}:∀{l:List LE} {f:List Value->X} {k:List Value->X->Prop},(∀vs,k vs (f vs))->qW l (oW l f) k
 |[],_,_,h=>h []
 |_::_,_,_,h=>λ_=>Cc λ_=>h _
abbrev iR:=List (Nat×VT)
def j7:iR->List LE
 |[]=>[]
 |(_,.one t)::J=>t::j7 J
 |(_,.agg l)::J=>l++j7 J
def jx(σ:Nat->Option Value):iR->Option (List Value)
 |[]=>Td []
 |(i,.one _)::J=>match σ i,jx σ J with
  |some v,some vs=>Td (v::vs)
  |_,_=>Te
 |(i,.agg l)::J=>match σ i,jx σ J with
  |some (.agg cs),some vs=>bif mv cs.toList.length l.length then Td (cs.toList++vs)else Te
  |_,_=>Te
def Yq:iR->List Value->bR
 |[],_=>[]
 |(i,.one _)::J,v::vs=>(i,[],v)::Yq J vs
 |(_,.one _)::_,[]=>[]
 |(i,.agg l)::J,vs=>(i,[],.agg (vs.take l.length).toArray)::Yq J (vs.drop l.length)
def mU(e:bR)(i:Nat):Option Value:=match look e i with
 |some ([],v)=>Td v
 |_=>Te
theorem Yr(h:Sat n e a){i:Nat}{v:Value}(b:mU e i=Td v):ql a i=v:=by unfold mU at b;split at b;rename_i u c;simp only[zad]at b;subst b;exact(h.all _ (pf c)).1 trivial;cases b
theorem yu{n:Nat}{e:bR}{a:Act}(h:Sat n e a):∀{J:iR} {vs:ac1},jx (mU e) J=Td vs->jx (λi=>Td (ql a i)) J=Td vs
 |[],vs,hv=>hv
 |(i,.one t)::J,vs,hv=>by simp only[jx]at hv ⊢;split at hv;rename_i v us h1 h2;simp only[yu h h2,Yr h h1];exact hv;cases hv
 |(i,.agg l)::J,vs,hv=>by simp only[jx]at hv ⊢;split at hv;rename_i cs us h1 h2;simp only[yu h h2,Yr h h1];exact hv;cases hv
def AQ{σ:Nat->Value}:∀{J:iR} {vs:ac1},jx (λi=>Td (σ i)) J=Td vs->∀x∈Yq J vs,fact σ x
 |[],vs,_,x,b=>ε b
 |(i,.one t)::J,vs,hv,x,b=>by simp only[jx]at hv;split at hv;rename_i v us h1 h2;simp only[zad]at h1 hv;subst hv;simp only[Yq,zal]at b;obtain rfl|b:=b;exact⟨λ_=>h1,λe=>absurd trivial e⟩;exact AQ h2 x b;cases hv
 |(i,.agg l)::J,vs,hv,x,b=>by
  simp only[jx]at hv;split at hv;rename_i cs us h1 h2;simp only[zad]at h1;cases hb:mv (DB cs.toList) (DB l) with
  |false=>simp_all
  |true=>rw[hb]at hv;simp only[zK,zad]at hv;subst hv;have c:cs.toList.length=DB l:=zao hb;simp only[Yq,zal]at b;obtain rfl|b:=b;refine⟨λ_=>?_,λe=>absurd trivial e⟩;simp_all;rw[<-c,List.drop_left]at b;exact AQ h2 x b
  cases hv
def Wy(ms:List Nat):bR->bR
 |[]=>[]
 |(i,[],v)::e=>bif Fm ms i then Wy ms e else(i,[],v)::Wy ms e
 |(_,_::_,_)::e=>Wy ms e
def UB{x:Nat×qj×Value}(h:x∈Wy ms e):x∈e/\x.2.1=[]/\x.1∉ms:=by
 induction e with
 |nil=>cases h
 |cons y e b=>
  have⟨i,c,v⟩:=y;cases c with
  |nil=>
   simp only[Wy]at h;cases hm:Fm ms i with
   |true=>simp_all
   |false=>rw[hm]at h;simp only[zL]at h;obtain rfl|h:=zal.1 h;exact⟨zat,rfl,Yh hm⟩;simp_all
  |cons g c=>simp only[Wy]at h;simp_all
def qV{a a1:Act}(k:Sat n e a)(f:a1.defers=[])(hz:a1.tmps.size=n)(b:Same ms a a1){J:iR}{vs:ac1}(m:jx (λi=>Td (ql a1 i)) J=Td vs):Sat n (Yq J vs++Wy ms e) a1:=by refine⟨f,hz,λx c=>?_⟩;obtain c|c:=zav.1 c;exact AQ m x c;have⟨h1,h2,j⟩:=UB c;have h:=k.all x h1;refine⟨λ_=>?_,λl=>absurd (by rw[h2];trivial) l⟩;rw[b _ j];exact h.1 (by rw[h2];trivial)
def jf:Code->Option Nat
 |.region id _ _=>Td id
 |.seq a b=>match jf a with
  |some i=>Td i
  |none=>jf b
 |.cond _ a b=>match jf a with
  |some i=>Td i
  |none=>jf b
 |.block _ b=>jf b
 |.loop b=>jf b
 |.scope b=>jf b
 |_=>Te
def xz:Code->List Nat
 |.region _ ops _=>w9 ops.toList
 |.seq a b=>xz a++xz b
 |.cond _ a b=>xz a++xz b
 |.block _ b=>xz b
 |.loop b=>xz b
 |.scope b=>xz b
 |_=>[]
structure Plan where
 tails:List (Nat×Nat)
 loops:List (Nat×iR)
 joins:List (Nat×iR)
def EE:List (Nat×iR)->Nat->Option iR
 |[],_=>Te
 |(j,m)::l,i=>bif mv i j then Td m else EE l i
def tY(l:List (Nat×iR)):Option Nat->Option iR
 |some i=>EE l i
 |none=>Te
abbrev Wb:=Exit->bR->zc->Prop
def mQ(K:bR->zc->Prop)(Q:Wb):Wb
 |.normal,e,h=>K e h
 |x,e,h=>Q x e h
def ng(id:Nat)(Q:Wb):Wb
 |.exit i,e,h=>bif mv i id then Q .normal e h else Q (.exit i) e h
 |x,e,h=>Q x e h
def Us(Q:Wb):Wb
 |.goto _,_,_=>False
 |x,e,h=>Q x e h
def rH{X:Type}(J:iR)(F:kL (j7 J) X)(e:bR)(k:X->Prop):Prop:=
 match jx (mU e) J with
 |some vs=>match i9 (j7 J) vs F with
  |some q=>k q
  |none=>False
 |none=>False
def Ks(J:iR)(rest:bR->zc->Prop)(F:(bR->zc->Prop)->Prop)(b:bR):Prop:=
 ∀K:kL (j7 J) (zc->Prop),qW (j7 J) K (λvs q=>∀h,rest (Yq J vs++b) h->q h)->F λe h=>rH J K e λq=>q h
def yK(J:iR)(body:(bR->zc->Prop)->bR->zc->Prop)(b e:bR)(h:zc):Prop:=
 ∃(I:kL (j7 J) (zc->Prop)) (μ:kL (j7 J) (zc->Nat)),(rH J (om (j7 J) I μ) e λp=>p.1 h) /\
  qW (j7 J) (om (j7 J) I μ) λvs p=>∀h,p.1 h->body (λc h'=>rH J (om (j7 J) I μ) c λq=>q.1 h'/\q.2 h'<p.2 h) (Yq J vs++b) h
def W(P:EM)(n:Nat)(pl:Plan):Code->Wb->bR->zc->Prop
 |.skip,Q,e,h=>Q .normal e h
 |.ret,Q,e,h=>Q .ret e h
 |.exit id,Q,e,h=>Q (.exit id) e h
 |.label _,Q,e,h=>Q .normal e h
 |.goto l,Q,e,h=>Q (.goto l) e h
 |.region id ops draw,Q,e,h=>aa4 P n pl.tails id ops draw (λe h=>Q .normal e h) e h
 |.seq x y,Q,e,h=>match tY pl.joins (jf y)with
  |none=>W P n pl x (mQ (λe h=>W P n pl y Q e h) Q) e h
  |some J=>Ks J (λe h=>W P n pl y Q e h) (λK=>W P n pl x (mQ K Q) e h) (Wy (xz x) e)
 |.cond c x y,Q,e,h=>match jG e [] c with
  |some (.bool b)=>(b=Ta->W P n pl x Q e h)/\(b=Tc->W P n pl y Q e h)
  |_=>False
 |.block id x,Q,e,h=>W P n pl x (ng id Q) e h
 |.loop x,Q,e,h=>match tY pl.loops (jf x)with
  |some J=>yK J (λf e h=>W P n pl x (mQ f Q) e h) (Wy (xz x) e) e h
  |none=>False
 |.scope x,Q,e,h=>W P n pl x (Us Q) e h
 |_,_,_,_=>False
def LI(n:Nat)(B:Nd)(ms:List Nat)(a0:Act)(Q:Wb):Exit->Act->Nd->Prop:=
 λx a w=>∃e d h,w=mk B d h/\Sat n e a/\Same ms a0 a/\Q x e h
def nC{X:Type}{J:iR}{F:kL (j7 J) X}{k:X->Prop}(h:rH J F e k):∃vs q,jx (mU e) J=Td vs/\i9 (j7 J) vs F=Td q/\k q:=by unfold rH at h;grind
def qg1(hm:P.follows .mixedOrders=Ta){pl:Plan}:∀(c:Code) (Q:Wb) (e:bR) (h:zc),W P n pl c Q e h ->∀(B:Nd) (d:Nat) (a:Act),Sat n e a->c.wp P (LI n B (xz c) a Q) a (mk B d h):=by
 intro c;induction c with
 |skip=>exact λQ e h H B d a f=>wp_skip ⟨e,d,h,rfl,f,Same.refl _ _,H⟩
 |ret=>exact λQ e h H B d a f=>wp_ret ⟨e,d,h,rfl,f,Same.refl _ _,H⟩
 |exit id=>exact λQ e h H B d a f=>wp_exit ⟨e,d,h,rfl,f,Same.refl _ _,H⟩
 |label l=>exact λQ e h H B d a f=>wp_label ⟨e,d,h,rfl,f,Same.refl _ _,H⟩
 |goto l=>exact λQ e h H B d a f=>wp_goto ⟨e,d,h,rfl,f,Same.refl _ _,H⟩
 |region id ops ah=>exact λQ e h H B d a f=>Mv hm H B d f λe' a' d' h' j o q3=>⟨e',d',h',rfl,j,o,q3⟩
 |seq x y w z=>
  intro Q e h H B d a f;simp only[W]at H;have C:∀i∈xz x,i∈xz (x.seq y):=λi hi=>zap _ hi;have M:∀i∈xz y,i∈xz (x.seq y):=λi hi=>zaz _ hi;split at H;refine wp_seq (wp_mono (w _ _ _ H B d a f) ?_);rintro ex a1 w1 ⟨t,d1,h1,rfl,s1,m,j⟩;cases ex with
  |normal=>refine wp_mono (z _ _ _ j B d1 a1 s1) ?_;rintro ex a2 w2 ⟨r,d2,h2,rfl,s2,u,o⟩;exact⟨r,d2,h2,rfl,s2,(m.mono C).trans (u.mono M),o⟩
  |_=>exact⟨t,d1,h1,rfl,s1,m.mono C,j⟩
  rename_i J hJ;have H':=H (oW (j7 J) λvs=>λh=>W P n pl y Q (Yq J vs++Wy (xz x) e) h) (Cc λvs h D=>D);refine wp_seq (wp_mono (w _ _ _ H' B d a f) ?_);rintro ex a1 w1 ⟨t,d1,h1,rfl,s1,m,j⟩;cases ex with
  |normal=>have⟨vs,q,L,D,hk⟩:=nC j;have U:=Ai D;subst U;have N:Sat n (Yq J vs++Wy (xz x) e) a1:=qV f s1.defers s1.size m (yu s1 L);refine wp_mono (z _ _ _ hk B d1 a1 N) ?_;rintro ex a2 w2 ⟨r,d2,h2,rfl,s2,u,o⟩;exact⟨r,d2,h2,rfl,s2,(m.mono C).trans (u.mono M),o⟩
  |_=>exact⟨t,d1,h1,rfl,s1,m.mono C,j⟩
 |cond c x y w z=>intro Q e h H B d a f;simp only[W]at H;have C:∀i∈xz x,i∈xz (ze4 c x y):=λi hi=>zap _ hi;have M:∀i∈xz y,i∈xz (ze4 c x y):=λi hi=>zaz _ hi;split at H;rename_i b hb;refine wp_cond_split (yc f (c:=[]) trivial hb) (λO=>?_) (λZ=>?_);refine wp_mono (w _ _ _ (H.1 O) B d a f) ?_;rintro ex a2 w2 ⟨r,d2,h2,rfl,s2,u,o⟩;exact⟨r,d2,h2,rfl,s2,u.mono C,o⟩;refine wp_mono (z _ _ _ (H.2 Z) B d a f) ?_;rintro ex a2 w2 ⟨r,d2,h2,rfl,s2,u,o⟩;exact⟨r,d2,h2,rfl,s2,u.mono M,o⟩;cases H
 |block id x E=>
  intro Q e h H B d a f;refine wp_block (wp_mono (E _ _ _ H B d a f) ?_);rintro ex a1 w1 ⟨t,d1,h1,rfl,s1,m,j⟩;cases ex with
  |exit i=>simp only[ng]at j;simp only[Exit.inBlock];by_cases hb:mv i id=Ta;rw[zA (zao hb)];simp only[hb,zK]at j;exact⟨t,d1,h1,rfl,s1,m,j⟩;rw[zv (λhe=>hb (by rw[he];simp))];simp only[hb,zL]at j;exact⟨t,d1,h1,rfl,s1,m,j⟩
  |_=>exact⟨t,d1,h1,rfl,s1,m,j⟩
 |loop x E=>
  intro Q e h H B d a f;simp only[W]at H;split at H;rename_i J hJ;have⟨I,μ,h0,A⟩:=H;have⟨Y,p0,ae,af,ac⟩:=nC h0;let F:=om (j7 J) I μ;let at_:Act->Option ((zc->Prop)×(zc->Nat)):=λa1=>(jx (λi=>Td (ql a1 i)) J).bind λvs=>i9 (j7 J) vs F;refine wp_loop (λa1 w1=>∃d1 h1 vs p,w1=mk B d1 h1/\a1.defers=[]/\a1.tmps.size=n/\Same (xz x) a a1/\jx (λi=>Td (ql a1 i)) J=Td vs/\i9 (j7 J) vs F=Td p/\p.1 h1) (λa1 w1=>match at_ a1 with|some p=>p.2 w1.heap|none=>0) ⟨d,h,Y,p0,rfl,f.defers,f.size,Same.refl _ _,yu f ae,af,ac⟩ ?_;rintro a1 w1 ⟨d1,h1,vs,p,rfl,S,ab,k,L,hp,hI⟩;have s1:Sat n (Yq J vs++Wy (xz x) e) a1:=qV f S ab k L;have hb:=uR hp A h1 hI;refine wp_mono (E _ _ _ hb B d1 a1 s1) ?_;rintro ex a2 w2 ⟨r,d2,h2,rfl,s2,u,o⟩;cases ex with
  |normal=>
   have⟨V,q,G,D,T,aa⟩:=nC o;refine⟨⟨d2,h2,V,q,rfl,s2.defers,s2.size,k.trans u,yu s2 G,D,T⟩,?_⟩;have t:at_ a1=Td p:=by simp only[at_,L,zc3];exact hp
   have r:at_ a2=Td q:=by simp only[at_,yu s2 G,zc3];exact D
   rw[t,r];exact aa
  |_=>exact⟨r,d2,h2,rfl,s2,k.trans u,o⟩
  cases H
 |scope x E=>
  intro Q e h H B d a f;refine wp_scope_straight (wp_mono (E _ _ _ H B d a f) ?_);rintro ex a1 w1 ⟨t,d1,h1,rfl,s1,m,j⟩;cases ex with
  |goto l=>exact j
  |_=>exact⟨t,d1,h1,rfl,s1,m,j⟩
 |_=>exact λQ e h H=>H.elim
def lQ:Nat->List Value->bR
 |_,[]=>[]
 |i,v::vs=>(i,[],v)::lQ (i+1) vs
def lS(P:EM)(h:zc)(e:bR):List ResultVar->(List Value->Prop)->Prop
 |[],K=>K []
 |.tmp t::l,K=>match mU e t with
  |some v=>lS P h e l λvs=>K (v::vs)
  |none=>False
 |.cell a t::l,K=>match mU e a with
  |some p=>oc P h t p Te λv=>lS P h e l λvs=>K (v::vs)
  |none=>False
def lZ:List Value->Value
 |[v]=>v
 |vs=>.tuple vs.toArray
def u6(P:EM)(rs:List ResultVar)(R:Value->zc->Prop):Wb
 |.normal,e,h=>lS P h e rs λvs=>R (lZ vs) h
 |.ret,e,h=>lS P h e rs λvs=>R (lZ vs) h
 |_,_,_=>False
def oV(tmps:Array Value):ResultVar->Sem Value
 |.tmp t=>pure (tmps.getD t undef)
 |.cell a t=>do loadVar t (<-asAddr (tmps.getD a undef))
def CC{P:EM}{n:Nat}{h:zc}{e:bR}{a:Act}(c:Sat n e a):∀{l:List ResultVar} {K:List Value->Prop},lS P h e l K->∃vs,K vs/\DB vs=DB l/\Bk P (l.mapM (oV a.tmps)) h vs
 |[],K,H=>⟨[],H,rfl,λ_ _=>ξ⟩
 |.tmp t::l,K,H=>by simp only[lS]at H;split at H;rename_i v m;have⟨vs,h1,h2,f⟩:=CC c H;refine⟨v::vs,h1,ϑ h2,?_⟩;rw[zez];refine Bk.bind (x:=v) ?_ (f.bind (Bk.pure _));rw[<-Yr c m];exact Bk.pure _;cases H
 |.cell x t::l,K,H=>by simp only[lS]at H;split at H;rename_i p i;have⟨v,o,k⟩:=IN H;have⟨vs,h1,h2,f⟩:=CC c o;refine⟨v::vs,h1,ϑ h2,?_⟩;rw[zez];refine Bk.bind (x:=v) ?_ (f.bind (Bk.pure _));have j:a.tmps.getD x undef=p:=Yr c i;simp only[oV,j];have b:=k trivial;unfold zeg at b;unfold oc at H;split at H;exact b;exact b;cases H;cases H
def Ys{fn:Func}(i:Sat n e a){rs:List ResultVar}(c:fn.results.toList=rs)(H:lS P h e rs λvs=>R (lZ vs) h):∃v,R v h/\Bk P (results fn a.tmps) h v:=by
 have⟨vs,h1,h2,f⟩:=CC i H;refine⟨_,h1,?_⟩;intro B d;have b:results fn a.tmps=(fn.results.mapM (oV a.tmps) >>= λvs=>zd3 (if h:vs.size=1 then vs[0]else .tuple vs)):=by unfold results;congr 1
 rw[b,Array.mapM_eq_mapM_toList,c,DM,Sem.run_map,f B d];simp only[D0,DQ]
 match vs,h2 with
 |[],_=>rfl
 |[v],_=>rfl
 |v::u::vs,_=>simp[lZ]
def vu(args:ac2)(k:Nat):∀(vs:ac1) (i:Nat),(∀j v,vs[j]?=Td v->(args++zcf k undef).getD (i+j) undef=v) ->∀x∈lQ i vs,fact (λi=>(args++zcf k undef).getD i undef) x
 |[],_,_,x,b=>ε b
 |v::vs,i,h,x,b=>by simp only[lQ,zal]at b;obtain rfl|b:=b;exact⟨λ_=>h 0 v rfl,λe=>absurd trivial e⟩;exact vu args k vs (i+1) (λj u c=>by have:=h (j+1) u (ψ c);grind) x b
theorem Nh(q:P.follows .mixedOrders=Ta){fn:Func}{c:Code}(pl:Plan)(vs:ac1){rs:List ResultVar}(m:P.funcs[f]?=Td fn)(hb:fn.body=Td c)(l:fn.results.toList=rs)(p:fn.ntmps=n)(hz:Nat.ble (DB vs) n=Ta) (H:W P n pl c (u6 P rs R) (lQ 0 vs) h):XC P f vs.toArray h R:=by
 intro B d;subst p;refine calls_of_wp m hb ?_;have t:vs.length<=fn.ntmps:=zci hz;have o:Sat fn.ntmps (lQ 0 vs) { tmps:=vs.toArray++zcf (fn.ntmps-vs.toArray.size) undef,defers:=[] }:=by
  refine⟨rfl,φ,?_⟩;refine vu vs.toArray _ vs 0 λj v r=>?_;have i:j<DB vs:=by obtain h|h:=zbv j (DB vs);exact h;simp_all
  simp only[zax,zb6];rw[Array.getElem?_append_left (ψ i)];simp[r]
 refine wp_mono (qg1 q c _ _ _ H B d _ o) ?_;rintro ex a w ⟨x,d1,h1,rfl,s1,u,e⟩;cases ex with
 |normal=>have⟨v,k,b⟩:=Ys s1 l e;exact⟨s1.defers,v,b B d1,v,d1,h1,rfl,rfl,k⟩
 |ret=>have⟨v,k,b⟩:=Ys s1 l e;exact⟨s1.defers,v,b B d1,v,d1,h1,rfl,rfl,k⟩
 |_=>cases e
def codeOf(fn:Func):Code:=match fn.body with
 |some c=>c
 |none=>.skip
def Yt(fn:Func):Bool:=match fn.body with
 |some _=>Ta
 |none=>Tc
def VE(c:P.follows .mixedOrders=Ta)(pl:Plan)(vs:ac1){fn:Func}{rs:List ResultVar}(e:P.funcs[f]?=Td fn)(hb:Yt fn=Ta)(i:fn.results.toList=rs)(j:fn.ntmps=n)(hz:Nat.ble (DB vs) n=Ta) (H:W P n pl (codeOf fn) (u6 P rs R) (lQ 0 vs) h):XC P f vs.toArray h R:=by
 have b:fn.body=Td (codeOf fn):=by unfold Yt at hb;unfold codeOf;split at hb;omega;cases hb
 grind [Nh]
end
section
variable {n:Nat} {h h':zc} {a:n8} {e t ty:Nw} {xs news:List Value} {P:EM} {z:Value}
theorem ye(h:zc)(o:Obj):(h.push o)[h.size]?=Td o:=ξ
def Pu(k:BT n h h')(b:a.block<n):zd h' a=zd h a:=by unfold zd;rw[k.get _ b]
def HL(e:h'[a.block]?=h[a.block]?):zd h' a=zd h a:=by unfold zd;rw[e]
def Arr(n:Nat)(h:zc)(a:Option n8)(cs:List Value):Prop:=
 cs=[]\/∃b o,a=Td ⟨b,o,Te⟩/\b<n/\∀i v,cs[i]?=Td v->zd h ⟨b,o+i,Te⟩=Td v
theorem Arr.ab0{a:Option n8}{cs:ac1}(H:Arr n h a cs)(k:BT n h h'):Arr n h' a cs:=by obtain e|⟨b,o,e,hb,c⟩:=H;exact .inl e;exact .inr ⟨b,o,e,hb,λi v hi=>(Pu k (a:=⟨b,o+i,Te⟩) hb).trans (c i v hi)⟩
theorem zh(b o i:Nat):(⟨b,o,Te⟩:n8).add i=⟨b,o+i,Te⟩:=by unfold zab;simp
theorem zP(a:Option n8)(sz m:Nat):iy a sz 0 m=a:=by
 unfold iy;split;rfl;cases a with
 |none=>rfl
 |some p=>simp[zab]
theorem DE{n:Int}(h1:-9223372036854775808<=n)(h2:n<=9223372036854775807):w6 n=n:=by
 ((try unfold w6);unfold zaa);have e:(2:Int) ^ zbw .i64=18446744073709551616:=ζ
 have b:(2:Int) ^ (zbw .i64-1)=9223372036854775808:=ζ
 simp only[e,b];have c:ze0 .i64=Ta:=rfl;grind
theorem zq{k:Nat}(h:k<9223372036854775807):w6 ((k:Int)+1)=((k+1:Nat):Int):=by grind [DE]
def Fd(h:zc)(base:Nat)(e:Nw)(sz:Nat)(s:Sl)(xs:List Value):Prop:=
 (mk default 0 h).ownsRow base e sz (.slice s.a s.len s.cap) s.len xs
theorem Fd.nil(h:zc)(base:Nat)(e:Nw)(sz:Nat):Fd h base e sz ⟨Te,0,0⟩ []:=World.ownsRow_nil _ _ _ _
theorem Fd.length{base:Nat}{sz:Nat}{s:Sl}(H:Fd h base e sz s xs):xs.length=s.len*sz:=H.1
theorem Fd.arr{base:Nat}{sz:Nat}{s:Sl}(H:Fd h base e sz s xs):Arr h.size h s.a xs:=by obtain⟨f,h0⟩|⟨g,cap,b,f,hb,k,m,p,n,o⟩:=H.2;have j:=H.1;rw[h0]at j;exact .inl (ψ j);simp only[zbc]at f;have c:g<h.size:=(zaq.1 k).1;refine .inr ⟨g,0,f.1,c,λi v hi=>?_⟩;have l:h[g]?=Td (.cells b e (0,0)):=k;unfold zd;grind
theorem Fd.base_le{base:Nat}{sz:Nat}{s:Sl}(H:Fd h base e sz s xs):∀p,s.a=Td p->base<=p.block/\p.block<h.size:=by intro p b;exact World.ownsRow.lt H p.block (by simp[Value.ownBlock,b])
theorem Fd.ab0{base:Nat}{sz:Nat}{s:Sl}(H:Fd h base e sz s xs)(k:∀p,s.a=Td p->h'[p.block]?=h[p.block]?):Fd h' base e sz s xs:=by refine⟨H.1,?_⟩;obtain i|⟨g,cap,b,c,hb,f,rest⟩:=H.2;grind;simp only[zbc]at c;refine .inr ⟨g,cap,b,ϑ c,hb,?_,rest⟩;have:=k _ c.1;exact this.trans f
theorem Fd.keepN{base:Nat}{sz:Nat}{s:Sl}(H:Fd h base e sz s xs)(k:BT h.size h h'):Fd h' base e sz s xs:= H.ab0 λp b=>k.get _ (H.base_le p b).2
structure JT (P:EM) (t e:Nw) (z:Value) (sz bytes:Nat):Prop where
 slice:P.underlying t=Td (.slice e)
 info:∃i,P.info? e=Td i/\i.zero=Td z/\i.size=sz/\i.bytes=bytes
 zero:z.cells.size=sz
 pos:0<sz
def Hz{w:Nd}{i:TypeInfo}{sz bytes base:Nat}(y:P.underlying t=Td (.slice e))(hi:P.info? e=Td i)(hz:i.zero=Td z)(B:i.size=sz)(C:i.bytes=bytes) {v:Value} (f:w.ownsRow base e sz v n xs) {m c:Nat} (x:news.length=m*sz) (b:∀j u,news[j]?=Td u->w.cell? (a.add j)=Td u) (h1:∀u∈news,u.oneCell'=Ta) (M:n+m<=4611686018427387904) (k:(n+m)*bytes<=140737488355328) {G:Value} {w':Nd} (V:(zaj #[t,t] ty #[v,.slice (Td a) m c]).run P w=.ok G w'):∀A l H,G=.slice (Td A) l H->(∃p N U,v=.slice (Td p) N U/\A.block=p.block)\/A.block=w.heap.size:=by
 subst B C;intro A l H L;obtain⟨rfl,rfl⟩|⟨g,cap,q,rfl,O,J,Q,I,F,D⟩:=f.2;by_cases T:m=0;subst T;have S:news=[]:=za4 (ψ x);subst S;have E:(zaj #[t,t] ty #[.slice Te 0 0,.slice (Td a) 0 c]).run P w=.ok (.slice Te 0 0) w:=by simp[zaj,run_underlying y,sizeOf,typeInfo,hi,Builtin.lenOf,zdb,loadCells,loadCellsFrom]
 simp_all;have E:=run_append_nil (P:=P) (ty:=ty) w t e i z y hi hz a m c news x b ω ω η;grind;by_cases h:n+m<=cap;have r:n*i.size+DB news<=q.size:=by rw[x,F,<-zc7];exact za6 _ h
 have E:=run_append_room (P:=P) (ty:=ty) w t e i y hi g n cap q J a m c news x b h1 h r;simp_all;have o:∀j u,xs[j]?=Td u->w.cell? ((⟨g,0,Te⟩:n8).add j)=Td u:=f.cells (g:=g) rfl;have E:=run_append_grow (P:=P) (ty:=ty) w t e i z y hi hz ⟨g,0,Te⟩ n cap xs f.1 o a m c news x b ω ω (growslice_fits ω k);grind
def Zh{sz bytes:Nat}(T:JT P t e z sz bytes){base:Nat}{s:Sl}(H:Fd h base e sz s xs) {src:Sl} (hs:Arr n h src.a news) (hl:news.length=src.len*sz) (h1:∀u∈news,u.oneCell'=Ta) (m:(s.len+src.len)*bytes<=140737488355328) (L:s.len+src.len<=4611686018427387904) (r:base<=h.size) {K:vvv} (hK:∀(f:Sl) (h':zc),f.len=s.len+src.len->Fd h' base e sz f (xs++news)->(∀i,i<h.size->(∀p,s.a=Td p->i≠p.block)->h'[i]?=h[i]?)->h.size<=h'.size->(∀k,f.a=Td k->(∃p,s.a=Td p/\k.block=p.block)\/k.block=h.size)->K (.slice f.a f.len f.cap) h'):qq P (zaj #[t,t] ty #[.slice s.a s.len s.cap,.slice src.a src.len src.cap]) h K:=by
 intro B d;have⟨i,hi,hz,C,D⟩:=T.info;have key:∃y w',(zaj #[t,t] ty #[.slice s.a s.len s.cap,.slice src.a src.len src.cap]).run P (mk B d h)=.ok y w'/\w'.ownsRow base e sz y (s.len+src.len) (xs++news)/\(mk B d h).grownBy w' (Value.ownBlock (.slice s.a s.len s.cap)) /\
  ∀k l J,y=.slice (Td k) l J->(∃p,s.a=Td p/\k.block=p.block)\/k.block=h.size:=by
  have c:(mk B d h).ownsRow base e sz (.slice s.a s.len s.cap) s.len xs:=H;obtain S|⟨b,o,S,hb,hc⟩:=hs;subst S;have h0:src.len=0:=by obtain h0|h0:=zei src.len;exact h0;have:=Nat.mul_pos h0 T.pos;grind
  rw[h0];have Q:∃q,q=src.a:=⟨_,rfl⟩;have⟨q,V⟩:=Q;rw[<-V];cases q with
  |none=>
   refine⟨_,mk B d h,?_,ψ c,⟨rfl,rfl,rfl,zac _,λ_ _ _=>rfl⟩,λk l J A=>.inl ⟨k,θ,rfl⟩⟩;have hT:=T.slice;have aa:s.len<=s.cap:=by obtain⟨I,N⟩|⟨g,cap,Y,I,_,_,ac,_⟩:=c.2;omega;simp_all
   generalize s.a=sa at *;cases sa <;> simp[zaj,run_underlying hT,sizeOf,typeInfo,hi,Builtin.lenOf,zdb,aa,storeCells]
  |some p=>have⟨y,w',E,G,x,_⟩:=run_append_own (P:=P) (w:=mk B d h) base t ty e i z sz bytes T.slice hi hz C D T.zero T.pos (.slice s.a s.len s.cap) s.len xs c p 0 src.cap [] ξ ξ ξ (by unfold maxLen;omega) θ r;refine⟨y,w',E,G,x,λk l J A=>?_⟩;rcases Hz T.slice hi hz C D c (news:=[]) ξ ξ ξ ω θ E k l J A with⟨q,l0,c0,V,hb⟩|hb;simp_all;exact .inr hb
  rw[S];have⟨y,w',E,G,x,_⟩:=run_append_own (P:=P) (w:=mk B d h) base t ty e i z sz bytes T.slice hi hz C D T.zero T.pos (.slice s.a s.len s.cap) s.len xs c ⟨b,o,Te⟩ src.len src.cap news hl (λj u Z=>by rw[zh];exact hc j u Z) h1 (by unfold maxLen;omega) m r;refine⟨y,w',E,G,x,λk l J A=>?_⟩;rcases Hz T.slice hi hz C D c hl (λj u Z=>by rw[zh];exact hc j u Z) h1 L m E k l J A with⟨q,l0,c0,V,M⟩|M;simp_all;exact .inr M
 have⟨y,w',E,G,x,r4⟩:=key;have hw:w'=mk B w'.drawn w'.heap:=by have I:=x.os;have N:=x.tape;have e3:=x.output;cases w';simp only[mk]at *;subst I;subst N;subst e3;rfl
 rw[hw]at E;have hv:∃f:Sl,y=.slice f.a f.len f.cap/\f.len=s.len+src.len:=by obtain⟨I,N⟩|⟨g,cap,Y,I,_⟩:=G.2;exact⟨⟨Te,0,0⟩,I,N.symm⟩;exact⟨⟨Td ⟨g,0,Te⟩,s.len+src.len,cap⟩,I,rfl⟩
 obtain⟨f,rfl,F⟩:=hv;refine⟨_,_,_,E,hK f w'.heap F ?_ ?_ x.size λk U=>r4 k f.len f.cap (ϕ U)⟩;rw[<-F]at G;exact G;intro j hj ab;refine x.block j hj λO=>?_;cases Q:s.a with
 |none=>rw[Q]at O;cases O
 |some p=>rw[Q]at O;simp only[Value.ownBlock,zad]at O;grind
end
section
variable {h:zc} {m:Nat} {P:EM} {kt t et:Nw} {z:Value}
def il(l:List (Bt×Value))(k:Bt):Option Value:=match l with
 |[]=>Te
 |p::l=>if p.1=k then Td p.2 else il l k
def lT(l:List (Bt×Value))(k:Bt)(v:Value):List (Bt×Value):=match l with
 |[]=>[(k,v)]
 |p::l=>if p.1=k then(k,v)::l else p::lT l k v
theorem TK(l:List (Bt×Value))(k b:Bt)(v:Value):il (lT l k v) b=ite (k=b) (Td v) (il l b):=by
 induction l with
 |nil=>simp[lT,il]
 |cons p l c=>simp only[lT];split;rename_i h;simp only[il];simp_all;rename_i h;simp only[il,c];grind
def RW(h:zc)(m:Nat)(l:List (Bt×Value)):Prop:=∃c b,h[m]?=Td (.map c b)/\c.toList.map (λe=>(e.key,e.val))=l.map λp=>(za0 p.1,p.2)
theorem RW.ab0{h h':zc}{l:List (Bt×Value)}(H:RW h m l)(k:h'[m]?=h[m]?):RW h' m l:=by have⟨b,c,h1,h2⟩:=H;exact⟨b,c,k.trans h1,h2⟩
theorem RW.lt{l:List (Bt×Value)}(H:RW h m l):m<h.size:=by have⟨b,c,h1,h2⟩:=H;grind
theorem RW.new(h:zc):RW (h.push (.map #[] 0)) h.size []:=⟨#[],0,ye _ _,rfl⟩
structure MapT (P:EM) (t kt et:Nw) (z:Value):Prop where
 map:P.underlying t=Td (.map kt et)
 key:P.underlying kt=Td .string
 zero:∃i,P.info? et=Td i/\i.zero=Td z
theorem vS(a b:Bt):(a==b)=decide (a=b):=by show ByteArray.beq a b=_;cases a;cases b;rw[Bool.eq_iff_iff];simp[ByteArray.beq]
instance lawfulBA:LawfulBEq Bt where
 eq_of_beq:=λ {a b} h=>by rw[vS]at h;simpa using h
 rfl:=λ {a}=>by rw[vS];simp
def Wz(k:Bt):∀(f:List MapEntry) (l:List (Bt×Value)) (i:Nat),f.map (λe=>(e.key,e.val))=l.map (λp=>(za0 p.1,p.2)) ->(il l k=Te/\zc8 .string (.string k) f i=Td Te)\/(∃j v e,il l k=Td v/\f[j]?=Td e/\e.key=.string k/\e.val=v/\zc8 .string (.string k) f i=Td (Td (i+j,v))/\∀w,(f.modify j λe=>{ e with key:=.string k,val:=w }).map (λe=>(e.key,e.val))=(lT l k w).map λp=>(za0 p.1,p.2))
 |[],l,i,h=>by
  have:l=[]:=by cases l <;> simp_all
  subst this;exact .inl ⟨rfl,rfl⟩
 |e::f,l,i,h=>by
  cases l with
  |nil=>simp at h
  |cons p l=>
   simp only[zbk,zcv,zb9]at h;have⟨⟨h1,h2⟩,m⟩:=h;by_cases c:p.1=k;refine .inr ⟨0,p.2,e,by simp[il,c],rfl,by rw[h1,c],h2,?_,λw=>?_⟩;have b:(k==p.1)=Ta:=by rw[vS];simpa using c.symm
   simp[zc8,zeu,h1,h2,b];simp[lT,c,m];have b:(k==p.1)=Tc:=by rw[vS];simpa using λe=>c e.symm
   obtain⟨g1,g2⟩|⟨j,v,r,g1,g2,t,n,q,o⟩:=Wz k f l (i+1) m;refine .inl ⟨by simp[il,c,g1],?_⟩;simp[zc8,zeu,h1,b,g2];refine .inr ⟨j+1,v,r,by simp[il,c,g1],ψ g2,t,n,?_,λw=>?_⟩;simp[zc8,zeu,h1,b,q];omega;simp[lT,c,h1,h2,o w]
def DT(c:P.underlying kt=Td .string)(b:Bool)(k:Bt)(h:zc):Bk P (Instr.checkKey b 10000 kt (.string k)) h ():=by intro B d;have e:=Bk.underlying (h:=h) c B d;unfold Instr.checkKey;simp_all
theorem Qf(c:P.underlying kt=Td .string)(k:Bt)(b:List MapEntry)(r:Option (Nat×Value))(h:zc)(e:zc8 .string (.string k) b 0=Td r):Bk P (Instr.findKey kt (.string k) b) h r:=by intro B d;have f:=Bk.underlying (h:=h) c B d;unfold Instr.findKey;simp_all
def Yi{b:Array MapEntry}{c:Nat}(e:h[m]?=Td (.map b c)):Bk P (getObj m) h (.map b c):=by intro B d;have:(mk B d h).heap[m]?=Td (.map b c):=e;simp[getObj,Sem.run,this]
def NQ(hz:∃i,P.info? t=Td i/\i.zero=Td z):Bk P (zeroValue t) h z:=by have⟨i,h1,h2⟩:=hz;intro B d;simp[zeroValue,typeInfo,program,h1,h2,Sem.run]
def jX(l:List (Bt×Value))(k:Bt)(z:Value):Value:=(il l k).getD z
def Yu(T:MapT P t kt et z){l:List (Bt×Value)}(H:RW h m l)(k:Bt)(ok:Bool):Bk P (zcy t (.map (Td m)) (.string k) ok) h (ite ok (.tuple #[jX l k z,.bool (il l k).isSome]) (jX l k z)):=by have⟨b,c,h1,h2⟩:=H;intro B d;have f:=Bk.underlying (h:=h) T.map B d;have i:=Yi (P:=P) h1 B d;have o:=DT T.key b.isEmpty k h B d;unfold zcy;rw[DM,f];simp only[D0,DM,i,DQ,o];obtain⟨g1,g2⟩|⟨j,v,e,g1,g2,q,p,n,_⟩:=Wz k b.toList l 0 h2;rw[Qf T.key k b.toList Te h g2 B d];have hz:=NQ (h:=h) T.zero B d;simp only[D0,DM,hz,DQ,jX,g1];simp;rw[Qf T.key k b.toList _ h n B d];simp only[D0,jX,g1];simp
theorem W0{l:List (Bt×Value)}{k:Bt}{v:Value}(g:il l k=Te):lT l k v=l++[(k,v)]:=by
 induction l with
 |nil=>rfl
 |cons p l c=>simp only[il]at g;split at g;cases g;rename_i b;simp[lT,b,c g]
def Pe(T:MapT P t kt et z){l:List (Bt×Value)}(H:RW h m l)(k:Bt)(v:Value){K:zc->Prop}(w:∀h':zc,RW h' m (lT l k v)->h'.size=h.size->(∀i,i≠m->h'[i]?=h[i]?)->K h'):CA P (zct t (.map (Td m)) (.string k) v) h K:=by
 have f:=H.lt;have⟨b,c,h1,h2⟩:=H;intro B d;have q:=Bk.underlying (h:=h) T.map B d;have u:=Yi (P:=P) h1 B d;have x:=DT T.key Tc k h B d;have n:∀o:Obj,(setObj m o).run P (mk B d h)=.ok () (mk B d (h.setIfInBounds m o)):=by intro o;have:(mk B d h).heap[m]?=Td (.map b c):=h1;simp[setObj,Sem.run,this];rfl
 unfold zct;obtain⟨g1,g2⟩|⟨j,F,e,g1,g2,A,C,y,D⟩:=Wz k b.toList l 0 h2;refine⟨d,h.setIfInBounds m (.map (b.push { key:=.string k,val:=v,born:=c }) (c+1)),?_,w _ ⟨b.push { key:=.string k,val:=v,born:=c },c+1,ϑ f,?_⟩ ξ (λi hi=>η)⟩;rw[DM,q];simp only[D0,DM,u,x];rw[Qf T.key k b.toList Te h g2 B d];simp_all;rw[W0 g1];simp[h2];have r:j<b.size:=by have:=(zbb.1 g2).1;simpa using this
 refine⟨d,_,?_,w (h.setIfInBounds m (.map (b.modify j λe=>{ e with key:=.string k,val:=v }) c)) ⟨b.modify j λe=>{ e with key:=.string k,val:=v },c,ϑ f,?_⟩ ξ (λi hi=>η)⟩;rw[DM,q];simp only[D0,DM,u,x];rw[Qf T.key k b.toList _ h y B d];simp only[D0,zax];have p:((b[j]?).map (·.key)).getD (.string k)=.string k:=by
  have:b[j]?=Td e:=ψ g2
  rw[this];exact A
 rw[p];have E:zd0 (.string k) (.string k)=pure (.string k):=by unfold zd0;rw[zA (by show(k==k)=Ta;simp)]
 simp_all;simp_all
end
section
variable {h h':zc} {b n o:Nat} {cs:Array Value} {v:Value} {P:EM}
def Blk(h:zc)(b:Nat)(cs:Array Value):Prop:=∃T,h[b]?=Td (.cells cs T (0,0))
theorem Blk.ab0(H:Blk h b cs)(k:h'[b]?=h[b]?):Blk h' b cs:=by have⟨T,e⟩:=H;exact⟨T,k.trans e⟩
theorem Blk.keepN(H:Blk h b cs)(k:BT n h h')(hb:b<n):Blk h' b cs:=H.ab0 (k.get b hb)
theorem Blk.new(h:zc)(cs:ac2)(T:Nw):Blk (h.push (.cells cs T)) h.size cs:=⟨T,ye _ _⟩
def jo{h g:zc}{T:Nw}(e:g=h.push (.cells cs T)):BT h.size h g/\g.size=h.size+1/\Blk g h.size cs:=by subst e;exact⟨BT.push _ _ (zac _),Array.size_push _,Blk.new _ _ _⟩
theorem Blk.lt(H:Blk h b cs):b<h.size:=by have⟨T,e⟩:=H;grind
theorem Blk.cell(H:Blk h b cs)(c:cs[o]?=Td v):zd h ⟨b,o,Te⟩=Td v:=by have⟨T,e⟩:=H;unfold zd;simp[e,c]
theorem Blk.ab1{b o k:Nat}(H:Blk h b cs)(c:cs[o+k]?=Td v):zd h ((⟨b,o,Te⟩:n8).add k)=Td v:=by rw[zh];exact H.cell c
theorem Blk.ld{cs:ac1}(H:Blk h b cs.toArray):ze h ⟨b,0,Te⟩ 0 cs:=by
 have key:∀(l:ac1) (i:Nat),(∀j v,l[j]?=Td v->cs[i+j]?=Td v)->ze h ⟨b,0,Te⟩ i l:=by
  intro l;induction l with
  |nil=>intro i _;trivial
  |cons v l c=>intro i hi;refine⟨?_,c (i+1) λj u e=>?_⟩;rw[zh,zax];exact H.cell (by have:=hi 0 v rfl;grind);have:=hi (j+1) u (ψ e);grind
 simp_all
theorem BT.setBlk(o:Obj)(hb:n<=b):BT n h (h.setIfInBounds b o):= ⟨ξ,λi hi=>η⟩
def zR(H:Blk h b cs)(B:Nd)(d:Nat):(mk B d h).frozen? ⟨b,o,Te⟩=Tc:=by have⟨T,e⟩:=H;have:(mk B d h).heap[b]?=Td (.cells cs T (0,0)):=e;simp[World.frozen?,this]
theorem KQ{T:Nw}(e:h[b]?=Td (.cells cs T (0,0)))(k:o<cs.size)(f:v.oneCell'=Ta)(B:Nd)(d:Nat):(store ⟨b,o,Te⟩ v).run P (mk B d h)=.ok () (mk B d (h.setIfInBounds b (.cells (cs.setIfInBounds o v) T (0,0)))):=by
 have l:(mk B d h).cell? ⟨b,o,Te⟩=Td cs[o]:=Blk.cell (h:=h) ⟨T,e⟩ (ϑ k);have j:=zR (o:=o) (⟨T,e⟩:Blk h b cs) B d;have c:(mk B d h).setCell ⟨b,o,Te⟩ v=mk B d (h.setIfInBounds b (.cells (cs.setIfInBounds o v) T (0,0))):=by unfold World.setCell mk;simp only;congr 1;have hb:b<h.size:=(zaq.1 e).1;apply Array.ext_getElem?;intro i;rw[Array.getElem?_modify];by_cases hi:i=b;simp_all;grind
 cases v with
 |agg x=>simp[pi]at f
 |tuple x=>simp[pi]at f
 |_=>simp only[store,Sem.run,l,j,zca,if_false,c]
theorem cells_one(b:v.oneCell'=Ta):v.cells=#[v]:=by cases v <;> first|rfl|simp[pi]at b
def jq{t:Nw}(hi:yf P t=Ta)(j:yo P t=1)(H:Blk h b cs)(f:o<cs.size)(c:v.oneCell'=Ta){K:zc->Prop}(l:∀h':zc,Blk h' b (cs.setIfInBounds o v)->h'.size=h.size->(∀i,i≠b->h'[i]?=h[i]?)->K h'):CA P (zae t (.pointer (Td ⟨b,o,Te⟩)) v) h K:=by
 have⟨T,e⟩:=H;have hb:b<h.size:=(zaq.1 e).1;intro B d;refine⟨d,_,?_,l (h.setIfInBounds b (.cells (cs.setIfInBounds o v) T (0,0))) ⟨T,ϑ hb⟩ ξ λi hi=>η⟩;have hz:=Bk.sizeOf (P:=P) (h:=h) (jv hi).choose_spec B d;unfold zae zem;simp only[DM,DQ,D0];unfold storeVar;rw[DM,hz];simp only[D0];rw[j,cells_one c];simp only[List.size_toArray,za1,zbx,zax,ne_eq,not_true_eq_false,if_false];show Sem.run P (storeCells ⟨b,o,Te⟩ [v]) _=_;unfold storeCells;rw[DM];have k:(⟨b,o,Te⟩:n8).add 0=⟨b,o,Te⟩:=by rw[zh];rfl
 rw[k,KQ e f c B d];rfl
def Jt{P:EM}{b:Nat}{T:Nw}(B:Nd)(d:Nat):∀(vs:ac1) (i:Nat) (h:zc) (cs:ac2),h[b]?=Td (.cells cs T (0,0))->i+DB vs<=cs.size->(∀v∈vs,v.oneCell'=Ta) ->∃h',(storeCells ⟨b,0,Te⟩ vs i).run P (mk B d h)=.ok () (mk B d h')/\h'[b]?=Td (.cells (cs.toList.take i++vs++cs.toList.drop (i+DB vs)).toArray T (0,0))/\h'.size=h.size/\∀j,j≠b->h'[j]?=h[j]?
 |[],i,h,cs,e,_,_=>⟨h,rfl,ψ e,rfl,λ_ _=>rfl⟩
 |v::vs,i,h,cs,e,hl,hv=>by
  have hb:b<h.size:=(zaq.1 e).1;simp only[za1]at hl;have h1:=KQ (P:=P) e (o:=i) ω (hv v zat) B d;have m:(h.setIfInBounds b (.cells (cs.setIfInBounds i v) T (0,0)))[b]?=Td (.cells (cs.setIfInBounds i v) T (0,0)):=ϑ hb
  have c:i+1+DB vs<=(cs.setIfInBounds i v).size:=by rw[Array.size_setIfInBounds];omega
  have⟨h',n,l,f,p⟩:=Jt (P:=P) B d vs (i+1) (h.setIfInBounds b (.cells (cs.setIfInBounds i v) T (0,0))) (cs.setIfInBounds i v) m c λu k=>hv u (zan _ k);refine⟨h',?_,?_,υ f,λj q=>η⟩;unfold storeCells;rw[DM,zh,zax,h1];simp_all;rw[l];congr 3;have hi:i<DB cs.toList:=φ
  simp only[Array.toList_setIfInBounds,za1];rw[List.take_set,List.drop_set_of_lt ω];have r:(cs.toList.take (i+1)).set i v=cs.toList.take i++[v]:=by
   rw[zai hi,List.set_append_right _ _ φ];have:i-(cs.toList.take i).length=0:=φ
   rw[this];rfl
  grind
theorem Fd.base{h:zc}{base b:Nat}{e:Nw}{sz:Nat}{s:Sl}{xs:ac1}(H:Fd h base e sz s xs)(hb:b<=base):Fd h b e sz s xs:=by refine⟨H.1,?_⟩;obtain j|⟨g,cap,c,f,i,rest⟩:=H.2;grind;exact .inr ⟨g,cap,c,f,ω,rest⟩
end
end
section
variable {cs:List Value}
inductive Tr where
 |mk (aa6:Int) (aa9:Bt) (aa8:List Bt) (aa7:List Tr)
namespace Tr
@[reducible] def aa6:Tr->Int|mk k _ _ _=>k
@[reducible] def aa9:Tr->Bt|mk _ s _ _=>s
@[reducible] def aa8:Tr->List Bt|mk _ _ ks _=>ks
@[reducible] def aa7:Tr->List Tr|mk _ _ _ xs=>xs
@[simp] theorem eta(t:Tr):mk t.aa6 t.aa9 t.aa8 t.aa7=t:=by cases t;rfl
instance:Inhabited Tr:=⟨mk 0 ⟨#[]⟩ [] []⟩
end Tr
inductive Ty where
 |int (k:IntKind)|bool|str|row (t:Ty)|tree|unit|pair (a b:Ty)|ptr (t:Ty)|iter|err
 deriving DecidableEq
abbrev PJ:Ty:=.int .i64
@[reducible] def El:Ty->Type
 |.int _=>Int
 |.bool=>Bool
 |.str=>Bt
 |.row t=>List (El t)
 |.tree=>Tr
 |.unit=>Unit
 |.pair a b=>El a×El b
 |.ptr t=>El t
 |.iter=>Bt×Nat
 |.err=>Bool
def sS:(t:Ty)->El t
 |.int _=>(0:Int)
 |.bool=>Tc
 |.str=>(⟨#[]⟩:Bt)
 |.row _=>[]
 |.tree=>default
 |.unit=>()
 |.pair a b=>(sS a,sS b)
 |.ptr t=>sS t
 |.iter=>(⟨#[]⟩,0)
 |.err=>Ta
def sz:Ty->Nat
 |.tree=>4
 |.unit=>0
 |.pair a b=>sz a+sz b
 |_=>1
abbrev Fr:=Nat->Option (Array Value)
def Fr.le(M M':Fr):Prop:=∀b cs,M b=Td cs->M' b=Td cs
theorem Fr.le.refl(M:Fr):Fr.le M M:=λ_ _ h=>h
theorem Fr.le.trans{a b c:Fr}(h:Fr.le a b)(k:Fr.le b c):Fr.le a c:=λ_ _ e=>k _ _ (h _ _ e)
def cut(cs:Array Value)(o n:Nat):List Value:=(cs.toList.drop o).take n
def RowAt(M:Fr){α:Type}(R:α->List Value->Prop)(z:Nat)(xs:List α)(v:Value):Prop:=
 ∃a c,v=.slice a xs.length c/\(xs.length<=140737488355328/\xs.length<=c)/\(xs=[]\/∃b o cs,a=Td ⟨b,o,Te⟩/\M b=Td cs/\∀i (h:i<xs.length),R xs[i] (cut cs (o+i*z) z))
inductive Tk (M:Fr):Tr->List Value->Prop where
 |mk {k:Int} {s:Bt} {ks:List Bt} {xs:List Tr} {vk:Value} {a:Option n8} {c b o:Nat} {cs:Array Value}
  (hk:RowAt M (λs cs=>cs=[.string s]) 1 ks vk) (hn:xs.length<=140737488355328/\xs.length<=c) (hz:xs=[]\/(a=Td ⟨b,o,Te⟩/\M b=Td cs))
  (hi:∀i (h:i<xs.length),Tk M xs[i] (cut cs (o+i*4) 4)):Tk M (.mk k s ks xs) [.int .i64 k,.string s,vk,.slice a xs.length c]
def Qg(s:Bt)(p:Nat):Value:=.iface 0 (.agg #[.string s,.int .i64 p])
def Rd(M:Fr):(t:Ty)->El t->List Value->Prop
 |.int k,i,cs=>cs=[.int k i]
 |.bool,b,cs=>cs=[.bool b]
 |.str,s,cs=>cs=[.string s]
 |.row t,xs,cs=>∃v,cs=[v]/\RowAt M (Rd M t) (sz t) xs v
 |.tree,t,cs=>Tk M t cs
 |.unit,_,cs=>cs=[]
 |.pair a b,x,cs=>∃c1 c2,cs=c1++c2/\Rd M a x.1 c1/\Rd M b x.2 c2
 |.ptr t,x,cs=>∃b o c,cs=[.pointer (Td ⟨b,o,Te⟩)]/\M b=Td c/\Rd M t x (cut c o (sz t))
 |.iter,x,cs=>cs=[Qg x.1 x.2]
 |.err,b,cs=>∃v,cs=[v]/\((b=Ta/\v=.nilIface)\/(b=Tc/\∃t u,v=.iface t u))
theorem RowAt.mono{M M':Fr}(j:Fr.le M M'){α:Type}{R f:α->List Value->Prop}{z:Nat}{xs:List α}{v:Value}(H:RowAt M R z xs v)(n:∀x∈xs,∀cs,R x cs->f x cs):RowAt M' f z xs v:=by have⟨a,c,e,l,h⟩:=H;refine⟨a,c,e,l,h.imp id ?_⟩;rintro⟨b,o,cs,m,p,k⟩;exact⟨b,o,cs,m,j _ _ p,λi h=>n _ (List.getElem_mem _) _ (k i h)⟩
theorem Tk.mono{M M':Fr}(b:Fr.le M M'){t:Tr}(H:Tk M t cs):Tk M' t cs:=by
 induction H with
 |mk c f hz _ e=>exact .mk (c.mono b λ_ _ _ h=>h) f (hz.imp id λh=>⟨h.1,b _ _ h.2⟩) e
theorem Rd.mono{M M':Fr}(c:Fr.le M M'):∀{t:Ty} {x:El t} {cs:ac1},Rd M t x cs->Rd M' t x cs
 |.int _,_,_,h=>h
 |.bool,_,_,h=>h
 |.str,_,_,h=>h
 |.row _,_,_,⟨v,e,h⟩=>⟨v,e,h.mono c λ_ _ _ h=>Rd.mono c h⟩
 |.tree,_,_,h=>Tk.mono c h
 |.unit,_,_,h=>h
 |.pair _ _,_,_,⟨c1,c2,e,h1,h2⟩=>⟨c1,c2,e,Rd.mono c h1,Rd.mono c h2⟩
 |.ptr _,_,_,⟨b,o,cc,e,h1,h2⟩=>⟨b,o,cc,e,c _ _ h1,Rd.mono c h2⟩
 |.iter,_,_,h=>h
 |.err,_,_,h=>h
theorem Rd.len{M:Fr}:∀{t:Ty} {x:El t} {cs:ac1},Rd M t x cs->DB cs=sz t
 |.int _,_,_,h=>by rw[h];rfl
 |.bool,_,_,h=>by rw[h];rfl
 |.str,_,_,h=>by rw[h];rfl
 |.row t,_,_,⟨v,e,_⟩=>by rw[e];rfl
 |.tree,_,_,h=>by cases h;rfl
 |.unit,_,_,h=>by rw[h];rfl
 |.pair _ _,_,_,⟨c1,c2,e,h1,h2⟩=>by rw[e,zah,Rd.len h1,Rd.len h2];rfl
 |.ptr _,_,_,⟨b,o,cc,e,_⟩=>by rw[e];rfl
 |.iter,_,_,h=>by rw[h];rfl
 |.err,_,_,⟨v,e,_⟩=>by rw[e];rfl
theorem Rd.one{M:Fr}:∀{t:Ty} {x:El t} {cs:ac1},Rd M t x cs->∀v∈cs,v.oneCell'=Ta
 |.int _,_,_,h=>by rw[h];simp[pi]
 |.bool,_,_,h=>by rw[h];simp[pi]
 |.str,_,_,h=>by rw[h];simp[pi]
 |.row t,_,_,⟨v,e,a,c,e2,_⟩=>by rw[e,e2];simp[pi]
 |.tree,_,_,h=>by
  cases h with
  |mk i _ _ _=>have⟨a,c,e,_⟩:=i;rw[e];simp[pi]
 |.unit,_,_,h=>by rw[h];simp
 |.pair _ _,_,_,⟨c1,c2,e,h1,h2⟩=>by intro v f;rw[e]at f;obtain f|f:=zav.1 f;exact Rd.one h1 v f;exact Rd.one h2 v f
 |.ptr _,_,_,⟨b,o,cc,e,_⟩=>by rw[e];simp[pi]
 |.iter,_,_,h=>by rw[h];simp[pi,Qg]
 |.err,_,_,⟨v,e,h⟩=>by rw[e];obtain⟨_,rfl⟩|⟨_,t,u,rfl⟩:=h <;> simp[pi]
theorem Tk.aa8{M:Fr}{t:Tr}(H:Tk M t cs):∃e f,cs=[.int .i64 t.aa6,.string t.aa9,e,f]/\Rd M (.row .str) t.aa8 [e]/\Rd M (.row .tree) t.aa7 [f]:=by
 cases H with
 | @mk k s ks xs e a c b o cs hk hn hz hi=>exact⟨e,_,rfl,⟨e,rfl,hk⟩,⟨_,rfl,a,c,rfl,hn,hz.imp id λh=>⟨b,o,cs,h.1,h.2,hi⟩⟩⟩
theorem Tk.of{M:Fr}{k:Int}{s:Bt}{ks:List Bt}{xs:List Tr}{j m:Value}(h1:Rd M (.row .str) ks [j])(h2:Rd M (.row .tree) xs [m]):Tk M (.mk k s ks xs) [.int .i64 k,.string s,j,m]:=by
 obtain⟨v,e,h1⟩:=h1;obtain⟨r,q,a,c,f,l,h2⟩:=h2;cases e;cases q;subst f;obtain rfl|⟨b,o,cs,p,f,n⟩:=h2;exact .mk (b:=0) (o:=0) (cs:=#[]) h1 l (.inl rfl) λi h=>absurd h ξ
 exact .mk h1 l (.inr ⟨p,f⟩) n
def Bd:(t:Ty)->El t->Prop
 |.row _,xs=>xs.length<=140737488355328
 |.tree,t=>t.aa8.length<=140737488355328/\t.aa7.length<=140737488355328
 |.pair a b,x=>Bd a x.1/\Bd b x.2
 |_,_=>True
theorem Rd.bd{M:Fr}:∀{t:Ty} {x:El t} {cs:ac1},Rd M t x cs->Bd t x
 |.int _,_,_,_=>trivial
 |.bool,_,_,_=>trivial
 |.str,_,_,_=>trivial
 |.row t,_,_,⟨v,_,a,c,_,h,_⟩=>h.1
 |.tree,_,_,h=>by
  cases h with
  |mk b f _ _=>have⟨a,c,e,h,_⟩:=b;exact⟨h.1,f.1⟩
 |.unit,_,_,_=>trivial
 |.pair _ _,_,_,⟨_,_,_,h1,h2⟩=>⟨Rd.bd h1,Rd.bd h2⟩
 |.ptr _,_,_,_=>trivial
 |.iter,_,_,_=>trivial
 |.err,_,_,_=>trivial
inductive AA where
 |v (x:Value)
 |d (t:Ty) (x:El t)
 |box (c o:Nat)
 |own (c:Nat)
 |oelt (c z:Nat) (i:Nat) (o:Nat)
 |elt (t:Ty) (x:El t) (o:Nat)
 |dc (t:Ty) (xs:List (El t))
inductive AG where
 |a (x:AA)
 |agg (l:List AA)
inductive AV where
 |g (x:AG)
 |tup (l:List AG)
 |nx (b:Bool) (p:Int) (c:Int)
structure Gh where
 M:Fr
 β:Nat->Nat
 σ:Nat->Sl
def Fk{α β:Type}(R:α->β->Prop):List α->List β->Prop
 |[],[]=>True
 |x::xs,y::ys=>R x y/\Fk R xs ys
 |_,_=>False
def aK(s:Sl):Value:=.slice s.a s.len s.cap
abbrev iV(x : Int): Value := .int .i64 x
abbrev tA(a : Int)(b : Bt)(c d : Sl): Value := .agg #[.int .i64 a, .string b, aK c, aK d]
abbrev tL(a : Int)(b : Bt)(c d : Sl): List Value := [.int .i64 a, .string b, aK c, aK d]
abbrev tC: Array Value := #[.int .i64 0, .string ⟨#[]⟩, .slice Te 0 0, .slice Te 0 0]
abbrev tZ: Value := .agg tC
def DH(γ:Gh):AA->Value->Prop
 |.v x,u=>u=x
 |.d t x,u=>Rd γ.M t x [u]
 |.box c o,u=>u=.pointer (Td ⟨γ.β c,o,Te⟩)
 |.own c,u=>u=aK (γ.σ c)
 |.oelt c z i o,u=>∃g,(γ.σ c).a=Td ⟨g,0,Te⟩/\u=.pointer (Td ⟨g,i*z+o,Te⟩)
 |.elt t x o,u=>∃b f cs,u=.pointer (Td ⟨b,f+o,Te⟩)/\γ.M b=Td cs/\Rd γ.M t x (cut cs f (sz t))
 |.dc t xs,u=>∃s:Sl,u=aK s/\s.cap=s.len/\Rd γ.M (.row t) xs [u]
def PT(γ:Gh):AG->Value->Prop
 |.a x,u=>DH γ x u
 |.agg l,u=>∃us,u=.agg us.toArray/\Fk (DH γ) l us
def DP(γ:Gh):AV->Value->Prop
 |.g x,u=>PT γ x u
 |.tup l,u=>∃us,u=.tuple us.toArray/\Fk (PT γ) l us
 |.nx b p c,u=>(b=Ta->u=.tuple #[.bool Ta,.int .i64 p,.int .i32 c])/\(b=Tc->u=.tuple #[.bool Tc])
theorem Fk.length{α β:Type}{R:α->β->Prop}:∀{l:List α} {m:List β},Fk R l m->DB l=DB m
 |[],[],_=>rfl
 |[],_::_,h=>h.elim
 |_::_,[],h=>h.elim
 |_::_,_::_,h=>by simp[Fk.length h.2]
theorem Fk.imp{α β:Type}{R b:α->β->Prop}:∀{l:List α} {m:List β},Fk R l m->(∀x∈l,∀y,R x y->b x y)->Fk b l m
 |[],[],_,_=>trivial
 |[],_::_,h,_=>h.elim
 |_::_,[],h,_=>h.elim
 |_::_,_::_,h,k=>⟨k _ zat _ h.1,Fk.imp h.2 λx e y c=>k x (zan _ e) y c⟩
theorem Fk.append{α β:Type}{R:α->β->Prop}:∀{l b:List α} {m m':List β},Fk R l m->Fk R b m'->Fk R (l++b) (m++m')
 |[],_,[],_,_,h=>h
 |[],_,_::_,_,h,_=>h.elim
 |_::_,_,[],_,h,_=>h.elim
 |_::_,_,_::_,_,h,k=>⟨h.1,Fk.append h.2 k⟩
theorem Fk.take{α β:Type}{R:α->β->Prop}:∀(n:Nat) {l:List α} {m:List β},Fk R l m->Fk R (l.take n) (m.take n)
 |0,_,_,_=>by simp[Fk]
 |_+1,[],[],_=>trivial
 |_+1,[],_::_,h=>h.elim
 |_+1,_::_,[],h=>h.elim
 |n+1,_::_,_::_,h=>⟨h.1,Fk.take n h.2⟩
theorem Fk.drop{α β:Type}{R:α->β->Prop}:∀(n:Nat) {l:List α} {m:List β},Fk R l m->Fk R (l.drop n) (m.drop n)
 |0,_,_,h=>ψ h
 |_+1,[],[],_=>trivial
 |_+1,[],_::_,h=>h.elim
 |_+1,_::_,[],h=>h.elim
 |n+1,_::_,_::_,h=>ψ (Fk.drop n h.2)
theorem Fk.get{α β:Type}{R:α->β->Prop}:∀{l:List α} {m:List β} {i:Nat} {x:α},Fk R l m->l[i]?=Td x->∃y,m[i]?=Td y/\R x y
 |[],[],_,_,_,h=>by simp at h
 |[],_::_,_,_,h,_=>h.elim
 |_::_,[],_,_,h,_=>h.elim
 |_::_,y::_,0,_,h,e=>by simp at e;subst e;exact⟨y,rfl,h.1⟩
 |_::_,_::_,i+1,_,h,e=>ψ (Fk.get h.2 (by simpa using e))
def Wc:(t:Ty)->El t->List AA
 |.int k,i=>[.v (.int k i)]
 |.bool,b=>[.v (.bool b)]
 |.str,s=>[.v (.string s)]
 |.row t,xs=>[.d (.row t) xs]
 |.tree,t=>[.v (.int .i64 t.aa6),.v (.string t.aa9),.d (.row .str) t.aa8,.d (.row .tree) t.aa7]
 |.unit,_=>[]
 |.pair a b,x=>Wc a x.1++Wc b x.2
 |.ptr t,x=>[.elt t x 0]
 |.iter,x=>[.d .iter x]
 |.err,x=>[.d .err x]
def Zi{γ:Gh}:∀{t:Ty} {x:El t} {cs:ac1},Rd γ.M t x cs->Fk (DH γ) (Wc t x) cs
 |.int _,_,_,h=>by rw[h];exact⟨rfl,trivial⟩
 |.bool,_,_,h=>by rw[h];exact⟨rfl,trivial⟩
 |.str,_,_,h=>by rw[h];exact⟨rfl,trivial⟩
 |.row t,_,_,⟨v,e,h⟩=>by rw[e];exact⟨⟨v,rfl,h⟩,trivial⟩
 |.tree,_,_,h=>by have⟨c,f,e,h1,h2⟩:=Tk.aa8 h;rw[e];exact⟨rfl,rfl,h1,h2,trivial⟩
 |.unit,_,_,h=>by rw[h];trivial
 |.pair _ _,_,_,⟨c1,c2,e,h1,h2⟩=>by rw[e];exact(Zi h1).append (Zi h2)
 |.ptr t,x,_,⟨b,o,cc,e,h1,h2⟩=>by rw[e];exact⟨⟨b,o,cc,rfl,h1,h2⟩,trivial⟩
 |.iter,x,_,h=>by rw[h];exact⟨rfl,trivial⟩
 |.err,x,_,⟨v,e,h⟩=>by rw[e];exact⟨⟨v,rfl,h⟩,trivial⟩
def oE:Ty->Bool
 |.iter=>Ta
 |.err=>Ta
 |.pair a b=>bif oE a then Ta else oE b
 |_=>Tc
theorem Rd.noIt{M:Fr}:∀{t:Ty} {x:El t} {cs:ac1},oE t=Tc->Rd M t x cs->∀s p,Qg s p∉cs
 |.int _,_,_,_,h,s,p=>by rw[h];simp[Qg]
 |.bool,_,_,_,h,s,p=>by rw[h];simp[Qg]
 |.str,_,_,_,h,s,p=>by rw[h];simp[Qg]
 |.row t,_,_,_,⟨v,e,a,c,e2,_⟩,s,p=>by rw[e,e2];simp[Qg]
 |.tree,_,_,_,h,s,p=>by
  cases h with
  |mk i _ _ _=>have⟨a,c,e,_⟩:=i;rw[e];simp[Qg]
 |.unit,_,_,_,h,s,p=>by rw[h];simp
 |.pair a b,_,_,hi,⟨c1,c2,e,h1,h2⟩,s,p=>by
  simp only[oE]at hi;cases ha:oE a with
  |true=>simp_all
  |false=>rw[ha]at hi;rw[e];intro f;obtain f|f:=zav.1 f;exact Rd.noIt ha h1 s p f;exact Rd.noIt hi h2 s p f
 |.ptr _,_,_,_,⟨b,o,cc,e,_⟩,s,p=>by rw[e];simp[Qg]
 |.iter,_,_,hi,_,_,_=>by cases hi
 |.err,_,_,hi,_,_,_=>by cases hi
def iY:List AA->Bool
 |[.d t _]=>oE t
 |[.v (.iface _ _)]=>Ta
 |_=>Tc
theorem yD{γ:Gh}{l:List AA}{us:ac1}(h:iY l=Tc)(j:Fk (DH γ) l us)(s:Bt)(p:Nat):us≠[Qg s p]:=by
 intro e;subst e
 match l,j with
 |[x],j=>
  cases x with
  |v y=>rw[<-show Qg s p=y from j.1]at h;simp[iY,Qg]at h
  |d t y=>exact Rd.noIt (show oE t=Tc from h) (show Rd γ.M t y [Qg s p]from j.1) s p ξ
  |box c o=>have:Qg s p=_:=j.1;simp[Qg]at this
  |own c=>have:Qg s p=_:=j.1;simp[Qg,aK]at this
  |oelt c z i o=>have⟨g,_,e⟩:=j.1;simp[Qg]at e
  |elt t y o=>have⟨b,f,cs,e,_⟩:=j.1;simp[Qg]at e
  |dc t xs=>have⟨k,e,_⟩:=j.1;simp[Qg,aK]at e
 |[],j=>cases j
 |_::_::_,j=>exact j.2.elim
inductive Ch where
 |box (l:List AA)
 |row (e:Nw) (t:Ty) (xs:List (El t))
 |fz (t:Ty) (xs:List (El t))
abbrev CS:=List (Nat×Ch)
def Yv:CS->Nat->Option Ch
 |[],_=>Te
 |(j,k)::l,i=>bif mv i j then Td k else Yv l i
theorem qp{l:CS}{i:Nat}{k:Ch}(h:Yv l i=Td k):(i,k)∈l:=by
 induction l with
 |nil=>cases h
 |cons x l b=>have⟨j,c⟩:=x;simp only[Yv]at h;by_cases hb:mv i j=Ta;simp_all;simp_all
def Qz(t t':Ty)(x:El t):Option (El t'):=if h:t=t' then Td (h ▸ x)else Te
def W5{M:Fr}{t t':Ty}{x:El t}{y:El t'}(h:Qz t t' x=Td y)(r:Rd M t x cs):Rd M t' y cs:=by unfold Qz at h;grind
def mA(cs:CS):(t:Ty)->AA->Option (El t)
 |.int k,.v (.int k' i)=>if k=k' then Td i else Te
 |.bool,.v (.bool b)=>Td b
 |.str,.v (.string s)=>Td s
 |.row t,.v (.slice Te 0 0)=>Td ([]:List (El t))
 |.row t,.d t' x=>Qz t' (.row t) x
 |.row t,.dc t' x=>Qz (.row t') (.row t) x
 |.row t,.own c=>match Yv cs c with
  |some (.fz t' xs)=>Qz (.row t') (.row t) xs
  |_=>Te
 |.ptr t,.elt t' x 0=>Qz t' t x
 |.ptr t,.d t' x=>Qz t' (.ptr t) x
 |.iter,.d t' x=>Qz t' .iter x
 |.err,.d t' x=>Qz t' .err x
 |.err,.v .nilIface=>Td Ta
 |.err,.v (.iface _ _)=>Td Tc
 |_,_=>Te
def collect(cs:CS):(t:Ty)->List AA->Option (El t×List AA)
 |.unit,l=>Td ((),l)
 |.pair a b,l=>match collect cs a l with
  |some (x,l')=>match collect cs b l' with
   |some (y,l'')=>Td ((x,y),l'')
   |none=>Te
  |none=>Te
 |.tree,k::s::ks::xs::l=>match mA cs (.int .i64) k,mA cs .str s,mA cs (.row .str) ks,mA cs (.row .tree) xs with
  |some k,Td s,Td ks,some xs=>Td (Tr.mk k s ks xs,l)
  |_,_,_,_=>Te
 |.tree,_=>Te
 |t,x::l=>match mA cs t x with
  |some y=>Td (y,l)
  |none=>Te
 |_,[]=>Te
def l8(γ:Gh)(cs:CS):Prop:=∀c t xs,(c,Ch.fz t xs)∈cs->Rd γ.M (.row t) xs [aK (γ.σ c)]
def wb{γ:Gh}{cs:CS}(j:l8 γ cs){t:Ty}{x:AA}{y:El t}(h:mA cs t x=Td y){u:Value}(c:DH γ x u):Rd γ.M t y [u]:=by unfold mA at h;split at h;split at h;rename_i k;simp only[zad]at h;subst h;subst k;exact congrArg (λu=>[u]) c;cases h;simp only[zad]at h;subst h;exact congrArg (λu=>[u]) c;simp only[zad]at h;subst h;exact congrArg (λu=>[u]) c;simp only[zad]at h;subst h;exact⟨u,rfl,Te,0,c,ξ,.inl rfl⟩;exact W5 h c;have⟨s,_,_,c⟩:=c;exact W5 h c;split at h;rename_i t' xs i;rw[show u=_ from c];exact W5 h (j _ _ _ (qp i));cases h;rename_i t t' x;have⟨b,f,a,e,h1,h2⟩:=c;exact⟨b,f,a,π e,h1,by unfold Qz at h;grind⟩;exact W5 h c;exact W5 h c;exact W5 h c;simp only[zad]at h;subst h;exact⟨u,rfl,.inl ⟨rfl,c⟩⟩;rename_i t' l;simp only[zad]at h;subst h;exact⟨u,rfl,.inr ⟨rfl,_,_,c⟩⟩;cases h
def Wd{γ:Gh}{cs:CS}(c:l8 γ cs):∀{t:Ty} {l e:List AA} {y:El t},collect cs t l=Td (y,e)->∀{us:ac1},Fk (DH γ) l us->∃c1 c2,us=c1++c2/\Rd γ.M t y c1/\Fk (DH γ) e c2
 |.unit,l,e,y,h,us,hu=>by simp only[collect,zad,zb9]at h;obtain⟨_,rfl⟩:=h;exact⟨[],us,rfl,rfl,hu⟩
 |.pair a b,l,e,y,h,us,hu=>by simp only[collect]at h;split at h;rename_i x G h1;split at h;rename_i z H h2;simp only[zad,zb9]at h;obtain⟨rfl,rfl⟩:=h;obtain⟨c1,c2,rfl,i,m⟩:=Wd c h1 hu;obtain⟨n,F,rfl,f,j⟩:=Wd c h2 m;exact⟨c1++n,F,ξ,⟨c1,n,rfl,i,f⟩,j⟩;cases h;cases h
 |.tree,l,e,y,h,us,hu=>by
  match l,us,hu,h with
  |k::s::ks::xs::l,u1::u2::u3::u4::us,hu,h=>simp only[collect]at h;split at h;rename_i w o q p h1 h2 C r;simp only[zad,zb9]at h;obtain⟨rfl,rfl⟩:=h;have⟨d1,d2,d3,D,B⟩:=hu;have i:=wb c h1 d1;have m:=wb c h2 d2;have f:=wb c C d3;have j:=wb c r D;refine⟨[u1,u2,u3,u4],us,rfl,?_,B⟩;have E:[u1]=[zby .i64 w]:=i;have A:[u2]=[za0 o]:=m;cases E;cases A;exact Tk.of f j;cases h
  |[],_,_,h=>simp[collect]at h
  |[_],_,_,h=>simp[collect]at h
  |[_,_],_,_,h=>simp[collect]at h
  |[_,_,_],_,_,h=>simp[collect]at h
  |_::_::_::_::_,[],hu,_=>cases hu
  |_::_::_::_::_,[_],hu,_=>exact hu.2.elim
  |_::_::_::_::_,[_,_],hu,_=>exact hu.2.2.elim
  |_::_::_::_::_,[_,_,_],hu,_=>exact hu.2.2.2.elim
 |.int k,x::l,e,y,h,u::us,hu=>by simp only[collect]at h;split at h;rename_i z hz;simp only[zad,zb9]at h;obtain⟨rfl,rfl⟩:=h;exact⟨[u],us,rfl,wb c hz hu.1,hu.2⟩;cases h
 |.bool,x::l,e,y,h,u::us,hu=>by simp only[collect]at h;split at h;rename_i z hz;simp only[zad,zb9]at h;obtain⟨rfl,rfl⟩:=h;exact⟨[u],us,rfl,wb c hz hu.1,hu.2⟩;cases h
 |.str,x::l,e,y,h,u::us,hu=>by simp only[collect]at h;split at h;rename_i z hz;simp only[zad,zb9]at h;obtain⟨rfl,rfl⟩:=h;exact⟨[u],us,rfl,wb c hz hu.1,hu.2⟩;cases h
 |.row _,x::l,e,y,h,u::us,hu=>by simp only[collect]at h;split at h;rename_i z hz;simp only[zad,zb9]at h;obtain⟨rfl,rfl⟩:=h;exact⟨[u],us,rfl,wb c hz hu.1,hu.2⟩;cases h
 |.ptr _,x::l,e,y,h,u::us,hu=>by simp only[collect]at h;split at h;rename_i z hz;simp only[zad,zb9]at h;obtain⟨rfl,rfl⟩:=h;exact⟨[u],us,rfl,wb c hz hu.1,hu.2⟩;cases h
 |.iter,x::l,e,y,h,u::us,hu=>by simp only[collect]at h;split at h;rename_i z hz;simp only[zad,zb9]at h;obtain⟨rfl,rfl⟩:=h;exact⟨[u],us,rfl,wb c hz hu.1,hu.2⟩;cases h
 |.iter,_::_,_,_,_,[],hu=>hu.elim
 |.iter,[],_,_,h,_,_=>by simp[collect]at h
 |.err,x::l,e,y,h,u::us,hu=>by simp only[collect]at h;split at h;rename_i z hz;simp only[zad,zb9]at h;obtain⟨rfl,rfl⟩:=h;exact⟨[u],us,rfl,wb c hz hu.1,hu.2⟩;cases h
 |.err,_::_,_,_,_,[],hu=>hu.elim
 |.err,[],_,_,h,_,_=>by simp[collect]at h
 |.int _,_::_,_,_,_,[],hu=>hu.elim
 |.bool,_::_,_,_,_,[],hu=>hu.elim
 |.str,_::_,_,_,_,[],hu=>hu.elim
 |.row _,_::_,_,_,_,[],hu=>hu.elim
 |.ptr _,_::_,_,_,_,[],hu=>hu.elim
 |.int _,[],_,_,h,_,_=>by simp[collect]at h
 |.bool,[],_,_,h,_,_=>by simp[collect]at h
 |.str,[],_,_,h,_,_=>by simp[collect]at h
 |.row _,[],_,_,h,_,_=>by simp[collect]at h
 |.ptr _,[],_,_,h,_,_=>by simp[collect]at h
end
section
section
variable {M M':Fr} {h h':zc} {b c o n0:Nat} {γ γ':Gh} {us:List Value} {u:Value} {t:Ty} {cs C R:CS} {e:Nw}
def AgM(M:Fr)(h:zc):Prop:=∀b c,M b=Td c->∃T m,h[b]?=Td (.cells c T m)
theorem AgM.lt(H:AgM M h){c:ac2}(e:M b=Td c):b<h.size:=by have⟨T,m,f⟩:=H b c e;grind
theorem AgM.none{M:Fr}{h:zc}(H:AgM M h){b:Nat}(hb:h.size<=b):M b=Te:=by
 cases e:M b with
 |none=>rfl
 |some c=>have:=H.lt e;omega
theorem AgM.cell(H:AgM M h){c:ac2}{v:Value}(e:M b=Td c)(i:c[o]?=Td v):zd h ⟨b,o,Option.none⟩=Td v:=by have⟨T,m,f⟩:=H b c e;unfold zd;simp[f,i]
def Gx(c:Option Nat)(γ γ':Gh):Prop:=Fr.le γ.M γ'.M/\∀i,c≠Td i->γ'.β i=γ.β i/\γ'.σ i=γ.σ i
theorem Gx.refl(c:ad0)(γ:Gh):Gx c γ γ:=⟨Fr.le.refl _,λ_ _=>⟨rfl,rfl⟩⟩
def kZ(c:Nat):AA->Bool
 |.box j _=>mv j c
 |.own j=>mv j c
 |.oelt j _ _ _=>mv j c
 |_=>Tc
def jD(c:Nat):List AA->Bool
 |[]=>Tc
 |x::l=>bif kZ c x then Ta else jD c l
def kP(c:Nat):Ch->Bool
 |.box l=>jD c l
 |_=>Tc
def vJ(c:Nat):AG->Bool
 |.a x=>kZ c x
 |.agg l=>jD c l
def vV(c:Nat):List AG->Bool
 |[]=>Tc
 |x::l=>bif vJ c x then Ta else vV c l
def l6(c:Nat):AV->Bool
 |.g x=>vJ c x
 |.tup l=>vV c l
 |.nx _ _ _=>Tc
def lJ{α:Type}(f:Nat->α->Bool):Option Nat->α->Bool
 |none,_=>Tc
 |some c,x=>f c x
def tP{j c:Nat}(h:mv j c=Tc):Td c≠Td j:=by intro e;simp_all
theorem DH.gx{c:ad0}(g:Gx c γ γ'):∀{x:AA} {u:Value},lJ kZ c x=Tc->DH γ x u->DH γ' x u
 |.v _,_,_,h=>h
 |.d _ _,_,_,h=>Rd.mono g.1 h
 |.box j o,u,hm,h=>by
  have:c≠Td j:=by cases c with|none=>simp|some c=>exact tP hm
  rw[show u=_ from h];simp only[DH,(g.2 j this).1]
 |.own j,u,hm,h=>by
  have:c≠Td j:=by cases c with|none=>simp|some c=>exact tP hm
  rw[show u=_ from h];simp only[DH,(g.2 j this).2]
 |.oelt j z i o,u,hm,h=>by
  have:c≠Td j:=by cases c with|none=>simp|some c=>exact tP hm
  have⟨b,k,l⟩:=h;exact⟨b,by rw[(g.2 j this).2];exact k,l⟩
 |.elt _ _ _,_,_,⟨b,f,cs,e,h1,h2⟩=>⟨b,f,cs,e,g.1 _ _ h1,Rd.mono g.1 h2⟩
 |.dc _ _,_,_,⟨s,k,l,h⟩=>⟨s,k,l,Rd.mono g.1 h⟩
def qb1{l:List AA}(h:jD c l=Tc):∀x∈l,kZ c x=Tc:=by
 induction l with
 |nil=>simp
 |cons y l b=>intro x e;simp only[jD]at h;grind
theorem DenL.gx{c:ad0}(g:Gx c γ γ'){l:List AA}(b:lJ jD c l=Tc)(h:Fk (DH γ) l us):Fk (DH γ') l us:= h.imp λx f u e=>DH.gx g (by cases c with|none=>rfl|some c=>exact qb1 b x f) e
theorem PT.gx{c:ad0}(g:Gx c γ γ'){x:AG}(b:lJ vJ c x=Tc)(h:PT γ x u):PT γ' x u:=by
 cases x with
 |a x=>exact DH.gx g (by cases c <;> exact b) h
 |agg l=>have⟨us,e,h⟩:=h;exact⟨us,e,DenL.gx g (by cases c <;> exact b) h⟩
def YA{l:List AG}(h:vV c l=Tc):∀x∈l,vJ c x=Tc:=by
 induction l with
 |nil=>simp
 |cons y l b=>intro x e;simp only[vV]at h;grind
theorem DP.gx{c:ad0}(g:Gx c γ γ'){x:AV}(f:lJ l6 c x=Tc)(h:DP γ x u):DP γ' x u:=by
 cases x with
 |g x=>exact PT.gx g (by cases c <;> exact f) h
 |tup l=>have⟨us,e,h⟩:=h;exact⟨us,e,h.imp λx j u i=>PT.gx g (by cases c with|none=>rfl|some c=>exact YA f x j) i⟩
 |nx b p c=>exact h
def KK(M:Fr)(t:Ty)(xs:List (El t))(cells:List Value):Prop:=
 cells.length=xs.length*sz t/\∀i (h:i<xs.length),Rd M t xs[i] ((cells.drop (i*sz t)).take (sz t))
theorem KK.mono(b:Fr.le M M'){xs:List (El t)}{cells:ac1}(H:KK M t xs cells):KK M' t xs cells:=⟨H.1,λi h=>Rd.mono b (H.2 i h)⟩
theorem KK.nil(M:Fr)(t:Ty):KK M t [] []:=⟨ξ,λi h=>absurd h ξ⟩
theorem KK.single{x:El t}{cs:ac1}(h:Rd M t x cs):KK M t [x] cs:=by
 have b:=h.len;refine⟨ϑ b,λi hi=>?_⟩;have:i=0:=ψ hi
 subst this;grind
theorem KK.append{xs ys:List (El t)}{c1 c2:ac1}(h1:KK M t xs c1)(h2:KK M t ys c2):KK M t (xs++ys) (c1++c2):=by
 refine⟨by rw[zah,zah,h1.1,h2.1,zc7],λi hi=>?_⟩;by_cases b:i<DB xs;rw[List.getElem_append_left b];have h:(i+1)*sz t<=DB c1:=by rw[h1.1];exact za6 _ b
 rw[zc7,ze8]at h;rw[List.drop_append_of_le_length ω,List.take_append_of_le_length η];exact h1.2 i b;have c:xs.length<=i:=ω
 rw[List.getElem_append_right c];have f:i-DB xs<DB ys:=by rw[zah]at hi;omega
 have:=h2.2 (i-DB xs) f;have e:(c1++c2).drop (i*sz t)=c2.drop ((i-DB xs)*sz t):=by
  rw[List.drop_append];have:c1.length<=i*sz t:=by rw[h1.1];exact za6 _ c
  rw[List.drop_eq_nil_of_le this,zcm,h1.1,<-Nat.sub_mul]
 grind
theorem KK.one{xs:List (El t)}{cells:ac1}(H:KK M t xs cells):∀v∈cells,v.oneCell'=Ta:=by
 intro v c;obtain⟨j,b,rfl⟩:=List.getElem_of_mem c;have hz:0<sz t:=by obtain h|h:=zei (sz t);rw[H.1,h,Nat.mul_zero]at b;omega;exact h
 have hi:j / sz t<DB xs:=by rw[H.1]at b;exact Nat.div_lt_of_lt_mul η
 refine Rd.one (H.2 _ hi) _ ?_;rw[List.mem_iff_getElem?];refine⟨j % sz t,?_⟩;rw[zbq,zA (Nat.mod_lt _ hz),zb1,Nat.mul_comm,Nat.div_add_mod,List.getElem?_eq_getElem b]
theorem KK.rd{xs:List (El t)}{cells:ac1}(H:KK M t xs cells){cs:ac2}(h:M b=Td cs)(j:(cs.toList.drop o).take (DB xs*sz t)=cells)(k:xs.length<=140737488355328/\DB xs<=c):Rd M (.row t) xs [.slice (Td ⟨b,o,Te⟩) (DB xs) c]:=by
 refine⟨_,rfl,_,_,rfl,k,.inr ⟨b,o,cs,rfl,h,λi hi=>?_⟩⟩;have:=H.2 i hi;rw[<-j]at this;have f:(i+1)*sz t<=DB xs*sz t:=za6 _ hi;rw[zc7,ze8]at f;have e:(((cs.toList.drop o).take (DB xs*sz t)).drop (i*sz t)).take (sz t)=cut cs (o+i*sz t) (sz t):=by unfold cut;rw[List.drop_take,List.take_take,zeb,zew ω]
 simp_all
theorem Rd.rowC(ag:AgM M h){xs:List (El t)}(H:Rd M (.row t) xs [u]):∃s:Sl,u=aK s/\s.len=DB xs/\(DB xs<=140737488355328/\DB xs<=s.cap)/\∃cells,KK M t xs cells/\Arr h.size h s.a cells:=by
 obtain⟨v,e,a,c,rfl,m,H⟩:=H;cases e;refine⟨⟨a,DB xs,c⟩,rfl,rfl,m,?_⟩;obtain rfl|⟨b,o,cs,rfl,l,hi⟩:=H;exact⟨[],KK.nil _ _,.inl rfl⟩;have f:xs=[]\/DB xs*sz t<=(cs.toList.drop o).length:=by
  obtain h0|h0:=zei (DB xs);simp_all;right;have:=(hi (DB xs-1) ω).len;unfold cut at this;rw[zbt,zcw]at this;rw[zcw];obtain hz|hz:=zei (sz t);grind;have e:xs.length*sz t=(DB xs-1)*sz t+sz t:=by rw[<-Nat.succ_mul];congr 1;omega
  rw[e];omega
 obtain rfl|f:=f;exact⟨[],KK.nil _ _,.inl rfl⟩;refine⟨(cs.toList.drop o).take (DB xs*sz t),⟨θ,λi j=>?_⟩,.inr ⟨b,o,rfl,ag.lt l,λi v n=>?_⟩⟩;have:=hi i j;have k:(i+1)*sz t<=DB xs*sz t:=za6 _ j;rw[zc7,ze8]at k;unfold cut at this;rw[List.drop_take,List.take_take,zeb,zew ω];exact this;refine ag.cell l ?_;grind
def Be(o:Option Obj)(us:List Value):Prop:=((∃T,o=Td (.cells us.toArray T (0,0)))/\∀s p,us≠[Qg s p])\/(∃s p,us=[Qg s p]/\o=Td (.stringIter s p))
def aa0(n0:Nat)(γ:Gh)(h:zc)(c:Nat):Ch->Prop
 |.box l=>∃us,Be h[γ.β c]? us/\Fk (DH γ) l us
 |.row e t xs=>∃cells,Fd h n0 e (sz t) (γ.σ c) cells/\KK γ.M t xs cells/\xs.length<=140737488355328/\(γ.σ c).len=xs.length
 |.fz t xs=>Rd γ.M (.row t) xs [aK (γ.σ c)]
def blk(γ:Gh)(c:Nat):Ch->Option Nat
 |.box _=>Td (γ.β c)
 |.row _ _ _=>(γ.σ c).a.map (·.block)
 |.fz _ _=>Te
structure Inv (h0:zc) (W:Nat->Prop) (M0:Fr) (cs:CS) (γ:Gh) (h:zc):Prop where
 ag:AgM γ.M h
 frame:∀i,i<h0.size->¬W i->h[i]?=h0[i]?
 size:h0.size<=h.size
 old:∀b,b<h0.size->γ.M b=M0 b
 le:Fr.le M0 γ.M
 den:∀x∈cs,aa0 h0.size γ h x.1 x.2
 sep:∀x∈cs,∀b,blk γ x.1 x.2=Td b->(h0.size<=b\/W b)/\γ.M b=Te
 apart:cs.Pairwise λx y=>∀b,blk γ x.1 x.2=Td b->blk γ y.1 y.2≠Td b
variable {h0 : zc} {W : Nat -> Prop} {M0 : Fr}
theorem aa0.lt{k:Ch}(H:aa0 n0 γ h c k):∀b,blk γ c k=Td b->b<h.size:=by
 intro b hb;cases k with
 |box l=>have⟨us,e,_⟩:=H;simp only[blk,zad]at hb;subst hb;obtain⟨⟨T,e⟩,_⟩|⟨s,p,_,e⟩:=e;grind;grind
 |row e t xs=>have⟨cells,h1,_⟩:=H;simp only[blk,zc5]at hb;obtain⟨p,f,rfl⟩:=hb;exact(h1.base_le p f).2
 |fz t xs=>cases hb
theorem aa0.gx{c:ad0}(g:Gx c γ γ'){j:Nat}{k:Ch}(q:c≠Td j)(n:lJ kP c k=Tc)(H:aa0 n0 γ h j k)(hb:∀b,blk γ j k=Td b->h'[b]?=h[b]?):aa0 n0 γ' h' j k:=by
 have⟨o,f⟩:=g.2 j q;cases k with
 |box l=>have⟨us,e,h1⟩:=H;exact⟨us,by rw[o,hb _ rfl];exact e,DenL.gx g (by cases c <;> exact n) h1⟩
 |row e t xs=>have⟨cells,h1,h2,m,r⟩:=H;refine⟨cells,?_,h2.mono g.1,m,η⟩;rw[f];exact h1.ab0 λp i=>hb _ (by simp[blk,i])
 |fz t xs=>simp only[aa0,f];exact Rd.mono g.1 H
theorem pL{c:ad0}(g:Gx c γ γ'){j:Nat}(k:Ch)(e:c≠Td j):blk γ' j k=blk γ j k:=by have⟨b,f⟩:=g.2 j e;cases k <;> simp[blk,b,f]
theorem Inv.rest{cs rest:CS}{γ γ':Gh}{h h':zc}(I:Inv h0 W M0 cs γ h)(hsub:rest.Sublist cs){c:ad0}(g:Gx c γ γ') (hmen:∀x∈rest,c≠Td x.1/\lJ kP c x.2=Tc) (hk:∀x∈rest,∀b,blk γ x.1 x.2=Td b->h'[b]?=h[b]?/\γ'.M b=Te)(ag:AgM γ'.M h') (hframe:∀i,i<h0.size->¬W i->h'[i]?=h[i]?) (hsize:h.size<=h'.size) (hold:∀b,b<h0.size->γ'.M b=γ.M b):Inv h0 W M0 rest γ' h' where
 ag:=ag
 frame:=λi hi hw=>(hframe i hi hw).trans (I.frame i hi hw)
 size:=zb8 I.size hsize
 old:=λb hb=>(hold b hb).trans (I.old b hb)
 le:=I.le.trans g.1
 den:=λx hx=>(I.den x (hsub.subset hx)).gx g (hmen x hx).1 (hmen x hx).2 λb hb=>(hk x hx b hb).1
 sep:=λx hx b hb=>by rw[pL g _ (hmen x hx).1]at hb;exact⟨(I.sep x (hsub.subset hx) b hb).1,(hk x hx b hb).2⟩
 apart:=by refine(I.apart.sublist hsub).imp_of_mem λ {x y} hx hy h=>?_;intro b hb;rw[pL g _ (hmen x hx).1]at hb;rw[pL g _ (hmen y hy).1];exact h b hb
theorem Inv.cons{rest:CS}(I:Inv h0 W M0 rest γ h){k:Ch}(hd:aa0 h0.size γ h c k)(hs:∀b,blk γ c k=Td b->(h0.size<=b\/W b)/\γ.M b=Te)(ha:∀b,blk γ c k=Td b->∀x∈rest,blk γ x.1 x.2≠Td b):Inv h0 W M0 ((c,k)::rest) γ h where
 ag:=I.ag
 frame:=I.frame
 size:=I.size
 old:=I.old
 le:=I.le
 den:=λx hx=>by obtain rfl|hx:=zal.1 hx;exact hd;exact I.den x hx
 sep:=λx hx=>by obtain rfl|hx:=zal.1 hx;exact hs;exact I.sep x hx
 apart:=zb2.2 ⟨λy hy b hb=>ha b hb y hy,I.apart⟩
theorem Inv.sub{cs rest:CS}(I:Inv h0 W M0 cs γ h)(hsub:rest.Sublist cs):Inv h0 W M0 rest γ h where
 ag:=I.ag
 frame:=I.frame
 size:=I.size
 old:=I.old
 le:=I.le
 den:=λx hx=>I.den x (hsub.subset hx)
 sep:=λx hx=>I.sep x (hsub.subset hx)
 apart:=I.apart.sublist hsub
theorem Inv.fz(I:Inv h0 W M0 cs γ h):l8 γ cs:=λc t xs b=>I.den _ b
theorem Inv.call(I:Inv h0 W M0 cs γ h)(k:BT h.size h h')(l:Fr.le γ.M M')(e:∀b,b<h.size->M' b=γ.M b)(ag:AgM M' h'):Inv h0 W M0 cs { γ with M:=M' } h':= I.rest (List.Sublist.refl _) (c:=Te) ⟨l,λ_ _=>⟨rfl,rfl⟩⟩ (λx _=>⟨ξ,rfl⟩) (λx j b hb=>by have f:=(I.den x j).lt b hb;exact⟨k.get b f,(e b f).trans (I.sep x j b hb).2⟩) ag (λi hi _=>k.get i (zda hi I.size)) k.size (λb hb=>e b (zda hb I.size))
def yg(c:Nat):CS->CS
 |[]=>[]
 |(j,k)::l=>bif (bif mv j c then Ta else kP c k)then yg c l else(j,k)::yg c l
def ya(c:Nat):CS->Bool
 |[]=>Ta
 |(j,k)::l=>bif (bif mv j c then Ta else kP c k)then Tc else ya c l
def W6(c:Nat):CS->CS
 |[]=>[]
 |(j,k)::l=>bif mv j c then W6 c l else(j,k)::W6 c l
def wz(c:Nat):∀l:CS,(yg c l).Sublist l
 |[]=>.slnil
 |(j,k)::l=>by
  simp only[yg];cases(cond (mv j c) Ta (kP c k))with
  |true=>exact(wz c l).cons _
  |false=>exact(wz c l).cons_cons _
def xx(c:Nat):∀l:CS,(W6 c l).Sublist l
 |[]=>.slnil
 |(j,k)::l=>by
  simp only[W6];cases mv j c with
  |true=>exact(xx c l).cons _
  |false=>exact(xx c l).cons_cons _
def DW{c:Nat}:∀{l:CS} {x:Nat×Ch},x∈yg c l->Td c≠Td x.1/\kP c x.2=Tc
 |(j,k)::l,x,h=>by
  simp only[yg]at h;cases hb:(cond (mv j c) Ta (kP c k))with
  |true=>rw[hb]at h;exact DW h
  |false=>
   rw[hb]at h;obtain rfl|h:=zal.1 h;cases hj:mv j c with
   |true=>simp[hj]at hb
   |false=>simp only[hj,zL]at hb;exact⟨tP hj,hb⟩
   exact DW h
theorem Yw{c:Nat}:∀{l:CS},ya c l=Ta->∀x∈l,Td c≠Td x.1/\kP c x.2=Tc
 |[],_,x,h=>ε h
 |(j,k)::l,hn,x,h=>by
  simp only[ya]at hn;cases hb:(cond (mv j c) Ta (kP c k))with
  |true=>simp_all
  |false=>
   rw[hb]at hn;obtain rfl|h:=zal.1 h;cases hj:mv j c with
   |true=>simp[hj]at hb
   |false=>simp only[hj,zL]at hb;exact⟨tP hj,hb⟩
   exact Yw hn x h
def Jh{c:Nat}:∀{l:CS} {x:Nat×Ch},x∈W6 c l->x∈l/\x.1≠c
 |(j,k)::l,x,h=>by
  simp only[W6]at h;cases hb:mv j c with
  |true=>rw[hb]at h;exact⟨zan _ (Jh h).1,(Jh h).2⟩
  |false=>rw[hb]at h;obtain rfl|h:=zal.1 h;refine⟨zat,λe=>?_⟩;simp_all;exact⟨zan _ (Jh h).1,(Jh h).2⟩
def lD(γ:Gh)(c b:Nat):Gh:={ γ with β:=λi=>bif mv i c then b else γ.β i }
def kb(γ:Gh)(c:Nat)(s:Sl):Gh:={ γ with σ:=λi=>bif mv i c then s else γ.σ i }
theorem nG(γ:Gh)(c b:Nat):Gx (Td c) γ (lD γ c b):=⟨Fr.le.refl _,λi hi=>by
 have:mv i c=Tc:=by
  cases h:mv i c with
  |false=>rfl
  |true=>simp_all
 simp[lD,this]⟩
theorem Q0(γ:Gh)(c:Nat)(s:Sl):Gx (Td c) γ (kb γ c s):=⟨Fr.le.refl _,λi hi=>by
 have:mv i c=Tc:=by
  cases h:mv i c with
  |false=>rfl
  |true=>simp_all
 simp[kb,this]⟩
theorem Ql(γ:Gh)(c b:Nat):(lD γ c b).β c=b:=by simp[lD]
theorem yp(γ:Gh)(c:Nat)(s:Sl):(kb γ c s).σ c=s:=by simp[kb]
theorem oA(e:ya c R=Ta):∀x∈yg c C++R,Td c≠Td x.1/\lJ kP (Td c) x.2=Tc:=by intro x b;obtain b|b:=zav.1 b;exact DW b;exact Yw e x b
theorem Inv.newBoxO(I:Inv h0 W M0 (C++R) γ h)(n:ya c R=Ta){l:List AA}(o:Fk (DH γ) l us)(q:jD c l=Tc){ob:Obj}(k:Be (Td ob) us):Inv h0 W M0 ((c,.box l)::yg c C++R) (lD γ c h.size) (h.push ob):=by
 have j:∀x∈yg c C++R,∀b,blk γ x.1 x.2=Td b->b<h.size:=λx f b hb=>(I.den x (((wz c C).append_right R).subset f)).lt b hb;have p:Inv h0 W M0 (yg c C++R) (lD γ c h.size) (h.push ob):=by refine I.rest ((wz c C).append_right R) (nG γ c h.size) (oA n) (λx f b hb=>?_) (λb r e=>?_) (λi hi _=>?_) ξ (λb hb=>rfl);have:=j x f b hb;exact⟨η,(I.sep x (((wz c C).append_right R).subset f) b hb).2⟩;have:=I.ag.lt e;have⟨t,m,u⟩:=I.ag b r e;grind;have:=I.size;grind
 refine p.cons ⟨us,by rw[Ql,ye];exact k,DenL.gx (nG γ c h.size) q o⟩ (λb hb=>?_) (λb hb x f e=>?_);simp only[blk,Ql,zad]at hb;subst hb;exact⟨.inl I.size,I.ag.none (zac _)⟩;simp only[blk,Ql,zad]at hb;subst hb;rw[pL (nG γ c h.size) _ (oA n x f).1]at e;grind
theorem Inv.newBox(I:Inv h0 W M0 (C++R) γ h)(i:ya c R=Ta){l:List AA}(e:Fk (DH γ) l us)(f:jD c l=Tc)(b:iY l=Tc)(T:Nw):Inv h0 W M0 ((c,.box l)::yg c C++R) (lD γ c h.size) (h.push (.cells us.toArray T)):=
 Inv.newBoxO I i e f (.inl ⟨⟨T,rfl⟩,λs p=>yD b e s p⟩)
def tz{α:Type}{R:α->α->Prop}(b:∀x y,R x y->R y x):∀{l:List α},l.Pairwise R->∀{x y:α},x∈l->y∈l->x≠y->R x y
 |[],_,_,_,hx,_,_=>by cases hx
 |z::l,h,x,y,hx,hy,hne=>by rw[zb2]at h;obtain c|h1:=zal.1 hx;grind;obtain e|h2:=zal.1 hy;simp_all;exact tz b h.2 h1 h2 hne
theorem Inv.setBox(I:Inv h0 W M0 (C++R) γ h){l q:List AA}(t:(c,Ch.box l)∈C)(e:Be h'[γ.β c]? us)(A:∀i,i≠γ.β c->h'[i]?=h[i]?) (F:h'.size=h.size) (w:Fk (DH γ) q us) (H:∀x∈R,x.1≠c):Inv h0 W M0 ((c,.box q)::W6 c C++R) γ h':=by
 have p:=I.sep _ (zap R t) _ rfl;have o:∀x∈W6 c C++R,blk γ x.1 x.2≠Td (γ.β c):=by
  intro x f;have k:x≠(c,Ch.box l):=by rintro rfl;obtain f|f:=zav.1 f;exact(Jh f).2 rfl;grind
  have j:x∈C++R:=((xx c C).append_right R).subset f;have u:=@tz _ (λ(x y:Nat×Ch)=>∀b,blk γ x.1 x.2=Td b->blk γ y.1 y.2≠Td b) (λx y h b hb n=>h b n hb) _ I.apart;intro hb;exact u (zap R t) j (λe=>k e.symm) _ rfl hb
 have z:Inv h0 W M0 (W6 c C++R) γ h':=by refine I.rest ((xx c C).append_right R) (c:=Te) (Gx.refl _ _) (λx _=>⟨ξ,rfl⟩) (λx f b hb=>?_) (λb B D=>?_) (λi hi E=>?_) ω (λb hb=>rfl);exact⟨A b λr=>o x f (r ▸ hb),(I.sep x (((xx c C).append_right R).subset f) b hb).2⟩;have⟨G,m,r⟩:=I.ag b B D;grind;grind
 refine z.cons ⟨us,e,w⟩ (λb hb=>?_) (λb hb x f=>?_);simp only[blk,zad]at hb;grind;simp only[blk,zad]at hb;simp_all
theorem Inv.newRow(I:Inv h0 W M0 (C++R) γ h)(B:ya c R=Ta)(F:h.size<=h'.size){p:ad0}(y:∀i,i<h.size->p≠Td i->h'[i]?=h[i]?) (r:∀b,p=Td b->h0.size<=b/\γ.M b=Te/\∀x∈C++R,blk γ x.1 x.2≠Td b) {s:Sl} {xs:List (El t)} {cells:ac1} (l:Fd h' h0.size e (sz t) s cells) (hb:∀q,s.a=Td q->p=Td q.block\/q.block=h.size) (n:KK γ.M t xs cells) (G:xs.length<=140737488355328) (E:s.len=DB xs):Inv h0 W M0 ((c,.row e t xs)::yg c C++R) (kb γ c s) h':=by
 have f:=(wz c C).append_right R;have u:∀x∈yg c C++R,∀b,blk γ x.1 x.2=Td b->b<h.size:=λx k b hb=>(I.den x (f.subset k)).lt b hb;have D:Inv h0 W M0 (yg c C++R) (kb γ c s) h':=by refine I.rest f (Q0 γ c s) (oA B) (λx k b hb=>?_) (λb z w=>?_) (λi hi L=>?_) F (λb hb=>rfl);exact⟨y b (u x k b hb) λo=>(r b o).2.2 x (f.subset k) hb,(I.sep x (f.subset k) b hb).2⟩;have⟨H,m,o⟩:=I.ag b z w;exact⟨H,m,by rw[y b (I.ag.lt w) λJ=>by have:=(r b J).2.1;rw[show γ.M b=Td z from w]at this;cases this];exact o⟩;have:=I.size;grind
 refine D.cons ⟨cells,by rw[yp];exact l,n,G,by rw[yp];exact E⟩ (λb j=>?_) (λb j x k o=>?_);simp only[blk,yp,zc5]at j;obtain⟨q,A,rfl⟩:=j;obtain h1|h1:=hb q A;exact⟨.inl (r _ h1).1,(r _ h1).2.1⟩;rw[h1];exact⟨.inl I.size,I.ag.none (zac _)⟩;simp only[blk,yp,zc5]at j;obtain⟨q,A,rfl⟩:=j;rw[pL (Q0 γ c s) _ (oA B x k).1]at o;grind
def oo(c:Nat):CS->CS
 |[]=>[]
 |(j,k)::l=>bif mv j c then(match k with
  |.row _ t xs=>(j,.fz t xs)::oo c l
  |k=>(j,k)::oo c l)else(j,k)::oo c l
def iE(γ:Gh)(b:Nat)(cs:Array Value):Gh:={ γ with M:=λi=>bif mv i b then Td cs else γ.M i }
theorem Inv.freeze1{A C:CS}{xs:List (El t)}(I:Inv h0 W M0 (A++(c,.row e t xs)::C) γ h):∃γ',Inv h0 W M0 (A++(c,.fz t xs)::C) γ' h/\Gx Te γ γ':=by
 have⟨cells,u,m,V,P⟩:=I.den (c,.row e t xs) ξ;have J:=m.1;obtain⟨l,h1⟩|⟨g,cap,i,l,j,L,Q,H,U,E⟩:=u.2;refine⟨γ,?_,Gx.refl _ _⟩;have F:xs=[]:=za4 ω;have S:aa0 h0.size γ h c (.fz t xs):=by subst F;simp only[zbc]at l;exact⟨_,rfl,Te,0,by simp[aK,l],⟨ξ,ξ⟩,.inl rfl⟩
 have k:∀x,x∈A++(c,Ch.fz t xs)::C->x∈A++(c,Ch.row e t xs)::C\/x=(c,Ch.fz t xs):=by intro x f;simp only[zav,zal]at f ⊢;obtain h|h|h:=f;grind;exact .inr h;simp_all
 refine⟨I.ag,I.frame,I.size,I.old,I.le,λx f=>?_,λx f b hb=>?_,?_⟩;grind [den];obtain h|rfl:=k x f;exact I.sep x h b hb;cases hb;have:=I.apart;simp only[zdo,zb2]at this ⊢;have⟨a1,⟨a2,z⟩,D⟩:=this;refine⟨a1,⟨λy q b hb=>(by simp[blk]at hb),z⟩,λx f y q b hb=>?_⟩;obtain rfl|q:=zal.1 q;simp[blk];grind;simp only[zbc]at l;have O:γ.M g=Te:=(I.sep (c,.row e t xs) ξ g (by simp[blk,l.1])).2;have w:Fr.le γ.M (iE γ g i).M:=by
  intro b G r;have:mv b g=Tc:=by
   cases hb:mv b g with
   |false=>rfl
   |true=>simp_all
  simp[iE,this,r]
 have gx:Gx Te γ (iE γ g i):=⟨w,λ_ _=>⟨rfl,rfl⟩⟩;have N:g<h.size:=(zaq.1 L).1;have B:∀x,x∈A++C->blk γ x.1 x.2≠Td g:=by intro x f;have:=I.apart;simp only[zdo,zb2]at this;have⟨a1,⟨a2,z⟩,D⟩:=this;obtain f|f:=zav.1 f;intro hb;exact D x f (c,.row e t xs) zat g hb (by simp[blk,l.1]);exact a2 x f g (by simp[blk,l.1])
 have n:∀b,b≠g->(iE γ g i).M b=γ.M b:=by
  intro b hb;have:mv b g=Tc:=by
   cases h:mv b g with
   |false=>rfl
   |true=>simp_all
  simp[iE,this]
 have p:Inv h0 W M0 (A++C) (iE γ g i) h:=by
  refine I.rest ξ gx (λx _=>⟨ξ,rfl⟩) (λx f b hb=>?_) (λb G r=>?_) (λ_ _ _=>rfl) (zac _) (λb hb=>n b ω);have j:b≠g:=λT=>B x f (T ▸ hb);refine⟨rfl,(n b j).trans (I.sep x ?_ b hb).2⟩;grind;by_cases j:b=g;subst j;have:G=i:=by simp[iE]at r;exact r.symm
  subst this;exact⟨_,_,L⟩;rw[n b j]at r;exact I.ag b G r
 refine⟨iE γ g i,?_,gx⟩;have S:aa0 h0.size (iE γ g i) h c (.fz t xs):=by
  have:=(m.mono w).rd (b:=g) (o:=0) (c:=cap) (cs:=i) (by simp[iE]) θ ⟨V,ω⟩;show Rd _ _ _ [aK (γ.σ c)];have Y:aK (γ.σ c)=.slice (Td ⟨g,0,Te⟩) (DB xs) cap:=by unfold aK;rw[l.1,P,l.2.2]
  rw[Y];exact this
 have k:∀x,x∈A++(c,Ch.fz t xs)::C->x∈A++C\/x=(c,Ch.fz t xs):=by intro x f;simp only[zav,zal]at f ⊢;obtain h|h|h:=f;grind;exact .inr h;grind
 refine⟨p.ag,p.frame,p.size,p.old,p.le,λx f=>?_,λx f b hb=>?_,?_⟩;grind [den];obtain h|rfl:=k x f;exact p.sep x h b hb;cases hb;have:=p.apart;simp only[zdo,zb2]at this ⊢;have⟨a1,z,D⟩:=this;refine⟨a1,⟨λy q b hb=>(by simp[blk]at hb),z⟩,λx f y q b hb=>?_⟩;obtain rfl|q:=zal.1 q;simp[blk];grind
theorem Inv.freeze{R:CS}{h:zc}(c:Nat):∀(C A:CS) {γ:Gh},Inv h0 W M0 (A++C++R) γ h->∃γ',Inv h0 W M0 (A++oo c C++R) γ' h/\Gx Te γ γ'
 |[],A,γ,I=>⟨γ,I,Gx.refl _ _⟩
 |(j,k)::l,A,γ,I=>by
  have go:∀(k:Ch) {γ:Gh},Inv h0 W M0 (A++(j,k)::l++R) γ h->∃γ',Inv h0 W M0 (A++(j,k)::oo c l++R) γ' h/\Gx Te γ γ':=by intro k γ I;have:=Inv.freeze c l (A++[(j,k)]) (R:=R) (γ:=γ) (ψ I);simpa using this
  simp only[oo];cases mv j c with
  |true=>
   cases k with
   |row e t xs=>obtain⟨m,n,g1⟩:=Inv.freeze1 (A:=A) (C:=l++R) (γ:=γ) (ψ I);obtain⟨b,f,g2⟩:=go (.fz t xs) (γ:=m) (ψ n);exact⟨b,f,g1.1.trans g2.1,λi hi=>⟨(g2.2 i hi).1.trans (g1.2 i hi).1,(g2.2 i hi).2.trans (g1.2 i hi).2⟩⟩
   |box o=>exact go _ I
   |fz t xs=>exact go _ I
  |false=>exact go _ I
end
section
variable {i n:Nat} {c:qj} {v:AV} {γ γ':Gh} {a:Act} {u:Value} {o:n9} {g:Option Bool} {σ:n7 -> Value}
abbrev q9:=List (Nat×qj×AV)
def mY:q9->Nat->Option (qj×AV)
 |[],_=>Te
 |(j,c,v)::e,i=>bif mv i j then Td (c,v)else mY e i
def mW(γ:Gh)(σ:Nat->Value)(x:Nat×qj×AV):Prop:=(CT σ x.2.1->DP γ x.2.2 (σ x.1))/\(¬CT σ x.2.1->σ x.1=undef)
structure Fn (n:Nat) (e:q9) (γ:Gh) (a:Act):Prop where
 defers:a.defers=[]
 size:a.tmps.size=n
 all:∀x∈e,mW γ (ql a) x
def rY:q9->Nat->q9
 |[],_=>[]
 |(j,c,v)::e,i=>bif (bif mv i j then Ta else mentions c i)then rY e i else(j,c,v)::rY e i
def Im(e:q9)(i:Nat)(c:qj)(v:AV):q9:=(i,c,v)::rY e i
def xo(e:q9):Option Nat->qj->AV->q9
 |none,_,_=>e
 |some d,c,v=>Im e d c v
def nN:q9->q9
 |[]=>[]
 |(j,[],v)::e=>(j,[],v)::nN e
 |(_,_::_,_)::e=>nN e
def tw(c:Nat):q9->q9
 |[]=>[]
 |(j,ch,v)::e=>bif l6 c v then tw c e else(j,ch,v)::tw c e
def vg:Option Nat->q9->q9
 |none,e=>e
 |some c,e=>tw c e
def Qm{e:q9}(h:mY e i=Td (c,v)):(i,c,v)∈e:=by
 induction e with
 |nil=>cases h
 |cons x e f=>have⟨j,b,k⟩:=x;simp only[mY]at h;by_cases hb:mv i j=Ta;simp_all;simp_all
def qb3{e:q9}{x:Nat×qj×AV}(h:x∈rY e i):x∈e/\x.1≠i/\mentions x.2.1 i=Tc:=by
 induction e with
 |nil=>cases h
 |cons y e n=>
  have⟨j,f,m⟩:=y;simp only[rY]at h;by_cases hb:mv i j=Ta;simp_all;have c:mv i j=Tc:=Bool.eq_false_iff.2 hb;simp only[c,zL]at h;by_cases k:mentions f i=Ta;simp_all;have b:mentions f i=Tc:=ψ k
  simp only[b,zL]at h;obtain rfl|h:=zal.1 h;refine⟨zat,λl=>?_,b⟩;simp_all;simp_all
def QH{e:q9}{x:Nat×qj×AV}(h:x∈nN e):x∈e/\x.2.1=[]:=by
 induction e with
 |nil=>cases h
 |cons y e i=>
  have⟨j,b,f⟩:=y;cases b with
  |nil=>simp only[nN]at h;grind
  |cons c cs=>simp only[nN]at h;simp_all
def z1x{c:ad0}{e:q9}{x:Nat×qj×AV}(h:x∈vg c e):x∈e/\lJ l6 c x.2.2=Tc:=by
 cases c with
 |none=>exact⟨h,rfl⟩
 |some c=>
  have key:∀e:q9,x∈tw c e->x∈e/\l6 c x.2.2=Tc:=by
   intro e;induction e with
   |nil=>intro h;cases h
   |cons y e b=>have⟨j,f,i⟩:=y;intro h;simp only[tw]at h;grind
  exact key e h
theorem Fn.sub{e b:q9}(h:Fn n e γ a)(c:∀x∈b,x∈e):Fn n b γ a:=⟨h.defers,h.size,λx f=>h.all x (c x f)⟩
theorem Fn.clean{e:q9}(h:Fn n e γ a):Fn n (nN e) γ a:=h.sub λ_ b=>(QH b).1
theorem Fn.gx{e:q9}{c:ad0}(h:Fn n e γ a)(g:Gx c γ γ'):Fn n (vg c e) γ' a:= ⟨h.defers,h.size,λx f=>by have⟨h1,h2⟩:=z1x f;exact⟨λb=>((h.all x h1).1 b).gx g h2,(h.all x h1).2⟩⟩
theorem Fn.gx0{e:q9}(h:Fn n e γ a)(g:Gx Te γ γ'):Fn n e γ' a:=h.gx g
theorem Fn.put{e:q9}(h:Fn n e γ a)(hi:i<n)(t:mentions c i=Tc)(w:CT (ql a) c->DP γ v u) (r:¬CT (ql a) c->u=undef):Fn n (Im e i c v) γ (a.put (Td i) u):=by
 refine⟨by rw[Zf];exact h.defers,by rw[SM];exact h.size,λx m=>?_⟩;have k:i<a.tmps.size:=by rw[h.size];exact hi
 obtain rfl|m:=zal.1 m;have l:=Qb (σ:=ql (a.put (Td i) u)) (τ:=ql a) t (λj o=>qy o);refine⟨λf=>?_,λf=>?_⟩;simp only;rw[xu k];grind;exact(xu k).trans (r (λb=>f (l.2 b)));have⟨h1,h2,q⟩:=qb3 m;have l:=Qb (σ:=ql (a.put (Td i) u)) (τ:=ql a) q (λj o=>qy o);have p:=h.all x h1;refine⟨λf=>?_,λf=>?_⟩;rw[qy h2];exact p.1 (l.1 f);exact(qy h2).trans (p.2 (λb=>f (l.2 b)))
theorem Fn.putO{e:q9}(h:Fn n e γ a){d:ad0}(f:wj n c d=Ta)(k:CT (ql a) c->DP γ v u) (l:¬CT (ql a) c->u=undef):Fn n (xo e d c v) γ (a.put d u):=by
 cases d with
 |none=>exact h
 |some i=>
  simp only[wj]at f;by_cases j:mentions c i=Ta;grind;have b:mentions c i=Tc:=ψ j
  simp only[b,zL]at f;exact h.put θ b k l
def Ct:Value->AG
 |.agg cs=>.agg (cs.toList.map .v)
 |v=>.a (.v v)
def qK:Value->AV
 |.tuple vs=>.tup (vs.toList.map Ct)
 |v=>.g (Ct v)
def JG(γ:Gh)(v:Value):PT γ (Ct v) v:=by
 cases v with
 |agg cs=>
  refine⟨cs.toList,ξ,?_⟩;generalize cs.toList=l;induction l with
  |nil=>trivial
  |cons x l b=>exact⟨rfl,b⟩
 |_=>exact rfl
def We(γ:Gh)(v:Value):DP γ (qK v) v:=by
 cases v with
 |tuple vs=>
  refine⟨vs.toList,ξ,?_⟩;generalize vs.toList=l;induction l with
  |nil=>trivial
  |cons x l b=>exact⟨JG γ x,b⟩
 |agg cs=>exact JG γ (.agg cs)
 |_=>exact rfl
def lR:List AA->Option (List Value)
 |[]=>Td []
 |.v x::l=>match lR l with
  |some vs=>Td (x::vs)
  |none=>Te
 |_::_=>Te
def qN:AV->Option Value
 |.g (.a (.v x))=>Td x
 |.g (.agg l)=>match lR l with
  |some vs=>Td (.agg vs.toArray)
  |none=>Te
 |_=>Te
theorem Mr{γ:Gh}:∀{l:List AA} {vs us:ac1},lR l=Td vs->Fk (DH γ) l us->us=vs
 |[],vs,[],h,_=>by simp only[lR,zad]at h;exact h
 |[],_,_::_,_,h=>h.elim
 |.v x::l,vs,u::us,h,hd=>by simp only[lR]at h;split at h;rename_i ws b;simp only[zad]at h;subst h;rw[show u=x from hd.1,Mr b hd.2];cases h
 |.v _::_,_,[],_,h=>h.elim
 |.d _ _::_,_,_,h,_=>by simp[lR]at h
 |.box _ _::_,_,_,h,_=>by simp[lR]at h
 |.own _::_,_,_,h,_=>by simp[lR]at h
 |.oelt _ _ _ _::_,_,_,h,_=>by simp[lR]at h
 |.elt _ _ _::_,_,_,h,_=>by simp[lR]at h
 |.dc _ _::_,_,_,h,_=>by simp[lR]at h
theorem Du{x:AV}{v u:Value}(h:qN x=Td v)(b:DP γ x u):u=v:=by unfold qN at h;split at h;simp only[zad]at h;subst h;exact b;rename_i l;split at h;rename_i vs c;simp only[zad]at h;subst h;obtain⟨us,rfl,h2⟩:=b;rw[Mr c h2];cases h;cases h
def iG(e:q9)(c:qj):n7->Option AV
 |.tmp t=>match mY e t with
  |some (cs,v)=>bif lV cs c then Td v else Te
  |none=>Te
 |.const v=>Td (qK v)
 |.global g=>Td (.g (.a (.v (.pointer (Td ⟨g,0,Te⟩)))))
 |.func f=>Td (.g (.a (.v (.func (.func f) #[] #[]))))
theorem qe{e:q9}(h:Fn n e γ a)(k:CT (ql a) c){x:n7}(b:iG e c x=Td v):DP γ v (a.eval x):=by
 cases x with
 |tmp t=>simp only[iG]at b;split at b;rename_i cs u j;by_cases i:lV cs c=Ta;simp only[i,zK,zad]at b;subst b;exact(h.all _ (Qm j)).1 (J5 i k);grind;cases b
 |const u=>simp only[iG,zad]at b;subst b;exact We γ u
 |global g=>simp only[iG,zad]at b;subst b;exact rfl
 |func f=>simp only[iG,zad]at b;subst b;exact rfl
def pK:AV->Option Bool
 |.g (.a (.v (.bool b)))=>Td b
 |_=>Te
def C8{b:Bool}(h:pK v=Td b)(c:DP γ v u):u=.bool b:=by unfold pK at h;split at h;simp only[zad]at h;subst h;exact c;cases h
def Ji(ops:Array n9)(e:q9):Option (Nat×Bool)->Option qj
 |none=>Td []
 |some (j,p)=>match jg ops j with
  |some g=>match mY e g with
   |some (cg,v)=>match pK v with
    |some _=>Td ((g,p)::cg)
    |none=>Te
   |none=>Te
  |none=>Te
def sD(e:q9):qj->Option Bool
 |[]=>Td Ta
 |(g,p)::c=>match mY e g with
  |some (cg,v)=>match pK v with
   |some b=>bif Qc cg c then(match sD e c with
    |some cb=>Td (cb&&(bif p then b else !b))
    |none=>Te)else Te
   |none=>Te
  |none=>Te
def BP{n:Nat}{e:q9}{γ:Gh}{a:Act}(h:Fn n e γ a):∀{c:qj} {b:Bool},sD e c=Td b->(b=Ta↔CT (ql a) c)
 |[],b,hb=>by simp only[sD,zad]at hb;simp[<-hb,CT]
 |(g,p)::c,b,hb=>by
  simp only[sD]at hb;split at hb;rename_i r v o;split at hb;rename_i m j;by_cases l:Qc r c=Ta;simp only[l,zK]at hb;split at hb;rename_i cb i;simp only[zad]at hb;have q:=BP h i;have k:=h.all _ (Qm o);rw[J4 l]at k;by_cases f:CT (ql a) c;have h1:ql a g=.bool m:=C8 j (k.1 f);have h2:=q.2 f;subst hb;simp only[CT,h1,f,h2,zce,and_true,Value.bool.injEq];grind;have h1:cb=Tc:=by cases cb with|false=>rfl|true=>simp_all
  subst hb;simp[CT,f,h1];cases hb;grind;cases hb;cases hb
def Zt{ops:Array n9}{e:q9}(h:Fn n e γ a)(f:Ji ops e o.guard=Td c):zbj o (yielded ops a.tmps)=Ta↔CT (ql a) c:=by
 unfold zbj;cases hg:o.guard with
 |none=>rw[hg]at f;simp only[Ji,zad]at f;simp[<-f,CT]
 |some t=>
  have⟨j,p⟩:=t;rw[hg]at f;simp only[Ji]at f;split at f;rename_i g i;split at f;rename_i u v q;split at f;rename_i b hb;simp only[zad]at f;subst f;have k:((ops[j]?).bind (·.dst))=Td g:=by simp only[jg]at i;split at i;simp_all;cases i
  have m:=h.all _ (Qm q);have r:yielded ops a.tmps j=Td p↔ql a g=.bool p:=by
   unfold yielded ql;rw[k];simp only[zc3];cases ht:a.tmps[g]? with
   |none=>simp[zb6,ht,undef]
   |some v=>cases v <;> simp[zb6,ht]
  simp only[beq_iff_eq,r,CT];constructor;intro h1;refine⟨h1,?_⟩;by_cases l:CT (ql a) u;exact l;have:=m.2 l;simp only at this;rw[h1]at this;exact absurd this.symm Gz;simp_all;cases f;cases f;cases f
def W8(e:q9):qj->Option (Option Bool)
 |[]=>Td Te
 |c=>match sD e c with
  |some b=>Td (Td b)
  |none=>Te
theorem Zj{e:q9}(f:Fn n e γ a)(h:W8 e c=Td g)(i:CT (ql a) c):ij g:=by unfold W8 at h;split at h;simp only[zad]at h;subst h;trivial;split at h;rename_i b hb;simp only[zad]at h;subst h;exact(BP f hb).2 i;cases h
theorem yX{e:q9}(i:Fn n e γ a)(h:W8 e c=Td g)(f:¬CT (ql a) c):g=Td Tc:=by
 unfold W8 at h;split at h;exact absurd trivial f;split at h;rename_i b hb;simp only[zad]at h;subst h;cases b with
 |false=>rfl
 |true=>exact absurd ((BP i hb).1 rfl) f
 cases h
def wZ(ρ:n7->Option AV)(x:n7):Value:=match ρ x with
 |some av=>match qN av with
  |some v=>v
  |none=>undef
 |none=>undef
def ov(ρ:n7->Option AV):List n7->Bool
 |[]=>Ta
 |x::l=>match ρ x with
  |some av=>match qN av with
   |some _=>ov ρ l
   |none=>Tc
  |none=>Tc
def QR{ρ:n7->Option AV}(h:∀x av,ρ x=Td av->DP γ av (σ x)){l:List n7}(c:ov ρ l=Ta):∀x∈l,σ x=wZ ρ x:=by
 induction l with
 |nil=>simp
 |cons y l i=>intro x f;simp only[ov]at c;split at c;rename_i av e;split at c;rename_i v b;obtain rfl|f:=zal.1 f;rw[Du b (h _ _ e)];simp[wZ,e,b];grind;cases c;cases c
theorem Km{ρ:n7->Option AV}(f:∀x av,ρ x=Td av->DP γ av (σ x))(c:Js o.op=Ta)(e:ov ρ o.op.operands.toList=Ta):hV σ o=hV (wZ ρ) o:=
 execOp_congr o (λcs b hb=>ς hb c) λx h=>QR f e x (ψ h)
end
section
variable {o n f k:Nat} {h:zc} {u:Value} {us:List Value} {cs:CS} {γ:Gh} {t ty:Nw} {P:EM}
variable {h0 : zc} {W : Nat -> Prop} {M0 : Fr}
def takeN(l:List AA)(o n:Nat):Option (List AA):=bif mv ((l.drop o).take n).length n then Td ((l.drop o).take n)else Te
def xE{l r:List AA}(h:takeN l o n=Td r):r=(l.drop o).take n/\DB r=n:=by
 unfold takeN at h;cases hb:mv ((l.drop o).take n).length n with
 |false=>simp_all
 |true=>rw[hb]at h;simp_all
def GR{h:zc}{p:n8}:∀{us:ac1} {i:Nat},(∀j v,us[j]?=Td v->zd h (p.add (i+j))=Td v)->ze h p i us
 |[],_,_=>trivial
 |v::us,i,H=>⟨χ (H 0 v rfl),GR λj u b=>by have:=H (j+1) u (ψ b);grind⟩
def Behind(h:zc)(u:Value)(us:List Value):Prop:=∃b o,u=.pointer (Td ⟨b,o,Te⟩)/\∀j v,us[j]?=Td v->zd h ⟨b,o+j,Te⟩=Td v
theorem Behind.ld(H:Behind h u us):∃p:n8,u=.pointer (Td p)/\ze h p 0 us/\∀v,us=[v]->zd h p=Td v:=by have⟨b,o,e,f⟩:=H;refine⟨_,e,GR λj v c=>?_,λv c=>?_⟩;rw[zh,zax];exact f j v c;have:=f 0 v (π c);omega
def UX{cs:ac2}{f n j:Nat}{v:Value}(h:(cut cs f n)[j]?=Td v):cs[f+j]?=Td v:=by unfold cut at h;grind
def uw(cs:CS)(n:Nat):AA->Option (List AA)
 |.box c o=>match Yv cs c with
  |some (.box l)=>bif iY l then Te else takeN l o n
  |_=>Te
 |.elt t x o=>takeN (Wc t x) o n
 |_=>Te
theorem Ub(I:Inv h0 W M0 cs γ h){y:AA}{r:List AA}(k:uw cs n y=Td r)(w:DH γ y u):∃us,Behind h u us/\us.length=n/\Fk (DH γ) r us:=by
 unfold uw at k;split at k
 ·rename_i c o;split at k
  ·rename_i l z;cases hit:iY l with
   |true=>simp_all
   |false=>
   rw[hit]at k;obtain⟨rfl,q⟩:=xE k;have⟨us,e,h2⟩:=I.den _ (qp z);obtain⟨⟨T,e⟩,_⟩|⟨s,p,e,_⟩:=e;case inr=>grind [yD]
   have m:=(h2.drop o).take n;refine⟨(us.drop o).take n,⟨_,_,w,λj v i=>?_⟩,by rw[<-m.length];exact q,m⟩;rw[zbq]at i;split at i;rw[zb1]at i;unfold zd;simp_all;cases i
  cases k
 rename_i t x o;obtain⟨rfl,q⟩:=xE k;have⟨b,f,C,e,B,A⟩:=w;have m:=((Zi (γ:=γ) A).drop o).take n;refine⟨_,⟨_,_,e,λj v i=>?_⟩,by rw[<-m.length];exact q,m⟩;rw[zbq]at i;split at i;rw[zb1]at i;have:=UX i;exact I.ag.cell B η;cases i;cases k
theorem RF(I:Inv h0 W M0 cs γ h){c:Nat}{e:Nw}{t:Ty}{xs:List (El t)}(H:Yv cs c=Td (.row e t xs)){i:Nat}{y:El t}(A:xs[i]?=Td y){r:List AA}(F:takeN (Wc t y) o n=Td r)(C:DH γ (.oelt c (sz t) i o) u):∃us,Behind h u us/\us.length=n/\Fk (DH γ) r us:=by
 obtain⟨rfl,G⟩:=xE F;obtain⟨g,D,rfl⟩:=C;have⟨cells,f,l,_,E⟩:=I.den _ (qp H);simp only at E f;obtain⟨m,h1⟩|⟨g',cap,w,m,_,p,_,_,_,k⟩:=f.2;simp_all;simp only[zbc]at m;rw[D]at m;have x:g=g':=by have:=m.1;simp only[zad,Addr.mk.injEq]at this;exact this.1
 subst x;have hi:i<xs.length:=(zbb.1 A).1;have q:xs[i]=y:=(zbb.1 A).2;have z:=l.2 i hi;rw[q]at z;have B:=((Zi (γ:=γ) z).drop o).take n;refine⟨_,⟨_,_,rfl,λj v b=>?_⟩,by rw[<-B.length];exact G,B⟩;rw[zbq]at b;split at b;rw[zb1,zbq]at b;split at b;rw[zb1,<-k,zbq]at b;split at b;have J:h[g]?=Td (.cells w e (0,0)):=p;unfold zd;grind;cases b;cases b;cases b
def mP:Option Nat->List AA->Option AG
 |none,[x]=>Td (.a x)
 |some _,l=>Td (.agg l)
 |_,_=>Te
def lN(P:EM)(t:Nw):Option (Option Nat):=match kX P t with
 |some (.one _)=>Td Te
 |some (.agg l)=>Td (Td l.length)
 |none=>Te
def mC:Option Nat->Nat
 |none=>1
 |some n=>n
def Az{s:ad0}(c:lN P t=Td s)(hb:Behind h u us)(k:us.length=mC s){r:List AA}(b:Fk (DH γ) r us){ag:AG}(i:mP s r=Td ag):∃v,PT γ ag v/\Bk P (zeg t u) h v:=by
 have⟨p,e,m,h1⟩:=hb.ld;subst e;have f:∀v,Bk P (loadVar t p) h v->Bk P (zeg t (.pointer (Td p))) h v:=λv n B d=>by unfold zeg zem;simp only[DM,DQ,D0];exact n B d
 unfold lN at c;split at c;rename_i a j;simp only[zad]at c;subst c
 match us,k,r,b with
 |[v],_,[x],b=>simp only[mP,zad]at i;subst i;exact⟨v,b.1,f v (qY j (h1 v rfl))⟩
 |[v],_,[],b=>cases b
 |[v],_,_::_::_,b=>exact b.2.elim
 rename_i l j;simp only[zad]at c;subst c;simp only[mP,zad]at i;subst i;exact⟨.agg us.toArray,⟨us,rfl,b⟩,f _ (rS j k m)⟩;cases c
def qO(P:EM)(cs:CS)(t:Nw)(b:AA)(g:Option Bool)(K:AV->Prop):Prop:=
 match lN P t with
 |some s=>match b with
  |.oelt c z i o=>match Yv cs c with
   |some (.row e ty xs)=>bif mv z (sz ty)then(∃y:El ty,req g (xs[i]?=Td y)/\match takeN (Wc ty y) o (mC s)with
    |some r=>match mP s r with
     |some ag=>K (.g ag)
     |none=>False
    |none=>False)else False
   |_=>False
  |b=>match uw cs (mC s) b with
   |some r=>match mP s r with
    |some ag=>K (.g ag)
    |none=>False
   |none=>False
 |none=>False
def FD{n:AA}{g:ac8}{K:AV->Prop}(H:qO P cs t n g K):∃av,K av/\(ij g->∀γ h u,Inv h0 W M0 cs γ h->DH γ n u->∃v,DP γ av v/\Bk P (zeg t u) h v):=by
 unfold qO at H;split at H;rename_i s l;split at H;rename_i c z i o;split at H;rename_i e ty xs q;cases hz:mv z (sz ty)with
 |false=>simp_all
 |true=>rw[hz]at H;have⟨y,p,H⟩:=H;split at H;rename_i r j;split at H;rename_i ag f;refine⟨_,H,λm γ h u I b=>?_⟩;rw[zao hz]at b;have⟨us,h1,h2,k⟩:=RF I q (p.out m) j b;exact Az l h1 h2 k f;cases H;cases H
 cases H;split at H;rename_i r j;split at H;rename_i ag f;refine⟨_,H,λm γ h u I b=>?_⟩;have⟨us,h1,h2,k⟩:=Ub I j b;exact Az l h1 h2 k f;cases H;cases H;cases H
def rJ(P:EM)(t:Nw)(f:Nat):Option (Nat×Nw):=match P.underlying t with
 |some (.struct fs)=>match fs[f]? with
  |some b=>match P.info? b.type with
   |some i=>bif mv i.size 0 then Te else Td (b.offset,b.type)
   |none=>Te
  |none=>Te
 |_=>Te
def vW(k:Nat):AA->Option AA
 |.box c o=>Td (.box c (o+k))
 |.elt t x o=>Td (.elt t x (o+k))
 |.oelt c z i o=>Td (.oelt c z i (o+k))
 |_=>Te
theorem MX(c:rJ P t f=Td (k,ty))(b o:Nat):Bk P (Instr.fieldAt t (.pointer (Td ⟨b,o,Te⟩)) f) h (.pointer (Td ⟨b,o+k,Te⟩)):=by
 unfold rJ at c;split at c;rename_i r n;split at c;rename_i p l;split at c;rename_i i hi;cases hz:mv i.size 0 with
 |true=>simp_all
 |false=>
  rw[hz]at c;simp only[zL,zad,zb9]at c;obtain⟨rfl,rfl⟩:=c;intro B d;have m:=Bk.underlying (h:=h) n B d;have q:=Bk.sizeOf (h:=h) hi B d;have j:¬(yo P p.type=0):=by unfold yo;rw[hi];intro e;simp only at e;rw[e]at hz;simp at hz
  unfold Instr.fieldAt zem fieldPlace;simp only[DM,m,D0,l,DQ,q,j,if_false,zh]
 cases c;cases c;cases c
def Gr{j c:AA}(h:vW k j=Td c)(i:DH γ j u):∃b o,u=.pointer (Td ⟨b,o,Te⟩)/\DH γ c (.pointer (Td ⟨b,o+k,Te⟩)):=by unfold vW at h;split at h;simp only[zad]at h;subst h;exact⟨_,_,i,rfl⟩;simp only[zad]at h;subst h;have⟨b,f,cs,e,h1,h2⟩:=i;exact⟨_,_,e,b,f,cs,η,h1,h2⟩;simp only[zad]at h;subst h;have⟨g,l,m⟩:=i;exact⟨_,_,m,g,l,η⟩;cases h
def qU(P:EM)(ty:Nw)(l:List AA)(k:Nat):Option AG:=match lN P ty with
 |some s=>match takeN l k (mC s)with
  |some r=>mP s r
  |none=>Te
 |none=>Te
def Hd{s:ad0}(c:lN P t=Td s)(h:zc):Bk P (isAgg t) h s.isSome:=by
 unfold lN at c;split at c;rename_i a b;simp only[zad]at c;subst c;unfold kX at b;split at b;grind;grind;rename_i d i o f;intro B e;have j:=Bk.underlying (h:=h) f B e;unfold isAgg;simp_all;cases b;rename_i l b;simp only[zad]at c;subst c;unfold kX at b;have f:(∃k,P.underlying t=Td (.struct k))\/∃n e,P.underlying t=Td (.array n e):=by split at b;simp_all;simp_all;simp at b;cases b
 intro B e;obtain⟨k,f⟩|⟨m,p,f⟩:=f;have j:=Bk.underlying (h:=h) f B e;unfold isAgg;simp_all;have j:=Bk.underlying (h:=h) f B e;unfold isAgg;simp_all;cases c
def PW(b:lN P t=Td (Td n)):yo P t=n/\∃i,P.info? t=Td i:=by
 unfold lN at b;split at b;cases b
 ·rename_i l c;simp only[zad]at b;subst b;unfold kX at c;have key:∀x:Option (List LE),(match x with
    |some l=>cond (mv (DB l) (yo P t)) (Td (VT.agg l)) Te
    |none=>Te)=Td (.agg l)->yo P t=DB l:=by
   intro x e;split at e;rename_i f;cases hb:mv (DB f) (yo P t)with
   |false=>simp_all
   |true=>simp_all
   cases e
  split at c;exact⟨key _ c,Ok (by assumption)⟩;exact⟨key _ c,Ok (by assumption)⟩;simp at c;cases c
 cases b
theorem BM{l:List AA}{ag:AG}(b:qU P ty l k=Td ag)(m:Fk (DH γ) l us)(h:zc):∃v,PT γ ag v/\Bk P (part ty us.toArray k) h v:=by
 unfold qU at b;split at b;rename_i s j;split at b;rename_i r p;obtain⟨rfl,t⟩:=xE p;have c:=(m.drop k).take (mC s);have e:((us.drop k).take (mC s)).length=mC s:=by rw[<-c.length];exact t
 cases s with
 |none=>
  generalize f:(us.drop k).take (mC Te)=q at *
  match q,e,f with
  |[v],_,f=>
   generalize o:(l.drop k).take (mC Te)=r' at *
   match r',c with
   |[x],c=>
    simp only[mP,zad]at b;subst b;refine⟨v,c.1,λB d=>?_⟩;have u:=Hd j h B d;have w:us[k]?=Td v:=by
     have:((us.drop k).take 1)[0]?=Td v:=by rw[show(us.drop k).take 1=[v]from f];rfl
     rw[zbq,zA ω,zb1]at this;simpa using this
    unfold part;simp_all
   |[],c=>cases c
   |_::_::_,c=>exact c.2.elim
 |some n=>simp only[mP,zad]at b;subst b;refine⟨.agg ((us.drop k).take n).toArray,⟨_,rfl,c⟩,λB d=>?_⟩;have u:=Hd j h B d;have⟨hz,i,hi⟩:=PW j;have y:=Bk.sizeOf (h:=h) hi B d;unfold part;simp_all
 cases b;cases b
end
section
variable {cs:CS} {γ:Gh} {h:zc} {u:Value} {t el:Nw} {a:Option n8} {n:Int} {av:AV} {P:EM} {g:Option Bool} {σ:n7 -> Value} {b:Bool} {o:n9}
variable {h0 : zc} {W : Nat -> Prop} {M0 : Fr}
def aa1(cs:CS):AA->Option ((t:Ty)×List (El t))
 |.d (.row t) xs=>Td ⟨t,xs⟩
 |.dc t xs=>Td ⟨t,xs⟩
 |.own c=>match Yv cs c with
  |some (.fz t xs)=>Td ⟨t,xs⟩
  |_=>Te
 |_=>Te
def tF(I:Inv h0 W M0 cs γ h){e:AA}{r:(t:Ty)×List (El t)}(b:aa1 cs e=Td r)(c:DH γ e u):Rd γ.M (.row r.1) r.2 [u]:=by unfold aa1 at b;split at b;simp only[zad]at b;subst b;exact c;simp only[zad]at b;subst b;have⟨s,_,_,h⟩:=c;exact h;split at b;rename_i t xs f;simp only[zad]at b;subst b;rw[show u=_ from c];exact I.den _ (qp f);cases b;cases b
theorem Rd.sub{M:Fr}{t:Ty}{xs:List (El t)}{n c:Nat}(H:Rd M (.row t) xs [.slice a n c]){l r m:Nat}(h1:l<=r)(h2:r<=xs.length)(A:r<=m)(y:m<=c):
 Rd M (.row t) ((xs.take r).drop l) [.slice (iy a (sz t) l m) (r-l) (m-l)]:=by
 obtain⟨v,e,x,w,j,B,H⟩:=H;cases e;simp only[zbc]at j;obtain⟨rfl,rfl,rfl⟩:=j;have f:((xs.take r).drop l).length=r-l:=φ
 refine⟨_,rfl,iy a (sz t) l m,m-l,ϕ f,⟨ω,ω⟩,?_⟩;by_cases z:r=l;simp_all;obtain u|⟨b,o,cs,q,k,hi⟩:=H;simp_all;right;have h:¬(m=l):=ω
 refine⟨b,o+l*sz t,cs,?_,k,λi p=>?_⟩;unfold iy;rw[zv h,q];simp[zh];grind
def vr:AV->Option Int
 |.g (.a (.v (.int _ n)))=>Td n
 |_=>Te
def HA(h:vr av=Td n)(b:DP γ av u):∃k,u=.int k n:=by unfold vr at h;split at h;simp only[zad]at h;subst h;exact⟨_,b⟩;cases h
def m8(P:EM)(t:Nw):Option Nw:=match P.underlying t with
 |some (.slice el)=>bif yf P el then Td el else Te
 |_=>Te
def Wg(h:m8 P t=Td el):P.underlying t=Td (.slice el)/\yf P el=Ta:=by unfold m8 at h;grind
def AU(P:EM)(cs:CS)(t:Nw)(b:AA)(n:Int)(g:Option Bool)(K:AV->Prop):Prop:=
 match m8 P t with
 |some el=>match aa1 cs b with
  |some r=>bif mv (yo P el) (sz r.1)then ∃y:El r.1,req g (0<=n/\r.2[n.toNat]?=Td y)/\K (.g (.a (.elt r.1 y 0)))else False
  |none=>match b with
   |.own c=>match Yv cs c with
    |some (.row e ty xs)=>bif mv (yo P el) (sz ty)then req g (0<=n/\n.toNat<xs.length)/\K (.g (.a (.oelt c (sz ty) n.toNat 0)))else False
    |_=>False
   |_=>False
 |none=>False
def Kw(e:P.underlying t=Td (.slice el))(j:yf P el=Ta){a:n8}{len cap:Nat}{k:IntKind}(h1:0<=n)(h2:n<(len:Int))(h:zc):Bk P (ze5 t (.slice (Td a) len cap) (.int k n)) h (.pointer (Td (a.add (n.toNat*yo P el)))):=by have:=Qk (P:=P) (t:=t) (x:=.slice (Td a) len cap) (i:=.int k n) (g:=Te) (K:=λv=>v=.pointer (Td (a.add (n.toNat*yo P el)))) (λf c=>by simp_all[jv]) (by unfold tj;rw[e];exact⟨a,⟨rfl,h1,h2⟩,rfl⟩);obtain⟨v,rfl,b⟩:=this;exact b trivial h
def Po{F:AA}{K:AV->Prop}(H:AU P cs t F n g K):∃av,K av/\(ij g->∀γ h u k,Inv h0 W M0 cs γ h->DH γ F u->∃v,DP γ av v/\Bk P (ze5 t u (.int k n)) h v):=by
 unfold AU at H;split at H;rename_i el x;have⟨E,D⟩:=Wg x;split at H;rename_i r S;cases hz:mv (yo P el) (sz r.1)with
 |false=>simp_all
 |true=>rw[hz]at H;have⟨y,A,z⟩:=H;refine⟨_,z,λq γ h u k I p=>?_⟩;have⟨i,l⟩:=A.out q;have j:=zao hz;have⟨v,e,a,c,N,Z,H⟩:=tF I S p;cases e;subst N;have hi:n.toNat<DB r.2:=(zbb.1 l).1;have T:r.2[n.toNat]=y:=(zbb.1 l).2;obtain Y|⟨b,o,J,U,L,w⟩:=H;simp_all;subst U;refine⟨_,?_,Kw E D i ω h⟩;have:=w n.toNat hi;rw[T]at this;rw[zh,j];exact⟨b,o+n.toNat*sz r.1,J,rfl,L,this⟩
 split at H;rename_i c _;split at H;rename_i e ty xs V;cases hz:mv (yo P el) (sz ty)with
 |false=>simp_all
 |true=>rw[hz]at H;have⟨A,z⟩:=H;refine⟨_,z,λq γ h u k I p=>?_⟩;have⟨i,hi⟩:=A.out q;have j:=zao hz;have⟨cells,f,G,_,Q⟩:=I.den _ (qp V);simp only at Q f;obtain⟨m,h1⟩|⟨g',cap,O,m,_,M,_,_,_,B⟩:=f.2;omega;simp only[zbc]at m;have C:u=aK (γ.σ c):=p;subst C;unfold aK;rw[m.1];refine⟨_,?_,Kw E D i ω h⟩;rw[zh,j,zax];exact⟨g',m.1,rfl⟩
 cases H;cases H;cases H
def rE(ρ:n7->Option AV)(d:Int):Option n7->Option Int
 |none=>Td d
 |some x=>match ρ x with
  |some av=>vr av
  |none=>Te
def Wh{ρ:n7->Option AV}(c:∀x av,ρ x=Td av->DP γ av (σ x)){d n:Int}{x:Option n7}(h:rE ρ d x=Td n):jd (x.map σ) d=Td n:=by unfold rE at h;split at h;exact h;rename_i y;split at h;rename_i av b;have⟨k,e⟩:=HA h (c _ _ b);simp[jd,e];cases h
def Dc(P:EM)(cs:CS)(ρ:n7->Option AV)(t:Nw)(b:AA)(lo hi mx:Option n7)(g:Option Bool)(K:AV->Prop):Prop:=
 match m8 P t with
 |some el=>match aa1 cs b with
  |some r=>bif mv (yo P el) (sz r.1)then(match rE ρ 0 lo,rE ρ (r.2.length:Int) hi with
   |some l,some h=>match mx with
    |none=>req g (0<=l/\l<=h/\h<=(r.2.length:Int))/\K (.g (.a (.d (.row r.1) ((r.2.take h.toNat).drop l.toNat))))
    |some m=>match rE ρ 0 (Td m),hi with
     |some m,some _=>req g (0<=l/\l<=h/\h<=(r.2.length:Int)/\m=h)/\K (.g (.a (.dc r.1 ((r.2.take h.toNat).drop l.toNat))))
     |_,_=>False
   |_,_=>False)else False
  |none=>False
 |none=>False
def EN(e:P.underlying t=Td (.slice el))(p:yf P el=Ta){len cap:Nat}{lo hi mx:Option Value}{l r m:Int}(b:jd lo 0=Td l)(c:jd hi (len:Int)=Td r)(i:jd mx (cap:Int)=Td m) (h0:mx=Te\/∃v,hi=Td v) (h1:0<=l) (h2:l<=r) (f:r<=m) (n:m<=(cap:Int)) (h:zc):Bk P (zet t (.slice a len cap) lo hi mx) h (.slice (iy a (yo P el) l.toNat m.toNat) (r.toNat-l.toNat) (m.toNat-l.toNat)):=by have:=Jf (P:=P) (t:=t) (x:=.slice a len cap) (lo:=lo) (hi:=hi) (mx:=mx) (g:=Te) (K:=λv=>v=.slice (iy a (yo P el) l.toNat m.toNat) (r.toNat-l.toNat) (m.toNat-l.toNat)) (λo k=>by simp_all[jv]) (by unfold yG;rw[e];simp only[b,c,i];exact⟨h0,⟨h1,h2,f,n⟩,trivial⟩);obtain⟨v,rfl,j⟩:=this;exact j trivial h
def OL{ρ:n7->Option AV}{F:AA}{lo hi mx:Option n7}{K:AV->Prop}(H:Dc P cs ρ t F lo hi mx g K):∃av,K av/\(ij g->∀γ h u σ,Inv h0 W M0 cs γ h->(∀x av,ρ x=Td av->DP γ av (σ x))->DH γ F u->∃v,DP γ av v/\Bk P (zet t u (lo.map σ) (hi.map σ) (mx.map σ)) h v):=by
 unfold Dc at H;split at H;rename_i el q;have⟨E,B⟩:=Wg q;split at H;rename_i r D;cases hz:mv (yo P el) (sz r.1)with
 |false=>simp_all
 |true=>
  rw[hz]at H;have n:=zao hz;simp only[zK]at H;split at H;rename_i l N C k;split at H;have⟨A,w⟩:=H;refine⟨_,w,λp γ h u σ I j o=>?_⟩;have⟨h1,h2,J⟩:=A.out p;have f:=tF I D o;have b:=f;have⟨v,e,a,c,y,L,_⟩:=b;cases e;subst y;refine⟨_,?_,EN E B (Wh j C) (Wh j k) (m:=(c:Int)) rfl (.inl rfl) h1 h2 ω (Int.le_refl _) h⟩;rw[n];exact f.sub ω ω ω ω;rename_i m;split at H;rename_i m' O M;have⟨A,w⟩:=H;refine⟨_,w,λp γ h u σ I j o=>?_⟩;have⟨h1,h2,J,G⟩:=A.out p;subst G;have f:=tF I D o;have b:=f;have⟨v,e,a,c,y,L,_⟩:=b;cases e;subst y;have i:=Wh j M;have z:jd ((Td m).map σ) (c:Int)=Td m':=by unfold jd at i ⊢;simp only[Option.map_some]at i ⊢;split at i <;> simp_all
  refine⟨_,?_,EN E B (Wh j C) (Wh j k) z (.inr ⟨_,rfl⟩) h1 h2 (Int.le_refl _) ω h⟩;rw[n];refine⟨⟨_,_,_⟩,rfl,rfl,f.sub ω ω ω ω⟩;cases H;cases H
 cases H;cases H
def CF(cs:CS):AA->Option Nat
 |.d (.row _) xs=>Td xs.length
 |.dc _ xs=>Td xs.length
 |.own c=>match Yv cs c with
  |some (.fz _ xs)=>Td xs.length
  |some (.row _ _ xs)=>Td xs.length
  |_=>Te
 |_=>Te
def QS(I:Inv h0 W M0 cs γ h){k:AA}{n:Nat}(b:CF cs k=Td n)(f:DH γ k u):∃a c,u=.slice a n c:=by
 have key:∀{t:Ty} {xs:List (El t)},Rd γ.M (.row t) xs [u]->∃a c,u=.slice a (DB xs) c:=by rintro t xs ⟨v,e,a,c,l,_⟩;cases e;exact⟨a,c,l⟩
 unfold CF at b;split at b;simp only[zad]at b;subst b;exact key f;simp only[zad]at b;subst b;have⟨s,_,_,f⟩:=f;exact key f;split at b;rename_i c t xs i;simp only[zad]at b;subst b;rw[show u=_ from f]at key ⊢;exact key (I.den _ (qp i));rename_i c e t xs i;simp only[zad]at b;subst b;have⟨cells,_,_,_,j⟩:=I.den _ (qp i);simp only at j;rw[show u=_ from f];exact⟨_,_,by unfold aK;rw[j]⟩;cases b;cases b
def H9:AA->List AA
 |.v x=>x.cells.toList.map .v
 |x=>[x]
def qH:AV->Option (List AA)
 |.g (.a x)=>Td (H9 x)
 |.g (.agg l)=>Td l
 |_=>Te
theorem Up(h:u.oneCell'=Ta):u.cells.toList=[u]:=by cases u <;> first|rfl|simp[pi]at h
def Qo(γ:Gh):∀l:List Value,Fk (DH γ) (l.map .v) l
 |[]=>trivial
 |_::l=>⟨rfl,Qo γ l⟩
def Uc{x:AA}(j:DH γ x u):Fk (DH γ) (H9 x) u.cells.toList:=by
 have key:u.oneCell'=Ta->Fk (DH γ) [x] u.cells.toList:=λh=>by rw[Up h];exact⟨j,trivial⟩
 cases x with
 |v y=>rw[show u=y from j];exact Qo γ _
 |d t y=>exact key (Rd.one (show Rd γ.M t y [u]from j) u ξ)
 |box c o=>exact key (by rw[show u=_ from j];rfl)
 |own c=>exact key (by rw[show u=_ from j];rfl)
 |oelt c z i o=>have⟨g,_,e⟩:=j;exact key (π e)
 |elt t y o=>have⟨b,f,cs,e,_⟩:=j;exact key (π e)
 |dc t xs=>have⟨s,e,_⟩:=j;exact key (π e)
theorem wx{l:List AA}(h:qH av=Td l)(b:DP γ av u):Fk (DH γ) l u.cells.toList:=by unfold qH at h;split at h;simp only[zad]at h;subst h;exact Uc b;simp only[zad]at h;subst h;obtain⟨us,rfl,h2⟩:=b;simpa[Value.cells]using h2;cases h
def oe(b:Nat->Option (Nat×Nat))(cells:List AA):List (Nat×AV)->Option (List AA)
 |[]=>Td cells
 |(i,av)::rest=>match b i,qH av with
  |some (off,size),some l=>bif mv l.length size then(bif Nat.ble (off+l.length) cells.length then oe b (cells.take off++l++cells.drop (off+l.length)) rest else Te)else Te
  |_,_=>Te
def Uy(vs:ac1):∀(k off:Nat) (cs:ac2),off+k+DB vs<=cs.size ->((vs.zipIdx k).foldl (λcs (x:Value×Nat)=>cs.setIfInBounds (off+x.2) x.1) cs).toList=cs.toList.take (off+k)++vs++cs.toList.drop (off+k+DB vs):=by
 induction vs with
 |nil=>simp
 |cons v vs b=>
  intro k off cs h;simp only[za1]at h;rw[List.zipIdx_cons,List.foldl_cons];refine(b (k+1) off (cs.setIfInBounds (off+k) v) η).trans ?_;simp only[Array.toList_setIfInBounds,za1];have hi:off+k<DB cs.toList:=φ
  rw[<-Nat.add_assoc,List.drop_set_of_lt ω];have c:(cs.toList.set (off+k) v).take (off+k+1)=cs.toList.take (off+k)++[v]:=by
   rw[List.take_set,zai hi,List.set_append_right _ _ φ];have:off+k-(cs.toList.take (off+k)).length=0:=φ
   rw[this];rfl
  grind
theorem W9{b:Nat->Option (Nat×Nat)}{γ:Gh}:∀{c:List (Nat×AV)} {cells r:List AA} {us:ac1} {ps:List (Nat×Value)},oe b cells c=Td r->Fk (DH γ) cells us->Fk (λ(x:Nat×AV) (y:Nat×Value)=>x.1=y.1/\DP γ x.2 y.2) c ps ->
 ∃ws:List Value,zfe b us.toArray ps=Td ws.toArray/\Fk (DH γ) r ws
 |[],cells,r,us,[],h,hc,_=>by simp only[oe,zad]at h;subst h;exact⟨us,rfl,hc⟩
 |[],_,_,_,_::_,_,_,e=>e.elim
 |_::_,_,_,_,[],_,_,e=>e.elim
 |(i,av)::rest,cells,r,us,(j,v)::ps,h,hc,e=>by
  obtain⟨⟨f,t⟩,e⟩:=e;simp only at f t;subst f;simp only[oe]at h;split at h;rename_i off size l p w;cases hb:mv l.length size with
  |false=>simp_all
  |true=>
   rw[hb]at h;simp only[zK]at h;cases hb2:Nat.ble (off+l.length) cells.length with
   |false=>simp_all
   |true=>
    rw[hb2]at h;simp only[zK]at h;have m:=wx w t;have o:=m.length;have A:=hc.length;have h1:=zao hb;have h2:=zci hb2;have q:v.cells.size=size:=by rw[<-h1,o];simp
    have k:Fk (DH γ) (cells.take off++l++cells.drop (off+l.length)) (us.take off++v.cells.toList++us.drop (off+l.length)):=((hc.take off).append m).append (hc.drop _);obtain⟨ws,z,u⟩:=W9 h k e;refine⟨ws,?_,u⟩;simp only[zfe,p];have n:¬((decide (v.cells.size≠size)||decide (off+v.cells.size>us.toArray.size))=Ta):=by rw[q];simp;omega
    rw[zv n];rw[<-z];congr 1;apply Array.ext';have:=Uy v.cells.toList 0 off us.toArray φ;grind [Array.toList_zipIdx,trans]
  cases h
def se(P:EM):List Field->Bool
 |[]=>Ta
 |f::l=>bif yf P f.type then se P l else Tc
def Eh{P:EM}{h:zc}:∀{l:List Field},se P l=Ta->Bk P (l.mapM λf=>do pure (f.offset,<-Go.sizeOf f.type)) h (l.map λf=>(f.offset,yo P f.type))
 |[],_=>λ_ _=>rfl
 |f::l,H=>by
  simp only[se]at H;cases ho:yf P f.type with
  |false=>simp_all
  |true=>rw[ho]at H;have⟨i,hi⟩:=jv ho;rw[zez];exact Bk.bind (Bk.bind (Bk.sizeOf hi) (Bk.pure _)) (Bk.bind (Eh H) (Bk.pure _))
def placeOf(P:EM)(b:Array Field)(i:Nat):Option (Nat×Nat):=match b[i]? with
 |some f=>Td (f.offset,yo P f.type)
 |none=>Te
def mX(ρ:n7->Option AV):List (Nat×n7)->Option (List (Nat×AV))
 |[]=>Td []
 |(i,x)::l=>match ρ x,mX ρ l with
  |some av,some r=>Td ((i,av)::r)
  |_,_=>Te
def yC{γ:Gh}{ρ:n7->Option AV}{σ:n7->Value}(b:∀x av,ρ x=Td av->DP γ av (σ x)):∀{l:List (Nat×n7)} {r:List (Nat×AV)},mX ρ l=Td r ->Fk (λ(x:Nat×AV) (y:Nat×Value)=>x.1=y.1/\DP γ x.2 y.2) r (l.map λx=>(x.1,σ x.2))
 |[],r,h=>by simp only[mX,zad]at h;subst h;trivial
 |(i,x)::l,r,h=>by simp only[mX]at h;split at h;rename_i av c h1 h2;simp only[zad]at h;subst h;exact⟨⟨rfl,b _ _ h1⟩,yC b h2⟩;cases h
def VQ(P:EM)(t:Nw):Option Value:=match P.info? t with
 |some i=>i.zero
 |none=>Te
def Wi{z:Value}(h:VQ P t=Td z)(b:zc):Bk P (zeroValue t) b z:=by unfold VQ at h;split at h;rename_i i hi;intro B d;simp[zeroValue,typeInfo,program,hi,Sem.run,h];cases h
def Ay(P:EM)(t:Nw)(b:List (Nat×AV)):Option (List AA):=match P.underlying t,VQ P t with
 |some (.struct fs),some z=>bif se P fs.toList then oe (placeOf P fs) (z.cells.toList.map .v) b else Te
 |_,_=>Te
def Si{b:List (Nat×AV)}{r:List AA}(h:Ay P t b=Td r){ps:List (Nat×Value)}(l:Fk (λ(x:Nat×AV) (y:Nat×Value)=>x.1=y.1/\DP γ x.2 y.2) b ps)(c:zc):∃ws:List Value,Bk P (Instr.build t ps.toArray) c (.agg ws.toArray)/\Fk (DH γ) r ws:=by
 unfold Ay at h;split at h;rename_i e z m hz;cases hof:se P e.toList with
 |false=>simp_all
 |true=>
  rw[hof]at h;simp only[zK]at h;have⟨ws,p,o⟩:=W9 h (Qo γ _) l;refine⟨ws,?_,o⟩;intro B d;have n:=Bk.underlying (h:=c) m B d;have j:=Wi hz c B d;have k:=Eh (P:=P) (h:=c) hof B d;unfold Instr.build;rw[DM,j];simp only[D0];rw[DM,n];simp only[D0];rw[DM,Array.mapM_eq_mapM_toList,Sem.run_map,k];simp only[D0];have q:(λi=>((e.toList.map λf=>(f.offset,yo P f.type)).toArray)[i]?)=placeOf P e:=by funext i;unfold placeOf;cases hi:e[i]? <;> simp[hi]
  simp_all
 cases h
def CJ(P:EM)(t:Nw)(a b:Value):Option Bool:=match P.underlying t,a,b with
 |some (.int _),.int k x,.int k' y=>if k=k' then Td (x==y)else Te
 |some .string,.string x,.string y=>Td (x.toList==y.toList)
 |some .bool,.bool x,.bool y=>Td (x==y)
 |_,_,_=>Te
def oL(P:EM)(xs ys:List AA):List Field->Option Bool
 |[]=>Td Ta
 | f :: fs => if f.name = "_" then none else match qU P f.type xs f.offset, qU P f.type ys f.offset with
  |some (.a (.v a)),Td (.a (.v b))=>match CJ P f.type a b,oL P xs ys fs with
   |some p,some q=>Td (p&&q)
   |_,_=>Te
  |_,_=>Te
def DV(P:EM)(o:n9)(ρ:n7->Option AV):Option Bool:=match o.op with
 |.binOp .eql t x y _=>match ρ x,ρ y with
  |some (.g (.agg xs)),Td (.g (.agg ys))=>match P.underlying t with
   |some (.struct _)=>bif P.stoodInHeld t then Te else bif P.eqGuardType P.depth t then Te else oL P xs ys (P.fieldsOf t).toList
   |_=>Te
  |_,_=>Te
 |.binOp .neq t x y _=>match ρ x,ρ y with
  |some (.g (.agg xs)),Td (.g (.agg ys))=>match P.underlying t with
   |some (.struct _)=>bif P.stoodInHeld t then Te else bif P.eqGuardType P.depth t then Te else(match oL P xs ys (P.fieldsOf t).toList with
    |some b=>Td (!b)
    |none=>Te)
   |_=>Te
  |_,_=>Te
 |_=>Te
theorem Nc{a b:Value}{r:Bool}(h:CJ P t a b=Td r)(d:Nat)(w:Nd):(Op.equalIn (d+1) t a b).run P w=.ok r w:=by unfold CJ at h;grind [zad,run_equalIn_int,run_equalIn_string,run_equalIn_bool']
def Gc{P:EM}{γ:Gh}{xs ys:List AA}{us vs:ac1}(n:Fk (DH γ) xs us)(m:Fk (DH γ) ys vs)(d:Nat)(h:zc):∀(c:List Field) (b:Bool),oL P xs ys c=Td b->Bk P (Op.eqFields (d+1) us.toArray vs.toArray c) h b
 |[],b,hb=>by simp only[oL,zad]at hb;subst hb;exact Bk.pure _
 |f::c,b,hb=>by
  unfold oL at hb;split at hb;cases hb;rename_i y;split at hb;rename_i a b' k i;split at hb;rename_i p q w r;simp only[zad]at hb;subst hb;have⟨t,A,o⟩:=BM k n h;have⟨x,u,z⟩:=BM i m h;have l:t=a:=A;have e:x=b':=u;subst l;subst e;intro B j;unfold Op.eqFields;rw[zA (by exact y)];rw[DM,o B j];simp only[D0];rw[DM,z B j];simp only[D0];rw[DM,Nc w d];simp only[D0];cases p with
  |false=>rfl
  |true=>simpa using Gc n m d h c q r B j
  cases hb;cases hb
def IE{ρ:n7->Option AV}(H:DV P o ρ=Td b)(k:∀x av,ρ x=Td av->DP γ av (σ x))(h:zc):Bk P (hV σ o) h (.value (.bool b)):=by
 have key:∀{t:Nw} {xs ys:List AA} {us vs:ac1} {j:Array Field} {b:Bool},P.underlying t=Td (.struct j)->P.stoodInHeld t=Tc->Fk (DH γ) xs us->Fk (DH γ) ys vs->oL P xs ys (P.fieldsOf t).toList=Td b->Bk P (Op.equalIn 10000 t (.agg us.toArray) (.agg vs.toArray)) h b:=by
  intro t xs ys us vs j b e c i f hb B d;have r:P.underlying t=Td (.struct (P.fieldsOf t)):=by rw[e];simp[Program.fieldsOf,e]
  rw[run_equalIn_struct _ 9999 t us.toArray vs.toArray r c];exact Gc i f 9998 h _ b hb B d
 unfold DV at H;split at H;rename_i t x y u l;split at H;rename_i xs ys i f;split at H;rename_i j e;cases c:P.stoodInHeld t with
 |true=>simp_all
 |false=>
  cases hg:P.eqGuardType P.depth t with
  |true=>simp_all
  |false=>rw[c,hg]at H;have⟨us,p,d1⟩:=k _ _ i;have⟨vs,q,d2⟩:=k _ _ f;have m:=key e c d1 d2 H;simp only[hV,l,p,q];refine Bk.val λB d=>?_;rw[DM,run_eqGuard_agg _ _ _ _ _ _ _ hg];simp only[D0];rw[run_eql_struct,m B d];rfl
 cases H;cases H;rename_i t x y u l;split at H;rename_i xs ys i f;split at H;rename_i j e;cases c:P.stoodInHeld t with
 |true=>simp_all
 |false=>
  cases hg:P.eqGuardType P.depth t with
  |true=>simp_all
  |false=>rw[c,hg]at H;simp only[zL]at H;split at H;rename_i b' n;simp only[zad]at H;subst H;have⟨us,p,d1⟩:=k _ _ i;have⟨vs,q,d2⟩:=k _ _ f;have m:=key e c d1 d2 n;simp only[hV,l,p,q];refine Bk.val λB d=>?_;rw[DM,run_eqGuard_agg _ _ _ _ _ _ _ hg];simp only[D0];rw[run_neq_struct,m B d];rfl;cases H
 cases H;cases H;cases H
def wB(P:EM)(o:n9)(ρ:n7->Option AV)(g:Option Bool)(cs:CS)(K:AV->Prop):Prop:=
 bif (bif mt o then(bif l7 P o then(bif Js o.op then ov ρ o.op.operands.toList else Tc)else Tc)else Tc)then jO P o (wZ ρ) g #[] (λv=>K (qK v))else
 match o.op with
 |.move x=>match ρ x with
  |some av=>K av
  |none=>False
 |.assign x=>match ρ x with
  |some av=>K av
  |none=>False
 |.extract x i=>match ρ x with
  |some (.tup l)=>match l[i]? with
   |some ag=>K (.g ag)
   |none=>False
  |some (.nx b p c)=>match i with
   |0=>K (.g (.a (.v (.bool b))))
   |1=>req g (b=Ta)/\K (.g (.a (.v (.int .i64 p))))
   |2=>req g (b=Ta)/\K (.g (.a (.v (.int .i32 c))))
   |_=>False
  |_=>False
 |.field t x f=>match ρ x,rJ P t f with
  |some (.g (.agg l)),Td (k,ty)=>match qU P ty l k with
   |some ag=>K (.g ag)
   |none=>False
  |_,_=>False
 |.fieldAddr t x f=>match ρ x,rJ P t f with
  |some (.g (.a aa)),Td (k,_)=>match vW k aa with
   |some h=>K (.g (.a h))
   |none=>False
  |_,_=>False
 |.load t x=>match ρ x with
  |some (.g (.a aa))=>qO P cs t aa g K
  |_=>False
 |.indexAddr t x i=>match ρ x,ρ i with
  |some (.g (.a aa)),some iv=>match vr iv with
   |some n=>AU P cs t aa n g K
   |none=>False
  |_,_=>False
 |.slice t x lo hi mx=>match ρ x with
  |some (.g (.a aa))=>Dc P cs ρ t aa lo hi mx g K
  |_=>False
 |.nilCheck x=>match ρ x with
  |some (.g (.a aa))=>match vW 0 aa with
   |some _=>K (.g (.a aa))
   |none=>False
  |_=>False
 |.build t e=>match mX ρ e.toList with
  |some ps=>match Ay P t ps with
   |some r=>K (.g (.agg r))
   |none=>False
  |none=>False
 |.call c=>match c.callee with
  |.builtin .len=>match c.args.toList,c.argTypes.toList with
   |[x],[t]=>match ρ x,P.underlying t with
    |some (.g (.a (.v (.string s)))),Td .string=>K (.g (.a (.v (.int .i64 (s.size:Int)))))
    |some (.g (.a (.v (.slice _ n _)))),Td (.slice _)=>K (.g (.a (.v (.int .i64 (n:Int)))))
    |some (.g (.a aa)),Td (.slice _)=>match CF cs aa with
     |some n=>K (.g (.a (.v (.int .i64 (n:Int)))))
     |none=>False
    |_,_=>False
   |_,_=>False
  |_=>False
 |_=>False
def QI{ρ:n7->Option AV}{K:AV->Prop}(H:wB P o ρ g cs K):∃av,K av/\(ij g->∀γ h σ,Inv h0 W M0 cs γ h->(∀x av,ρ x=Td av->DP γ av (σ x))->∃v,DP γ av v/\Bk P (hV σ o) h (.value v)):=by
 unfold wB at H;cases hb:(cond (mt o) (cond (l7 P o) (cond (Js o.op) (ov ρ o.op.operands.toList) Tc) Tc) Tc)with
 |true=>
  rw[hb]at H;cases hfam:mt o with
  |false=>simp_all
  |true=>
   cases w:l7 P o with
   |false=>simp_all
   |true=>
    cases hns:Js o.op with
    |false=>simp_all
    |true=>rw[hfam,w,hns]at hb;simp only[zK]at hb H;have⟨v,h1,h2⟩:=vc hfam H;refine⟨_,h1,λz γ h σ I m=>⟨v,We γ v,?_⟩⟩;rw[Km m hns hb];exact h2 z h ⟨ξ,λi hi=>absurd hi ξ⟩
 |false=>
  rw[hb]at H;simp only[zL]at H;have val:∀{s:Sem Value} {h:zc} {v:Value},Bk P s h v->Bk P (s >>= λx=>(zd3 (zd8 x):Sem Next)) h (.value v):=λw=>Bk.val w;split at H;rename_i x q;split at H;rename_i av j;exact⟨av,H,λ_ γ h σ I m=>⟨_,m _ _ j,by simp only[hV,q];exact Bk.pure _⟩⟩;cases H;rename_i x q;split at H;rename_i av j;exact⟨av,H,λ_ γ h σ I m=>⟨_,m _ _ j,by simp only[hV,q];exact Bk.pure _⟩⟩;cases H;rename_i x i q;split at H;rename_i l j;split at H;rename_i ag F;refine⟨_,H,λ_ γ h σ I m=>?_⟩;have⟨us,e,h2⟩:=m _ _ j;have⟨u,D,y⟩:=h2.get F;refine⟨u,y,?_⟩;simp only[hV,q,e];refine val λB d=>?_;unfold Instr.extract;simp[D];cases H;rename_i b p c j;split at H;refine⟨_,H,λ_ γ h σ I m=>⟨_,rfl,?_⟩⟩;have⟨O,e2⟩:=m _ _ j;simp only[hV,q];refine val λB d=>?_;cases b with
  |true=>rw[O rfl];rfl
  |false=>rw[e2 rfl];rfl
  refine⟨_,H.2,λz γ h σ I m=>⟨_,rfl,?_⟩⟩;have⟨O,_⟩:=m _ _ j;simp only[hV,q,O (H.1.out z)];exact val λB d=>rfl;refine⟨_,H.2,λz γ h σ I m=>⟨_,rfl,?_⟩⟩;have⟨O,_⟩:=m _ _ j;simp only[hV,q,O (H.1.out z)];exact val λB d=>rfl;cases H;cases H;rename_i t x f q;split at H;rename_i l k ty j A;split at H;rename_i ag F;refine⟨_,H,λ_ γ h σ I m=>?_⟩;have⟨us,e,h2⟩:=m _ _ j;have⟨v,y,w⟩:=BM F h2 h;refine⟨v,y,?_⟩;simp only[hV,q,e];refine val λB d=>?_;unfold rJ at A;split at A;rename_i fs D;split at A;rename_i fl S;split at A;rename_i i hi;cases hz:mv i.size 0 with
  |true=>simp_all
  |false=>rw[hz]at A;simp only[zL,zad,zb9]at A;obtain⟨rfl,rfl⟩:=A;have Q:=Bk.underlying (h:=h) D B d;unfold Instr.field;rw[DM,Q];simp only[D0,S,asAgg,DM,DQ];exact w B d
  cases A;cases A;cases A;cases H;cases H;rename_i t x f q;split at H;rename_i N k ty j A;split at H;rename_i Z J;refine⟨_,H,λ_ γ h σ I m=>?_⟩;have⟨b,o',e,y⟩:=Gr J (m _ _ j);refine⟨_,y,?_⟩;simp only[hV,q];simp_all[MX];cases H;cases H;rename_i t x q;split at H;rename_i N j;have⟨av,h1,h2⟩:=FD (h0:=h0) (W:=W) (M0:=M0) H;refine⟨av,h1,λz γ h σ I m=>?_⟩;have⟨v,y,w⟩:=h2 z γ h _ I (m _ _ j);refine⟨v,y,?_⟩;simp only[hV,q];exact val w;cases H;rename_i t x i q;split at H;rename_i N iv j T;split at H;rename_i n U;have⟨av,h1,h2⟩:=Po (h0:=h0) (W:=W) (M0:=M0) H;refine⟨av,h1,λz γ h σ I m=>?_⟩;have⟨k,e⟩:=HA U (m _ _ T);have⟨v,y,w⟩:=h2 z γ h _ k I (m _ _ j);refine⟨v,y,?_⟩;simp only[hV,q];simp_all;cases H;cases H;rename_i t x lo hi mx q;split at H;rename_i N j;have⟨av,h1,h2⟩:=OL (h0:=h0) (W:=W) (M0:=M0) H;refine⟨av,h1,λz γ h σ I m=>?_⟩;have⟨v,y,w⟩:=h2 z γ h _ σ I m (m _ _ j);refine⟨v,y,?_⟩;simp only[hV,q];exact val w;cases H;rename_i x q;split at H;rename_i N j;split at H;rename_i Z J;refine⟨_,H,λ_ γ h σ I m=>?_⟩;have⟨b,o',e,y⟩:=Gr J (m _ _ j);have Y:=m _ _ j;refine⟨σ x,Y,?_⟩;simp only[hV,q];rw[e];exact Bk.pure _;cases H;cases H;rename_i t C q;split at H;rename_i ps V;split at H;rename_i r hr;refine⟨_,H,λ_ γ h σ I m=>?_⟩;have⟨ws,w,y⟩:=Si hr (yC m V) h;refine⟨.agg ws.toArray,⟨ws,rfl,y⟩,?_⟩;simp only[hV,q];have e:(C.map λx=>(x.1,σ x.2))=(C.toList.map λx=>(x.1,σ x.2)).toArray:=by rw[<-zdx]
  simp_all;cases H;cases H;rename_i c q;split at H;rename_i hc;split at H;rename_i x t G M;have E:c.args=#[x]:=by have:=congrArg List.toArray G;simp at this;exact this
  have L:c.argTypes=#[t]:=by have:=congrArg List.toArray M;simp at this;exact this
  have key:∀(σ:n7->Value) (h:zc) (n:Int),(Bk P (zdn #[t] o.type #[σ x]) h (.int .i64 n))->Bk P (hV σ o) h (.value (.int .i64 n)):=by
   intro σ h n w;have e:hV σ o=(zdn c.argTypes o.type (c.args.map σ) >>= λx=>(zd3 (zd8 x):Sem Next)):=by simp only[hV,q,resolve,hc];rfl
   rw[e,E,L];refine val ?_;simpa using w
  split at H;rename_i s j D;refine⟨_,H,λ_ γ h σ I m=>⟨_,rfl,key σ h _ λB d=>?_⟩⟩;have w:=Bk.underlying (h:=h) D B d;have e:σ x=.string s:=m _ _ j;unfold zdn;simp only[List.getElem?_toArray,List.getElem?_cons_zero,e,DM,w,D0,DQ];rfl;rename_i a n cp el j D;refine⟨_,H,λ_ γ h σ I m=>⟨_,rfl,key σ h _ λB d=>?_⟩⟩;have w:=Bk.underlying (h:=h) D B d;have e:σ x=.slice a n cp:=m _ _ j;unfold zdn;simp only[List.getElem?_toArray,List.getElem?_cons_zero,e,DM,w,D0,DQ];rfl;rename_i N el _ _ j D;split at H;rename_i n U;refine⟨_,H,λ_ γ h σ I m=>⟨_,rfl,key σ h _ λB d=>?_⟩⟩;have w:=Bk.underlying (h:=h) D B d;have⟨a,cp,e⟩:=QS I U (m _ _ j);unfold zdn;simp only[List.getElem?_toArray,List.getElem?_cons_zero,e,DM,w,D0,DQ];rfl;cases H;cases H;cases H;cases H;cases H
def Da(P:EM)(o:n9)(ρ:n7->Option AV):Option Bool:=match o.op with
 |.binOp op t x (.const .nilIface) _=>match ρ x,ρ (.const .nilIface),P.underlying t with
  |some (.g (.a (.d .err b))),Td (.g (.a (.v .nilIface))),Td (.interface _)=>match op with
   |.eql=>Td b
   |.neq=>Td (!b)
   |_=>Te
  |_,_,_=>Te
 |_=>Te
def GG{ρ:n7->Option AV}(H:Da P o ρ=Td b)(m:∀x av,ρ x=Td av->DP γ av (σ x))(h:zc):Bk P (hV σ o) h (.value (.bool b)):=by
 have key:∀{t:Nw} {ms:Array (String×Nw)} {b:Bool} {u:Value},P.underlying t=Td (.interface ms)->((b=Ta/\u=.nilIface)\/(b=Tc/\∃t j,u=.iface t j))->Bk P (ze9 t u .nilIface) h b:=by intro t ms b u k hb B d;have n:=Bk.underlying (h:=h) k B d;unfold ze9 Op.maxDepth;obtain⟨rfl,rfl⟩|⟨rfl,t',j,rfl⟩:=hb;unfold Op.equalIn;rw[DM,n];rfl;unfold Op.equalIn;rw[DM,n];rfl
 unfold Da at H;split at H;rename_i c t x A p;split at H;rename_i b0 ms w q k;have y:σ (.const .nilIface)=.nilIface:=m _ _ q;have⟨u,e,hb⟩:=(show Rd γ.M .err b0 [σ x]from m _ _ w);have z:u=σ x:=ψ e.symm
 subst z;have l:=key k hb;have r:∀c,Bk P (eqGuard c t x (.const .nilIface) (σ x) .nilIface) h ():=by intro c B d;unfold eqGuard;obtain⟨_,i⟩|⟨_,t',j,i⟩:=hb;simp_all;simp_all
 have f:∀c,(binOp c t (σ x) .nilIface=match c with | .eql=>(do pure (.bool (<-ze9 t (σ x) .nilIface))) | .neq=>(do pure (.bool (!(<-ze9 t (σ x) .nilIface))))|_=>binOp c t (σ x) .nilIface):=by intro c;obtain⟨_,i⟩|⟨_,t',j,i⟩:=hb;rw[i];cases c <;> rfl;rw[i];cases c <;> rfl
 simp only[hV,p,y];refine Bk.val ((r c).bind ?_);split at H;simp only[zad]at H;subst H;rw[f];exact l.bind (Bk.pure _);simp only[zad]at H;subst H;rw[f];exact l.bind (Bk.pure _);cases H;cases H;cases H
def CZ(o:n9)(ρ:n7->Option AV):Option (Nw×Nat×Nat):=match o.op with
 |.load t x=>match ρ x with
  |some (.g (.a (.v (.pointer (Td ⟨b,off,Te⟩)))))=>Td (t,b,off)
  |_=>Te
 |_=>Te
def tD(gl:Fr)(b off:Nat)(v:Value):Prop:=∃cs,gl b=Td cs/\cs[off]?=Td v
def pw(gl:Fr)(b:Nat)(g:Option Bool):List LE->Nat->(List AA->Prop)->Prop
 |[],_,K=>K []
 |.int k::l,o,K=>∃x:Int,req g (tD gl b o (.int k x))/\pw gl b g l (o+1) λr=>K (.v (.int k x)::r)
 |.str::l,o,K=>∃x:Bt,req g (tD gl b o (.string x))/\pw gl b g l (o+1) λr=>K (.v (.string x)::r)
 |.bool::l,o,K=>∃x:Bool,req g (tD gl b o (.bool x))/\pw gl b g l (o+1) λr=>K (.v (.bool x)::r)
 |_::_,_,_=>False
def Qp{gl:Fr}{b:Nat}{g:ac8}:∀{l:List LE} {o:Nat} {K:List AA->Prop},pw gl b g l o K->∃vs:List Value,DB vs=DB l/\K (vs.map .v)/\(ij g->∀(j:Nat) (v:Value),vs[j]?=Td v->tD gl b (o+j) v)
 |[],o,K,H=>⟨[],rfl,H,λ_ j v h=>ι h⟩
 |.int k::l,o,K,⟨x,h1,h2⟩=>by
  have⟨vs,e,i,m⟩:=Qp h2;refine⟨.int k x::vs,ϑ e,i,λf j v c=>?_⟩;cases j with
  |zero=>simp at c;subst c;exact h1.out f
  |succ j=>grind
 |.str::l,o,K,⟨x,h1,h2⟩=>by
  have⟨vs,e,i,m⟩:=Qp h2;refine⟨.string x::vs,ϑ e,i,λf j v c=>?_⟩;cases j with
  |zero=>simp at c;subst c;exact h1.out f
  |succ j=>grind
 |.bool::l,o,K,⟨x,h1,h2⟩=>by
  have⟨vs,e,i,m⟩:=Qp h2;refine⟨.bool x::vs,ϑ e,i,λf j v c=>?_⟩;cases j with
  |zero=>simp at c;subst c;exact h1.out f
  |succ j=>grind
 |.sl::_,_,_,H=>H.elim
 |.mp::_,_,_,H=>H.elim
 |.ptr::_,_,_,H=>H.elim
 |.raw::_,_,_,H=>H.elim
def Md(P:EM)(gl:Fr)(t:Nw)(b off:Nat)(g:Option Bool)(K:AV->Prop):Prop:=match kX P t with
 |some (.one a)=>pw gl b g [a] off λr=>match r with
  |[x]=>K (.g (.a x))
  |_=>False
 |some (.agg l)=>pw gl b g l off λr=>K (.g (.agg r))
 |none=>False
def AN(P:EM)(o:n9)(ρ:n7->Option AV):Option (Nat×Nat×Int×Nat×Nat):=match o.op with
 |.indexAddr t x i=>match ρ x,ρ i,P.underlying t with
  |some (.g (.a (.v (.pointer (Td ⟨b,off,Te⟩))))),Td (.g (.a (.v (.int _ n)))),Td (.array len el)=>bif yf P el then Td (b,off,n,len,yo P el)else Te
  |_,_,_=>Te
 |_=>Te
def qA(P:EM)(gl:Fr)(o:n9)(ρ:n7->Option AV)(g:Option Bool)(cs:CS)(K:AV->Prop):Prop:=match DV P o ρ with
 |some b=>K (.g (.a (.v (.bool b))))
 |none=>match Da P o ρ with
  |some b=>K (.g (.a (.v (.bool b))))
  |none=>match CZ o ρ with
   |some (t,b,off)=>Md P gl t b off g K
   |none=>match AN P o ρ with
    |some (b,off,n,len,z)=>req g (0<=n/\n<(len:Int))/\K (.g (.a (.v (.pointer (Td ⟨b,off+n.toNat*z,Te⟩)))))
    |none=>wB P o ρ g cs K
theorem ud{gl:Fr}(J:Fr.le gl M0){ρ:n7->Option AV}{K:AV->Prop}(H:qA P gl o ρ g cs K):
 ∃av,K av/\(ij g->∀γ h σ,Inv h0 W M0 cs γ h->(∀x av,ρ x=Td av->DP γ av (σ x))->∃v,DP γ av v/\Bk P (hV σ o) h (.value v)):=by
 unfold qA at H;split at H;rename_i b hb;exact⟨_,H,λ_ γ h σ _ f=>⟨_,rfl,IE hb f h⟩⟩;split at H;rename_i b hb;exact⟨_,H,λ_ γ h σ _ f=>⟨_,rfl,GG hb f h⟩⟩;split at H;rename_i t b off e;unfold CZ at e;split at e;rename_i t' x C;split at e;rename_i b' c E;simp only[zad,zb9]at e;obtain⟨rfl,rfl,rfl⟩:=e;have key:∀{s:ad0} {vs:ac1} {ag:AG},lN P t'=Td s->vs.length=mC s->mP s (vs.map .v)=Td ag->(ij g->∀(j:Nat) (v:Value),vs[j]?=Td v->tD gl b' (c+j) v)->ij g->∀γ h σ,Inv h0 W M0 cs γ h->(∀x av,ρ x=Td av->DP γ av (σ x))->∃u,DP γ (.g ag) u/\Bk P (hV σ o) h (.value u):=by intro s vs ag T U S V e γ h σ I f;have D:σ x=.pointer (Td ⟨b',c,Te⟩):=f _ _ E;obtain⟨u,M,A⟩:=Az (γ:=γ) T (u:=σ x) (us:=vs) ⟨_,_,D,λj w Q=>by obtain⟨Y,p,m⟩:=V e j w Q;exact I.ag.cell (I.le _ _ (J _ _ p)) m⟩ U (Qo γ vs) S;exact⟨u,M,by simp only[hV,C];exact Bk.val A⟩
 unfold Md at H;split at H;rename_i a F;obtain⟨vs,p,m,q⟩:=Qp H
 match vs,p,m,q with
 |[v],p,m,q=>exact⟨_,m,key (s:=Te) (by unfold lN;rw[F]) rfl rfl q⟩
 rename_i l F;obtain⟨vs,p,m,q⟩:=Qp H;exact⟨_,m,key (s:=Td l.length) (by unfold lN;rw[F]) p rfl q⟩;cases H;cases e;cases e;split at H;rename_i b off n len z e;unfold AN at e;split at e;rename_i t x i C;split at e;rename_i b' c k r L el E hi D;cases hok:yf P el with
 |false=>simp_all
 |true=>rw[hok]at e;simp only[zK,zad,zb9]at e;obtain⟨rfl,rfl,rfl,rfl,rfl⟩:=e;refine⟨_,H.2,λB γ h σ I f=>⟨_,rfl,?_⟩⟩;have y:σ x=.pointer (Td ⟨b',c,Te⟩):=f _ _ E;have G:σ i=.int k r:=f _ _ hi;obtain⟨h1,h2⟩:=H.1.out B;obtain⟨v,rfl,A⟩:=Qk (P:=P) (t:=t) (x:=.pointer (Td ⟨b',c,Te⟩)) (i:=.int k r) (g:=Te) (K:=λv=>v=.pointer (Td (zab ⟨b',c,Te⟩ (r.toNat*yo P el)))) (λO N=>by simp_all[jv]) (by unfold tj;rw[D];exact⟨_,⟨rfl,h1,h2⟩,rfl⟩);have:=A trivial h;rw[zh]at this;simp only[hV,C,y,G];exact Bk.val this
 cases e;cases e;exact QI H
end
section
variable {M gl:Fr} {u:Value} {P:EM} {f:n4} {γ:Gh} {cs C R:CS} {o:n9} {σ:n7 -> Value} {h:zc} {Post:Value -> zc -> Prop} {tr:Nw}
variable {h0 : zc} {W : Nat -> Prop} {M0 : Fr}
def ig:Ty->Bool
 |.tree=>Ta
 |.unit=>Ta
 |.pair _ _=>Ta
 |_=>Tc
def RdV(M:Fr)(t:Ty)(x:El t)(u:Value):Prop:=if ig t=Ta then ∃cs:List Value,u=.agg cs.toArray/\Rd M t x cs else Rd M t x [u]
theorem RdV.mono{M M':Fr}(c:Fr.le M M'){t:Ty}{x:El t}(h:RdV M t x u):RdV M' t x u:=by unfold RdV at *;by_cases b:ig t=Ta;rw[zA b]at *;grind [Rd.mono];rw[zv b]at *;exact Rd.mono c h
structure Arg where
 t:Ty
 x:El t
def lF(M:Fr)(l:List Arg)(vs:List Value):Prop:=Fk (λ(a:Arg) u=>RdV M a.t a.x u) l vs
@[reducible] def ir:List Ty->Type
 |[]=>Unit
 |[t]=>El t
 |t::t'::l=>El t×ir (t'::l)
def JW:(l:List Ty)->ir l
 |[]=>()
 |[t]=>sS t
 |t::t'::l=>(sS t,JW (t'::l))
def xY(M:Fr):(l:List Ty)->ir l->List Value->Prop
 |[],_,us=>us=[]
 |[t],x,us=>∃u,us=[u]/\RdV M t x u
 |t::t'::l,x,us=>∃u b,us=u::b/\RdV M t x.1 u/\xY M (t'::l) x.2 b
def Yx(M:Fr)(l:List Ty)(x:ir l)(v:Value):Prop:=∃us,xY M l x us/\v=lZ us
def PC(P:EM)(gl:Fr)(f:n4)(args:List Arg)(c:List Ty)(R:ir c->Prop):Prop:=
 ∀(h:zc) (M:Fr) (vs:List Value),Fr.le gl M->AgM M h->lF M args vs->XC P f vs.toArray h λv h'=>
  BT h.size h h'/\∃M' r,Fr.le M M'/\(∀b,b<h.size->M' b=M b)/\AgM M' h'/\Yx M' c r v/\R r
theorem PC.mono{args:List Arg}{b:List Ty}{R c:ir b->Prop}(H:PC P gl f args b R)(n:∀r,R r->c r):PC P gl f args b c:= λh M vs h1 h2 i=>(H h M vs h1 h2 i).mono λv h' ⟨k,M',r,j,o,l,m,e⟩=>⟨k,M',r,j,o,l,m,n r e⟩
theorem RdV.bd{t:Ty}{x:El t}(h:RdV M t x u):Bd t x:=by unfold RdV at h;split at h;have⟨cs,_,h⟩:=h;exact h.bd;exact h.bd
theorem PC.bd{args:List Arg}{e:List Ty}{R:ir e->Prop}(H:(∀a∈args,Bd a.t a.x)->PC P gl f args e R):PC P gl f args e R:=by
 intro h M vs h1 h2 c;refine H ?_ h M vs h1 h2 c;clear H h1 h2;induction args generalizing vs with
 |nil=>simp
 |cons a args i=>
  cases vs with
  |nil=>cases c
  |cons u us=>intro b hb;obtain rfl|hb:=zal.1 hb;exact RdV.bd c.1;exact i us c.2 b hb
def tO(t:Ty)(x:El t):AG:=bif ig t then .agg (Wc t x)else(match Wc t x with
 |[y]=>.a y
 |l=>.agg l)
def AR{t:Ty}{x:El t}(h:RdV γ.M t x u):PT γ (tO t x) u:=by
 unfold RdV at h;unfold tO;split at h;rename_i c;rw[c];have⟨cs,e,h⟩:=h;exact⟨cs,e,Zi h⟩;rename_i c;have f:ig t=Tc:=ψ c
 rw[f];simp only[zL];have b:=Zi (γ:=γ) h
 match hx:Wc t x,b with
 |[y],b=>exact b.1
 |[],b=>cases b
 |_::_::_,b=>exact b.2.elim
def xA:(l:List Ty)->ir l->List AG
 |[],_=>[]
 |[t],x=>[tO t x]
 |t::t'::l,x=>tO t x.1::xA (t'::l) x.2
def FY{γ:Gh}:∀{l:List Ty} {x:ir l} {us:ac1},xY γ.M l x us->Fk (PT γ) (xA l x) us
 |[],_,_,h=>by rw[h];trivial
 |[_],_,_,⟨u,e,h⟩=>by rw[e];exact⟨AR h,trivial⟩
 |_::_::_,_,_,⟨u,us,e,h,h'⟩=>by rw[e];exact⟨AR h,FY h'⟩
def pJ(l:List Ty)(x:ir l):AV:=match xA l x with
 |[g]=>.g g
 |gs=>.tup gs
def M1{l:List Ty}{x:ir l}{v:Value}(h:Yx γ.M l x v):DP γ (pJ l x) v:=by
 obtain⟨us,h,rfl⟩:=h;have b:=FY (γ:=γ) h;unfold pJ;generalize xA l x=gs at *
 match gs,us,b with
 |[],[],_=>exact⟨[],rfl,trivial⟩
 |[g],[u],b=>exact b.1
 |g::g'::gs,u::u'::us,b=>exact⟨_,rfl,b⟩
 |[],_::_,b=>cases b
 |_::_,[],b=>cases b
 |[_],_::_::_,b=>exact b.2.elim
 |_::_::_,[_],b=>exact b.2.elim
def ni(P:EM)(tr:Nw):Nat->Nw->Option Ty
 |0,_=>Te
 |n+1,t=>bif mv t tr then Td .tree else match P.underlying t with
  |some (.int k)=>Td (.int k)
  |some .bool=>Td .bool
  |some .string=>Td .str
  |some (.slice e)=>match ni P tr n e with
   |some x=>Td (.row x)
   |none=>Te
  |some (.struct fs)=>tysOf P (λt=>ni P tr n t) fs.toList
  |some (.interface _)=>Td .err
  |_=>Te
where tysOf (P:EM) (f:Nw->Option Ty):List Field->Option Ty
 |[]=>Td .unit
 |[x]=>f x.type
 |x::y::l=>match f x.type,tysOf P f (y::l)with
  |some a,some b=>Td (.pair a b)
  |_,_=>Te
def yN(P:EM)(tr:Nw):List Nw->Option (List Ty)
 |[]=>Td []
 |t::l=>match ni P tr 8 t,yN P tr l with
  |some a,some b=>Td (a::b)
  |_,_=>Te
def KG:AA->List Nat
 |.own c=>[c]
 |_=>[]
def qC:List AA->List Nat
 |[]=>[]
 |x::l=>KG x++qC l
def Sr:AV->List Nat
 |.g (.a x)=>KG x
 |.g (.agg l)=>qC l
 |_=>[]
def X6:List AV->List Nat
 |[]=>[]
 |v::l=>Sr v++X6 l
def frzL:List Nat->CS->CS
 |[],C=>C
 |c::l,C=>frzL l (oo c C)
theorem Inv.frzL{C R:CS}{γ:Gh}{h:zc}:∀(l:ac0) {C:CS} {γ:Gh},Inv h0 W M0 (C++R) γ h->∃γ',Inv h0 W M0 (frzL l C++R) γ' h/\Gx Te γ γ'
 |[],C,γ,I=>⟨γ,I,Gx.refl _ _⟩
 |c::l,C,γ,I=>by have⟨j,f,g1⟩:=Inv.freeze c C [] I;have⟨b,e,g2⟩:=Inv.frzL (C:=C) (γ:=γ) l f;exact⟨b,e,g1.1.trans g2.1,λi hi=>⟨(g2.2 i hi).1.trans (g1.2 i hi).1,(g2.2 i hi).2.trans (g1.2 i hi).2⟩⟩
def rO(cs:CS)(t:Ty):AV->Option (El t)
 |.g (.agg l)=>bif ig t then(match collect cs t l with
  |some (y,[])=>Td y
  |_=>Te)else Te
 |.g (.a x)=>bif ig t then Te else mA cs t x
 |_=>Te
def CP(c:l8 γ cs){t:Ty}{av:AV}{y:El t}(h:rO cs t av=Td y)(b:DP γ av u):RdV γ.M t y u:=by
 unfold rO at h;unfold RdV;split at h;rename_i l;cases ha:ig t with
 |false=>simp_all
 |true=>
  rw[ha]at h;simp only[zK]at h;split at h;rename_i k i;simp only[zad]at h;subst h;have⟨us,e,h2⟩:=b;obtain⟨c1,c2,rfl,j,f⟩:=Wd c i h2;cases c2 with
  |nil=>simp_all
  |cons _ _=>cases f
  cases h
 rename_i x;cases ha:ig t with
 |true=>simp_all
 |false=>rw[ha]at h;simp only[zca,if_false];exact wb c h b
 cases h
def jz(cs:CS):List Ty->List AV->Option (List Arg)
 |[],[]=>Td []
 |t::ts,v::vs=>match rO cs t v,jz cs ts vs with
  |some x,some l=>Td (⟨t,x⟩::l)
  |_,_=>Te
 |_,_=>Te
def xg{γ:Gh}{cs:CS}(b:l8 γ cs):∀{ts:List Ty} {vs:List AV} {l:List Arg},jz cs ts vs=Td l->∀{us:ac1},Fk (DP γ) vs us->lF γ.M l us
 |[],[],l,h,[],_=>by simp only[jz,zad]at h;subst h;trivial
 |[],[],_,_,_::_,hd=>hd.elim
 |t::ts,v::vs,l,h,[],hd=>hd.elim
 |t::ts,v::vs,l,h,u::us,hd=>by simp only[jz]at h;split at h;rename_i x c h1 h2;simp only[zad]at h;subst h;exact⟨CP b h1 hd.1,xg b h2 hd.2⟩;cases h
 |[],_::_,_,h,_,_=>by simp[jz]at h
 |_::_,[],_,h,_,_=>by simp[jz]at h
def oK(ρ:n7->Option AV):List n7->Option (List AV)
 |[]=>Td []
 |x::l=>match ρ x,oK ρ l with
  |some v,some vs=>Td (v::vs)
  |_,_=>Te
def tH{γ:Gh}{ρ:n7->Option AV}{σ:n7->Value}(b:∀x av,ρ x=Td av->DP γ av (σ x)):∀{l:List n7} {vs:List AV},oK ρ l=Td vs->Fk (DP γ) vs (l.map σ)
 |[],vs,h=>by simp only[oK,zad]at h;subst h;trivial
 |x::l,vs,h=>by simp only[oK]at h;split at h;rename_i v c h1 h2;simp only[zad]at h;subst h;exact⟨b _ _ h1,tH b h2⟩;cases h
def ExA(P:EM)(s:Sem Next)(h:zc)(Post:Value->zc->Prop):Prop:=∀B d,
 (∃v b h',s.run P (mk B d h)=.ok (.value v) (mk B b h')/\Post v h') \/
 (∃b h',s.run P (mk B d h)=.ok .skip (mk B b h')/\Post undef h') \/
 (∃f args,s.run P (mk B d h)=.ok (.enter f args) (mk B d h)/\XC P f args h Post)
theorem ExA.upon(H:ExA P (hV σ o) h Post)(B:Nd)(d:Nat){a:Act}{next:Act->Nd->Prop}{Q:Exit->Act->Nd->Prop}(i:∀v c h',Post v h'->next (a.put o.dst v) (mk B c h')):o.upon P a next Q ((hV σ o).run P (mk B d h)):=by obtain⟨v,c,h',e,b⟩|⟨c,h',e,b⟩|⟨f,args,e,j⟩:=H B d;exact upon_value e (i _ _ _ b);exact PI e (i _ _ _ b);rw[e];refine(j B d).mono ?_;simp_all
theorem ExA.mono{s:Sem Next}{Post b:vvv}(H:ExA P s h Post)(c:∀v h',Post v h'->b v h'):ExA P s h b:=λB d=>by obtain⟨v,i,h',e,q⟩|⟨i,h',e,q⟩|⟨f,args,e,j⟩:=H B d;grind;grind;exact .inr (.inr ⟨f,args,e,j.mono c⟩)
def kj(h0:zc)(W:Nat->Prop)(M0:Fr)(R:CS)(γ:Gh)(K:AV->CS->Option Nat->Prop)(v:Value)(h':zc):Prop:=
 ∃av b c γ',K av b c/\DP γ' av v/\Inv h0 W M0 (b++R) γ' h'/\Gx c γ γ'
theorem Ax(b:Fr.le gl M0){ρ:n7->Option AV}{K:AV->CS->Option Nat->Prop}(H:qA P gl o ρ Te (C++R) λav=>K av C Te)(I:Inv h0 W M0 (C++R) γ h)(f:∀x av,ρ x=Td av->DP γ av (σ x)):ExA P (hV σ o) h (kj h0 W M0 R γ K):=by have⟨av,h1,h2⟩:=ud (h0:=h0) (W:=W) (M0:=M0) b H;have⟨v,c,e⟩:=h2 trivial γ h σ I f;exact λB d=>.inl ⟨v,d,h,e B d,av,C,Te,γ,h1,c,I,Gx.refl _ _⟩
def rK:n7->Option n4
 |.func f=>Td f
 |_=>Te
def AW(P:EM)(tr:Nw)(f:n4):Option (List Ty×List Ty):=match P.funcs[f]? with
 |some fn=>match yN P tr fn.params.toList,yN P tr fn.resultTypes.toList with
  |some a,some b=>Td (a,b)
  |_,_=>Te
 |none=>Te
def BK(P:EM)(gl:Fr)(tr:Nw)(o:n9)(ρ:n7->Option AV)(C R:CS)(K:AV->CS->Prop):Prop:=
 match o.op with
 |.call c=>match c.callee with
  |.value x=>match rK x with
   |some f=>bif zy P f then(match AW P tr f,oK ρ c.args.toList with
    |some (ts,rt),some vs=>match jz (frzL (X6 vs) C++R) ts vs with
     |some args=>PC P gl f args rt λr=>K (pJ rt r) (frzL (X6 vs) C)
     |none=>False
    |_,_=>False)else False
   |none=>False
  |_=>False
 |_=>False
def pa(P:EM)(gl:Fr)(tr:Nw)(o:n9)(ρ:n7->Option AV)(b:Bool)(cs:CS)(K:AV->Prop):Prop:=
 match o.op with
 |.call c=>match c.callee with
  |.value x=>match rK x with
   |some f=>bif zy P f then(match AW P tr f,oK ρ c.args.toList with
    |some (ts,rt),some vs=>match jz cs ts vs with
     |some args=>∃J:ir rt->Prop,(b=Ta->PC P gl f args rt J)/\∀r,(b=Ta->J r)->K (pJ rt r)
     |none=>False
    |_,_=>False)else False
   |none=>False
  |_=>False
 |_=>False
def wK{x:n7}(h:rK x=Td f):x=.func f:=by unfold rK at h;grind
def v7{c:Call}(e:o.op=.call c)(i:c.callee=.value (.func f))(b:zy P f=Ta)(h:σ (.func f)=.func (.func f) #[] #[])(w:Nd):(hV σ o).run P w=.ok (.enter f (c.args.map σ)) w:=by simp only[hV,e,resolve,i,h,zeo,DM,DQ,D0,invoke];rw[Ba b];simp
def wF(c:Fr.le gl M0){args:List Arg}{b:List Ty}{i:ir b->Prop}(H:PC P gl f args b i)(I:Inv h0 W M0 cs γ h){us:ac1}(m:lF γ.M args us):XC P f us.toArray h λv h'=>∃r γ',i r/\DP γ' (pJ b r) v/\Inv h0 W M0 cs γ' h'/\Gx Te γ γ'/\BT h.size h h':=
 (H h γ.M us (c.trans I.le) I.ag m).mono λv h' ⟨k,M',r,e,o,l,n,j⟩=>
  ⟨r,{ γ with M:=M' },j,M1 (γ:={ γ with M:=M' }) n,I.call k e o l,⟨e,λ_ _=>⟨rfl,rfl⟩⟩,k⟩
def Rr(l:Fr.le gl M0){ρ:n7->Option AV}{K:AV->CS->Option Nat->Prop}(H:BK P gl tr o ρ C R λav n=>K av n Te)(I:Inv h0 W M0 (C++R) γ h)(D:∀f,σ (.func f)=.func (.func f) #[] #[]) (A:∀x av,ρ x=Td av->DP γ av (σ x)):ExA P (hV σ o) h (kj h0 W M0 R γ K):=by
 unfold BK at H;split at H;rename_i c t;split at H;rename_i x z;split at H;rename_i f q;cases hcal:zy P f with
 |false=>simp_all
 |true=>
  rw[hcal]at H;simp only[zK]at H;split at H;rename_i ts F vs J k;split at H;rename_i args b;intro B d;have e:=wK q;subst e;have⟨G,m,g1⟩:=Inv.frzL (C:=C) (γ:=γ) (X6 vs) I;have E:=xg m.fz b ((tH A k).imp λv _ u w=>w.gx g1 rfl);refine .inr (.inr ⟨f,c.args.map σ,v7 t z hcal (D f) _,?_⟩);have p:c.args.map σ=(c.args.toList.map σ).toArray:=by rw[<-zdx]
  rw[p];refine(wF l H m E).mono ?_;rintro v h' ⟨r,γ',h1,h2,y,j,_⟩;exact⟨_,_,Te,γ',h1,h2,y,g1.1.trans j.1,λi hi=>⟨(j.2 i hi).1.trans (g1.2 i hi).1,(j.2 i hi).2.trans (g1.2 i hi).2⟩⟩;cases H;cases H
 cases H;cases H;cases H
def Bw{ρ:n7->Option AV}{b:Bool}{K:AV->Prop}(H:pa P gl tr o ρ b cs K):(b=Tc->∃av,K av) /\(b=Ta->Fr.le gl M0->∀γ h σ,Inv h0 W M0 cs γ h->(∀f,σ (.func f)=.func (.func f) #[] #[])->(∀x av,ρ x=Td av->DP γ av (σ x))->∃f args,(∀w,(hV σ o).run P w=.ok (.enter f args) w)/\XC P f args h λv h'=>∃av γ',K av/\DP γ' av v/\Inv h0 W M0 cs γ' h'/\Gx Te γ γ'/\BT h.size h h'):=by
 unfold pa at H;split at H;rename_i c n;split at H;rename_i x q;split at H;rename_i f l;cases hcal:zy P f with
 |false=>simp_all
 |true=>
  rw[hcal]at H;simp only[zK]at H;split at H;rename_i ts m vs u j;split at H;rename_i args i;have⟨J,h1,h2⟩:=H;refine⟨λhb=>⟨_,h2 (JW m) (λh=>θ)⟩,λhb k γ h σ I t r=>?_⟩;have e:=wK l;subst e;refine⟨f,c.args.map σ,λw=>v7 n q hcal (t f) w,?_⟩;have p:c.args.map σ=(c.args.toList.map σ).toArray:=by rw[<-zdx]
  rw[p];refine(wF k (h1 hb) I (xg I.fz i (tH r j))).mono ?_;grind;cases H;cases H
 cases H;cases H;cases H
end
section
variable {P:EM} {t:Nw} {o:n9} {d:Nat} {C R:CS} {γ:Gh} {h:zc} {σ:n7 -> Value} {av:AV}
variable {h0 : zc} {W : Nat -> Prop} {M0 : Fr}
def Db(P:EM)(t:Nw)(d:Nat)(C R:CS)(K:AV->CS->Option Nat->Prop):Prop:=match VQ P t with
 |some z=>bif ya d R then(bif iY (z.cells.toList.map .v)then False else K (.g (.a (.box d 0))) ((d,.box (z.cells.toList.map .v))::yg d C) (Td d))else False
 |none=>False
theorem yO(c:Nat):∀l:List Value,jD c (l.map .v)=Tc
 |[]=>rfl
 |_::l=>by simp only[zbk,jD,kZ,zL,yO c l]
theorem yH(t:Nw)(v:Value)(B:Nd)(d:Nat)(h:zc):(newVar t v).run P (mk B d h)=.ok ⟨h.size,0,Te⟩ (mk B d (h.push (.cells v.cells t))):=rfl
theorem ZK(b:o.op=.alloc t){K:AV->CS->Option Nat->Prop}(H:Db P t d C R K)(I:Inv h0 W M0 (C++R) γ h):ExA P (hV σ o) h (kj h0 W M0 R γ K):=by
 unfold Db at H;split at H
 ·rename_i z hz;cases hR:ya d R with
  |false=>simp_all
  |true=>
   rw[hR]at H;cases hit:iY (z.cells.toList.map .v)with
   |true=>simp_all
   |false=>
   rw[hit]at H;intro B e;refine .inl ⟨.pointer (Td ⟨h.size,0,Te⟩),e,h.push (.cells z.cells t),?_,_,_,_,lD γ d h.size,H,?_,?_,nG _ _ _⟩;have f:=Wi hz h B e;simp only[hV,b];refine J7 ?_;unfold Instr.alloc;simp_all[DM,D0,yH];simp only[DP,PT,DH,Ql];have:=I.newBox (c:=d) hR (Qo γ z.cells.toList) (yO d _) hit t;omega
 cases H
def mE(t:Nw)(d:Nat)(l:List AA)(C R:CS)(K:AV->CS->Option Nat->Prop):Prop:=
 bif ya d R then(bif jD d l then False else(bif iY l then False else K (.g (.a (.box d 0))) ((d,.box l)::yg d C) (Td d)))else False
theorem On{x:n7}(b:o.op=.box t x){l:List AA}{K:AV->CS->Option Nat->Prop}(H:mE t d l C R K)(I:Inv h0 W M0 (C++R) γ h)(f:Fk (DH γ) l (σ x).cells.toList):ExA P (hV σ o) h (kj h0 W M0 R γ K):=by
 unfold mE at H;cases hR:ya d R with
 |false=>simp_all
 |true=>
  rw[hR]at H;cases hm:jD d l with
  |true=>simp_all
  |false=>
   rw[hm]at H;cases hit:iY l with
   |true=>simp_all
   |false=>
   rw[hit]at H;intro B e;refine .inl ⟨.pointer (Td ⟨h.size,0,Te⟩),e,h.push (.cells (σ x).cells t),?_,_,_,_,lD γ d h.size,H,?_,?_,nG _ _ _⟩;simp only[hV,b];refine J7 ?_;unfold Instr.box;rw[DM,yH];rfl;simp only[DP,PT,DH,Ql];have:=I.newBox (c:=d) hR f hm hit t;omega
def Cu:AA->Bool
 |.v x=>x.oneCell'
 |_=>Ta
def sE:List AA->Bool
 |[]=>Ta
 |x::l=>bif Cu x then sE l else Tc
def Sg{x:AA}{u:Value}(h:Cu x=Ta)(j:DH γ x u):u.oneCell'=Ta:=by
 cases x with
 |v y=>rw[show u=y from j];exact h
 |d t y=>exact Rd.one (show Rd γ.M t y [u]from j) u ξ
 |box c o=>rw[show u=_ from j];rfl
 |own c=>rw[show u=_ from j];rfl
 |oelt c z i o=>have⟨g,_,e⟩:=j;rw[e];rfl
 |elt t y o=>have⟨b,f,cs,e,_⟩:=j;rw[e];rfl
 |dc t xs=>have⟨s,e,_⟩:=j;rw[e];rfl
def Gv{γ:Gh}:∀{l:List AA} {us:ac1},sE l=Ta->Fk (DH γ) l us->∀u∈us,u.oneCell'=Ta
 |[],[],_,_,u,b=>ε b
 |[],_::_,_,h,_,_=>h.elim
 |_::_,[],_,h,_,_=>h.elim
 |x::l,v::us,h,hd,u,b=>by
  simp only[sE]at h;cases hx:Cu x with
  |false=>simp_all
  |true=>rw[hx]at h;obtain rfl|b:=zal.1 b;exact Sg hx hd.1;exact Gv h hd.2 u b
def lK(c:Nat):CS->Bool
 |[]=>Ta
 |(j,_)::l=>bif mv j c then Tc else lK c l
def pH{c:Nat}:∀{l:CS},lK c l=Ta->∀x∈l,x.1≠c
 |[],_,x,b=>ε b
 |(j,k)::l,h,x,b=>by
  simp only[lK]at h;cases hb:mv j c with
  |true=>simp_all
  |false=>rw[hb]at h;obtain rfl|b:=zal.1 b;intro e;simp_all;exact pH h x b
theorem Bq{P:EM}{g o:Nat}:∀(vs:ac1) (i:Nat) (w:Nd),(storeCells ⟨g,o,Te⟩ vs i).run P w=(storeCells ⟨g,0,Te⟩ vs (o+i)).run P w
 |[],i,w=>rfl
 |v::vs,i,w=>by unfold storeCells;rw[DM,DM,zh,zh,zax];congr 1;funext a w';exact Bq vs (i+1) w'
def Yy{n:Nat}(hi:yf P t=Ta)(i:yo P t=n){b o:Nat}{cs:ac2}{T:Nw}(e:h[b]?=Td (.cells cs T (0,0))){v:Value}(l:v.cells.size=n)(m:o+n<=cs.size)(h1:∀u∈v.cells.toList,u.oneCell'=Ta)(B:Nd)(d:Nat):∃h',(zae t (.pointer (Td ⟨b,o,Te⟩)) v).run P (mk B d h)=.ok () (mk B d h')/\h'[b]?=Td (.cells (cs.toList.take o++v.cells.toList++cs.toList.drop (o+n)).toArray T (0,0))/\h'.size=h.size/\∀j,j≠b->h'[j]?=h[j]?:=by have⟨h',f,p,c,k⟩:=Jt (P:=P) B d v.cells.toList (o+0) h cs e φ h1;refine⟨h',?_,η,c,k⟩;have hz:=Bk.sizeOf (P:=P) (h:=h) (jv hi).choose_spec B d;unfold zae zem;simp only[DM,DQ,D0];unfold storeVar;rw[DM,hz];simp only[D0];rw[i,l];simp only[ne_eq,not_true_eq_false,if_false];rw[Bq];exact f
theorem Wj{α:Type}{L vs:List α}{p:Nat}(h:p+DB vs<=DB L)(q:Nat):(L.take p++vs++L.drop (p+DB vs))[q]?=ite (q<p) (L[q]?) (ite (q<p+DB vs) (vs[q-p]?) (L[q]?)):=η
theorem KK.set{M:Fr}{t:Ty}{xs:List (El t)}{cells:ac1}(H:KK M t xs cells){i:Nat}(hi:i<DB xs){y:El t}{o:Nat}{vs:ac1}(m:o+DB vs<=sz t) (n:Rd M t y ((((cells.drop (i*sz t)).take (sz t)).take o)++vs++(((cells.drop (i*sz t)).take (sz t)).drop (o+DB vs)))):KK M t (xs.set i y) (cells.take (i*sz t+o)++vs++cells.drop (i*sz t+o+DB vs)):=by
 have c:(i+1)*sz t<=DB cells:=by rw[H.1];exact za6 _ hi
 rw[zc7,ze8]at c;have l:((cells.drop (i*sz t)).take (sz t)).length=sz t:=by rw[zbt,zcw];omega
 refine⟨?_,λj h=>?_⟩;rw[List.length_set,<-H.1];grind;rw[List.length_set]at h;by_cases b:i=j;subst b;rw[List.getElem_set_self];have e:(((cells.take (i*sz t+o)++vs++cells.drop (i*sz t+o+DB vs)).drop (i*sz t)).take (sz t))=(((cells.drop (i*sz t)).take (sz t)).take o)++vs++(((cells.drop (i*sz t)).take (sz t)).drop (o+DB vs)):=by apply zbm;intro k;rw[Wj ω,zbq,zbq,zb1,zb1,Wj ω];by_cases f:k<sz t;grind;grind
 grind;rw[List.getElem_set_ne b];have e:(((cells.take (i*sz t+o)++vs++cells.drop (i*sz t+o+DB vs)).drop (j*sz t)).take (sz t))=(cells.drop (j*sz t)).take (sz t):=by
  apply zbm;intro k;rw[zbq,zbq,zb1,zb1,Wj ω];by_cases f:k<sz t;simp only[f,if_true];obtain h1|h1:=zbv j i;have:(j+1)*sz t<=i*sz t:=za6 _ h1;grind;have h2:i+1<=j:=ω
  have:(i+1)*sz t<=j*sz t:=za6 _ h2;grind;grind
 rw[e];exact H.2 j h
theorem Inv.setRow{h h':zc}(I:Inv h0 W M0 (C++R) γ h){c:Nat}{e:Nw}{t:Ty}{xs j:List (El t)}(u:(c,Ch.row e t xs)∈C){g:Nat}(k:(γ.σ c).a.map (·.block)=Td g)(D:∀i,i≠g->h'[i]?=h[i]?) (G:h'.size=h.size) (w:aa0 h0.size γ h' c (.row e t j)) (J:∀x∈R,x.1≠c):Inv h0 W M0 ((c,.row e t j)::W6 c C++R) γ h':=by
 have r:=I.sep _ (zap R u) g k;have o:∀x∈W6 c C++R,blk γ x.1 x.2≠Td g:=by
  intro x f;have n:x≠(c,Ch.row e t xs):=by rintro rfl;obtain f|f:=zav.1 f;exact(Jh f).2 rfl;grind
  have l:x∈C++R:=((xx c C).append_right R).subset f;have A:=@tz _ (λ(x y:Nat×Ch)=>∀b,blk γ x.1 x.2=Td b->blk γ y.1 y.2≠Td b) (λx y h b hb p=>h b p hb) _ I.apart;intro hb;exact A (zap R u) l (λe=>n e.symm) _ k hb
 have B:Inv h0 W M0 (W6 c C++R) γ h':=by refine I.rest ((xx c C).append_right R) (c:=Te) (Gx.refl _ _) (λx _=>⟨ξ,rfl⟩) (λx f b hb=>?_) (λb z E=>?_) (λi hi F=>?_) ω (λb hb=>rfl);exact⟨D b λq=>o x f (q ▸ hb),(I.sep x (((xx c C).append_right R).subset f) b hb).2⟩;have⟨H,m,q⟩:=I.ag b z E;grind;grind
 refine B.cons w (λb hb=>?_) (λb hb x f=>?_);simp only[blk,k,zad]at hb;grind;simp only[blk,k,zad]at hb;simp_all
def zU(P:EM)(t:Nw)(f:AA)(b:List AA)(C R:CS)(K:AV->CS->Option Nat->Prop):Prop:=
 bif yf P t then(bif mv b.length (yo P t)then(bif sE b then(match f with
 |.box c o=>match Yv C c with
  |some (.box l)=>bif lK c R then(bif (bif iY l then Ta else iY (l.take o++b++l.drop (o+b.length)))then False else(bif Nat.ble (o+b.length) l.length then K (qK undef) ((c,.box (l.take o++b++l.drop (o+b.length)))::W6 c C) Te else False))else False
  |_=>False
 |.oelt c z i o=>match Yv (frzL (qC b) C) c with
  |some (.row e ty xs)=>bif lK c R then(bif mv z (sz ty)then(bif Nat.ble (o+b.length) (sz ty)then ∃y:El ty,xs[i]?=Td y/\(match collect (frzL (qC b) C++R) ty ((Wc ty y).take o++b++(Wc ty y).drop (o+b.length))with
   |some (y',[])=>K (qK undef) ((c,.row e ty (xs.set i y'))::W6 c (frzL (qC b) C)) Te
   |_=>False)else False)else False)else False
  |_=>False
 |_=>False)else False)else False)else False
theorem WR{a x:n7}(ho:o.op=.store t a x){aa:AA}{f:List AA}{K:AV->CS->Option Nat->Prop}(H:zU P t aa f C R K)(I:Inv h0 W M0 (C++R) γ h)(A:Fk (DH γ) f (σ x).cells.toList) (ha:DH γ aa (σ a)):ExA P (hV σ o) h (kj h0 W M0 R γ K):=by
 unfold zU at H;cases hi:yf P t with
 |false=>grind
 |true=>
  rw[hi]at H;cases hn:mv f.length (yo P t)with
  |false=>simp_all
  |true=>
   rw[hn]at H;cases hok:sE f with
   |false=>simp_all
   |true=>
    rw[hok]at H;have M:f.length=yo P t:=zao hn;have r:(σ x).cells.size=yo P t:=by rw[<-M,A.length];simp
    have h1:=Gv hok A;simp only[zK]at H;split at H
    ·rename_i c off;split at H
     ·rename_i l V;cases hR:lK c R with
      |false=>simp_all
      |true=>
       rw[hR]at H;cases hit:iY l with
       |true=>simp_all
       |false=>
       rw[hit]at H;cases hit2:iY (l.take off++f++l.drop (off+f.length))with
       |true=>simp_all
       |false=>
       rw[hit2]at H;simp only[zK,zL]at H;cases hble:Nat.ble (off+f.length) l.length with
       |false=>grind
       |true=>
        rw[hble]at H;have ah:=zci hble;have⟨us,e,h2⟩:=I.den _ (zap R (qp V));obtain⟨⟨T,e⟩,_⟩|⟨s,p,e,_⟩:=e;case inr=>grind [yD]
        have au:=h2.length;intro B d;have⟨h',r1,r2,r3,r4⟩:=Yy (P:=P) hi rfl e (o:=off) r φ h1 B d;refine .inr (.inl ⟨d,h',?_,_,_,_,γ,H,We _ _,?_,Gx.refl _ _⟩);simp only[hV,ho];rw[show σ a=_ from ha];exact qG r1;refine I.setBox (qp V) (us:=us.take off++(σ x).cells.toList++us.drop (off+f.length)) (.inl ⟨⟨T,?_⟩,λs p=>yD hit2 (((h2.take off).append A).append (h2.drop _)) s p⟩) r4 r3 ?_ (pH hR);rw[r2,M];exact((h2.take off).append A).append (h2.drop _)
     cases H
    rename_i c z i off;split at H;rename_i e ty xs V;cases hR:lK c R with
    |false=>simp_all
    |true=>
     rw[hR]at H;cases hz:mv z (sz ty)with
     |false=>simp_all
     |true=>
      rw[hz]at H;cases hble:Nat.ble (off+f.length) (sz ty)with
      |false=>grind
      |true=>
       rw[hble]at H;simp only[zK]at H;have⟨y,hy,H⟩:=H;split at H;rename_i y' O;have ah:=zci hble;have⟨γ1,I1,g1⟩:=Inv.frzL (C:=C) (γ:=γ) (qC f) I;have D:=ha.gx g1 rfl;have ab:=DenL.gx (c:=Te) g1 rfl A;rw[zao hz]at D;have⟨g,hg,af⟩:=D;have n:=qp V;have⟨cells,q,b,m,j⟩:=I1.den _ (zap R n);simp only at q b m j;have w:i<xs.length:=(zbb.1 hy).1;have ai:xs[i]=y:=(zbb.1 hy).2;obtain⟨Z,ar⟩|⟨g',cap,J,Z,aj,ac,ak,G,ae,u⟩:=q.2;omega;simp only[zbc]at Z;have al:g'=g:=by have:=Z.1;rw[hg]at this;simp only[zad,Addr.mk.injEq]at this;exact this.1.symm
       subst al;have E:cells.length=xs.length*sz ty:=b.1;have F:(i+1)*sz ty<=xs.length*sz ty:=za6 _ w;rw[zc7,ze8]at F;have Y:xs.length*sz ty<=cap*sz ty:=za6 _ ω;have am:(σ x).cells.toList.length=f.length:=A.length.symm;intro B d;have⟨h',r1,r2,r3,r4⟩:=Yy (P:=P) hi rfl ac (o:=i*sz ty+off) r (ο ae) h1 B d;refine .inr (.inl ⟨d,h',?_,_,_,_,γ1,H,We _ _,?_,g1⟩);simp only[hV,ho];rw[af];exact qG r1;refine I1.setRow n (g:=g') (π hg) r4 r3 ?_ (pH hR);have hE:=b.2 i w;rw[ai]at hE;have Q:=Zi (γ:=γ1) hE;have U:=((Q.take off).append ab).append (Q.drop (off+f.length));have⟨c1,c2,e1,r5,r6⟩:=Wd I1.fz O U;cases c2 with
       |cons _ _=>cases r6
       |nil=>
        rw[zbi]at e1;rw[<-e1]at r5;have N:=b.set w (o:=off) (vs:=(σ x).cells.toList) ω (ϖ am r5);refine⟨_,⟨?_,.inr ⟨g',cap,_,ϑ Z,aj,r2,ak,G,?_,?_⟩⟩,N,η,η⟩;grind;grind;apply zbm;intro k;have S:(σ x).cells.toList.length=yo P t:=ψ r
        rw[zbq,<-S];simp only;rw[Wj (L:=cells) ω];have an:cells=J.toList.take (xs.length*sz ty):=by rw[<-u,j]
        rw[Wj (L:=J.toList) η,an,j];grind
       cases H
    cases H;cases H
def iX(s:Bt)(p:Nat):Bool:=Nat.blt p s.size
def iQ(s:Bt)(p:Nat):Nat:=bif Nat.blt p s.size then p+(zfa s p).2 else p
def kI(s:Bt)(p:Nat):Int:=((zfa s p).1:Int)
def CN(P:EM)(t:Nw)(av:AV)(d:Nat)(C R:CS)(K:AV->CS->Option Nat->Prop):Prop:=match av,P.underlying t with
 |.g (.a (.v (.string s))),Td .string=>bif ya d R then K (.g (.a (.box d 0))) ((d,.box [.d .iter (s,0)])::yg d C) (Td d)else False
 |_,_=>False
theorem Ss{x:n7}(f:o.op=.range t x){K:AV->CS->Option Nat->Prop}(H:CN P t av d C R K)(I:Inv h0 W M0 (C++R) γ h)(b:DP γ av (σ x)):ExA P (hV σ o) h (kj h0 W M0 R γ K):=by
 unfold CN at H;split at H;rename_i s j;cases hR:ya d R with
 |false=>simp_all
 |true=>rw[hR]at H;intro B e;refine .inl ⟨.pointer (Td ⟨h.size,0,Te⟩),e,h.push (.stringIter s 0),?_,_,_,_,lD γ d h.size,H,?_,?_,nG _ _ _⟩;simp only[hV,f,show σ x=.string s from b];refine J7 ?_;have i:=Bk.underlying (h:=h) j B e;unfold zey;rw[DM,i];rfl;simp only[DP,PT,DH,Ql];exact Inv.newBoxO (c:=d) I hR (l:=[.d .iter (s,0)]) (us:=[Qg s 0]) ⟨rfl,trivial⟩ rfl (.inr ⟨s,0,rfl,rfl⟩)
 cases H
def Ab(av:AV)(C R:CS)(K:AV->CS->Option Nat->Prop):Prop:=match av with
 |.g (.a (.box c 0))=>match Yv C c with
  |some (.box [.d .iter x])=>bif lK c R then K (.nx (iX x.1 x.2) (x.2:Int) (kI x.1 x.2)) ((c,.box [.d .iter (x.1,iQ x.1 x.2)])::W6 c C) Te else False
  |_=>False
 |_=>False
theorem U3{x:n7}(q:o.op=.next x Ta){K:AV->CS->Option Nat->Prop}(H:Ab av C R K)(I:Inv h0 W M0 (C++R) γ h)(A:DP γ av (σ x)):ExA P (hV σ o) h (kj h0 W M0 R γ K):=by
 unfold Ab at H;split at H;rename_i c;split at H;rename_i y f;cases hR:lK c R with
 |false=>simp_all
 |true=>
  rw[hR]at H;simp only[zK]at H;have⟨us,ob,h2⟩:=I.den _ (zap R (qp f));have k:us=[Qg y.1 y.2]:=by
   match us,h2 with
   |[u],h2=>have D:Rd γ.M .iter y [u]:=h2.1;simpa[Rd]using D
  subst k;have b:h[γ.β c]?=Td (.stringIter y.1 y.2):=by
   obtain⟨_,e⟩|⟨s,p,z,F⟩:=ob;grind;have G:y.1=s/\y.2=p:=by simp only[Qg,zcv,Value.iface.injEq,Value.agg.injEq,Array.mk.injEq,Value.string.injEq,Value.int.injEq,and_true,true_and]at z;exact⟨z.1,ω⟩
   grind
  have j:γ.β c<h.size:=(zaq.1 b).1;intro B d;have n:∀(w:Nd),w.heap[γ.β c]?=Td (.stringIter y.1 y.2)->(getObj (γ.β c)).run P w=.ok (.stringIter y.1 y.2) w:=λw e=>by simp[getObj,Sem.run,e]
  have E:∀(w:Nd) (m:Obj),w.heap[γ.β c]?=Td (.stringIter y.1 y.2)->(setObj (γ.β c) m).run P w=.ok () { w with heap:=w.heap.setIfInBounds (γ.β c) m }:=λw m e=>by simp[setObj,Sem.run,e]
  have r:σ x=.pointer (Td ⟨γ.β c,0,Te⟩):=A;by_cases hb:y.2<y.1.size;have l:iX y.1 y.2=Ta:=by simpa[iX,zdl]using hb
  have t:iQ y.1 y.2=y.2+(zfa y.1 y.2).2:=by unfold iQ;rw[show Nat.blt y.2 y.1.size=Ta from l];rfl
  refine .inl ⟨.tuple #[.bool Ta,.int .i64 y.2,.int .i32 (kI y.1 y.2)],d,h.setIfInBounds (γ.β c) (.stringIter y.1 (iQ y.1 y.2)),?_,_,_,_,γ,H,⟨λ_=>rfl,λf=>θ⟩,?_,Gx.refl _ _⟩;simp only[hV,q,r];refine J7 ?_;unfold zdz;simp only;rw[DM,n _ b];simp only[D0,hb,if_true];rw[DM,E _ _ b,t];rfl;refine I.setBox (qp f) (us:=[Qg y.1 (iQ y.1 y.2)]) (.inr ⟨_,_,rfl,ϑ j⟩) (λi hi=>η) ξ ⟨rfl,trivial⟩ (pH hR);have l:iX y.1 y.2=Tc:=by
   cases h:iX y.1 y.2 with
   |false=>rfl
   |true=>exact absurd (by simpa[iX,zdl]using h) hb
  have t:iQ y.1 y.2=y.2:=by unfold iQ;rw[show Nat.blt y.2 y.1.size=Tc from l];rfl
  refine .inl ⟨.tuple #[.bool Tc],d,h,?_,_,_,_,γ,H,⟨λf=>θ,λ_=>rfl⟩,?_,Gx.refl _ _⟩;simp only[hV,q,r];refine J7 ?_;unfold zdz;simp only;rw[DM,n _ b];simp;omega;refine I.setBox (qp f) (us:=[Qg y.1 (iQ y.1 y.2)]) (.inr ⟨_,_,rfl,η⟩) (λi hi=>rfl) rfl ⟨rfl,trivial⟩ (pH hR)
 cases H;cases H
end
section
variable {P:EM} {tr t tx e ty:Nw} {n d m b:Nat} {C R:CS} {γ:Gh} {h:zc} {z u:Value} {xs news:List Value}
variable {h0 : zc} {W : Nat -> Prop} {M0 : Fr}
def Xa(cs:CS)(t:Ty):Nat->List AA->Option (List (El t)×List AA)
 |0,l=>Td ([],l)
 |n+1,l=>match collect cs t l with
  |some (y,l')=>match Xa cs t n l' with
   |some (ys,l'')=>Td (y::ys,l'')
   |none=>Te
  |none=>Te
def CY{γ:Gh}{cs:CS}(c:l8 γ cs){t:Ty}:∀{n:Nat} {l b:List AA} {ys:List (El t)},Xa cs t n l=Td (ys,b)->∀{us:ac1},Fk (DH γ) l us->∃c1 c2,us=c1++c2/\KK γ.M t ys c1/\DB ys=n/\Fk (DH γ) b c2
 |0,l,b,ys,h,us,hu=>by simp only[Xa,zad,zb9]at h;obtain⟨rfl,rfl⟩:=h;exact⟨[],us,rfl,KK.nil _ _,rfl,hu⟩
 |n+1,l,b,ys,h,us,hu=>by simp only[Xa]at h;split at h;rename_i y q h1;split at h;rename_i e r h2;simp only[zad,zb9]at h;obtain⟨rfl,rfl⟩:=h;obtain⟨c1,c2,rfl,i,m⟩:=Wd c h1 hu;obtain⟨j,p,rfl,f,o,k⟩:=CY c h2 m;exact⟨c1++j,p,ξ,ψ ((KK.single i).append f),ϑ o,k⟩;cases h;cases h
def pN(P:EM)(el:Nw)(k:Nat):Option (List Value):=bif mv k 0 then Td []else(match VQ P el with
 |some z=>Td ((zfb k).map (z.cells[· % z.cells.size]!)).toList
 |none=>Te)
def sH:List (Nat×AV)->List AV
 |[]=>[]
 |(_,v)::l=>v::sH l
def Xb(P:EM)(tr:Nw)(t:Nw)(n:Nat)(ps:List (Nat×AV))(d:Nat)(C R:CS)(K:AV->CS->Option Nat->Prop):Prop:=
 match m8 P t with
 |some el=>match ni P tr 8 el,pN P el (n*yo P el)with
  |some ty,some zs=>bif mv (yo P el) (sz ty)then(bif Nat.ble (n*yo P el) 16777216 then(bif Nat.blt 0 (yo P el)then(bif ya d R then(match oe (λi=>Td (i*yo P el,yo P el)) (zs.map .v) ps with
   |some r=>match Xa (frzL (X6 (sH ps)) C++R) ty n r with
    |some (ys,[])=>K (.g (.a (.own d))) ((d,.row el ty ys)::yg d (frzL (X6 (sH ps)) C)) (Td d)
    |_=>False
   |none=>False)else False)else False)else False)else False
  |_,_=>False
 |none=>False
theorem Eg{c:Array (Nat×n7)}{o:n9}(V:o.op=.buildSlice t n c){ps:List (Nat×AV)}{ρ:n7->Option AV}(F:mX ρ c.toList=Td ps){K:AV->CS->Option Nat->Prop}(H:Xb P tr t n ps d C R K) {σ:n7->Value} (I:Inv h0 W M0 (C++R) γ h) (hρ:∀x av,ρ x=Td av->DP γ av (σ x)):ExA P (hV σ o) h (kj h0 W M0 R γ K):=by
 unfold Xb at H;split at H
 ·rename_i el y;have⟨Z,G⟩:=Wg y;split at H
  ·rename_i ty u aa f;cases hz:mv (yo P el) (sz ty)with
   |false=>simp_all
   |true=>
   rw[hz]at H;cases hb1:Nat.ble (n*yo P el) 16777216 with
   |false=>simp_all
   |true=>
   rw[hb1]at H;cases hb2:Nat.blt 0 (yo P el)with
   |false=>simp_all
   |true=>
   rw[hb2]at H;cases hR:ya d R with
   |false=>simp_all
   |true=>
   rw[hR]at H;simp only[zK]at H;split at H
   ·rename_i r Y;split at H
    ·rename_i ys A;have⟨k,N,g1⟩:=Inv.frzL (C:=C) (γ:=γ) (X6 (sH ps)) I;have L:∀x av,ρ x=Td av->DP k av (σ x):=λx av hx=>(hρ x av hx).gx g1 rfl;have⟨ws,e1,T⟩:=W9 Y (Qo k u) (yC L F);obtain⟨c1,c2,rfl,M,O,U⟩:=CY N.fz A T;cases c2 with
     |cons _ _=>cases U
     |nil=>
     rw[zbi]at *;have D:=zao hz;have l:0<yo P el:=by simpa[zdl]using hb2
     have ab:n*yo P el<=16777216:=zci hb1;have hn:n<=n*yo P el:=zec _ l;have ac:c1.length=n*yo P el:=by rw[M.1,O,D]
     intro B e;refine .inl ⟨.slice (Td ⟨h.size,0,Te⟩) n n,e,h.push (.cells c1.toArray el),?_,_,_,_,kb k d ⟨Td ⟨h.size,0,Te⟩,n,n⟩,H,?_,?_,?_⟩;have w:=Bk.underlying (h:=h) Z B e;have hs:=Bk.sizeOf (P:=P) (h:=h) (jv G).choose_spec B e;have S:(c.map λx=>(x.1,σ x.2)).toList=c.toList.map λx=>(x.1,σ x.2):=by rw[zdx]
     have Q:zfe (λi=>Td (i*yo P el,yo P el)) u.toArray (c.map λx=>(x.1,σ x.2)).toList=Td c1.toArray:=ϖ S e1
     simp only[hV,V];refine J7 ?_;unfold Instr.buildSlice;rw[DM,w];simp only[D0];rw[DM,hs];simp only[D0];rw[zv ω];unfold pN at f;by_cases j:n*yo P el=0;rw[zA j];rw[j]at f ⊢;simp at f;subst f;simp only[DM,DQ,D0];have m:Array.map (λx=>(#[]:ac2)[x % (#[]:ac2).size]!) (zfb 0)=([]:ac1).toArray:=ξ
     rw[m,Q];rfl;rw[zv j];have hb:mv (n*yo P el) 0=Tc:=by
      cases hh:mv (n*yo P el) 0 with
      |false=>rfl
      |true=>simp_all
     rw[hb]at f;simp only[zL]at f;split at f;rename_i z J;have E:=Wi J h B e;simp only[zad]at f;rw[DM,E];simp only[D0,DM,DQ];have m:Array.map (λx=>z.cells[x % z.cells.size]!) (zfb (n*yo P el))=u.toArray:=by rw[<-f]
     rw[m,Q];rfl;cases f;simp only[DP,PT,DH,yp];rfl;refine N.newRow hR ξ (p:=Te) (λi hi _=>η) (λb hb=>ε hb) (cells:=c1) ⟨η,.inr ⟨h.size,n,c1.toArray,rfl,I.size,ye _ _,zac _,by unfold maxLen;omega,θ,?_⟩⟩ (λq w=>.inr (by cases w;rfl)) M ω O.symm;grind;exact⟨g1.1,λi hi=>⟨((Q0 k d _).2 i hi).1.trans (g1.2 i ξ).1,((Q0 k d _).2 i hi).2.trans (g1.2 i ξ).2⟩⟩
    cases H
   cases H
  cases H
 cases H
def Yz{n sz:Nat}{s:Sl}{cells:ac1}(k:Arr n h s.a cells)(f:cells.length=s.len*sz)(c:0<sz)(B:Nd)(d:Nat):(zdb sz s.len (.slice s.a s.len s.cap)).run P (mk B d h)=.ok cells.toArray (mk B d h):=by
 obtain rfl|⟨b,o,e,_,l⟩:=k;have h0:s.len=0:=by obtain h0|h0:=zei s.len;exact h0;have:=Nat.mul_pos h0 c;grind
 rw[h0];cases s.a with
 |none=>simp[zdb]
 |some p=>simp[zdb,loadCells,loadCellsFrom]
 rw[e];exact run_firstCells_some (mk B d h) sz s.len ⟨b,o,Te⟩ s.len s.cap cells f λj u i=>by rw[zh];exact l j u i
def Mp{n sz:Nat}{s:Sl}{cells:ac1}(e:Arr n h s.a cells)(c:cells.length=s.len*sz)(b:0<sz)(h1:∀u∈cells,u.oneCell'=Ta){tx f:Nw}(i:P.underlying tx=Td (.slice f))(B:Nd)(d:Nat):Src P sz tx (aK s) s.len cells (mk B d h):=
 ⟨.inl ⟨f,i⟩,λ_=>rfl,Yz e c b B d,Yz e c b B (d+1),c,h1⟩
def Ku{g o:Nat}{b:ac2}{T:Nw}(c:h[g]?=Td (.cells b T (0,0))){vs:ac1}(k:o+DB vs<=b.size)(h1:∀u∈vs,u.oneCell'=Ta)(B:Nd)(d:Nat):∃h',(storeCells ⟨g,o,Te⟩ vs 0).run P (mk B d h)=.ok () (mk B d h')/\h'[g]?=Td (.cells (b.toList.take o++vs++b.toList.drop (o+DB vs)).toArray T (0,0))/\h'.size=h.size/\∀j,j≠g->h'[j]?=h[j]?:=by have⟨h',l,e,i,f⟩:=Jt (P:=P) B d vs (o+0) h b c ω h1;grind [Bq]
def Xc{sz bytes:Nat}(T:JT P t e z sz bytes){base:Nat}{s:Sl}(j:xs.length=s.len*sz)(k:∀B d,(zdb sz s.len (aK s)).run P (mk B d h)=.ok xs.toArray (mk B d h)) {x:Value} (y:∀B d,Src P sz tx x m news (mk B d h)) (b:(s.len+m)*bytes<=140737488355328) (u:s.len+m<=140737488355328) (p:base<=h.size) (A:s.cap<s.len+m) (B:Nd) (d:Nat):∃c blk,(zaj #[t,tx] ty #[aK s,x]).run P (mk B d h)=.ok (.slice (Td ⟨h.size,0,Te⟩) (s.len+m) c) (mk B (d+1) (h.push (.cells blk e)))/\s.len+m<=c/\c<=maxLen/\blk.size=c*sz/\blk.toList.take ((s.len+m)*sz)=xs++news:=by
 have⟨i,hi,hz,q,n⟩:=T.info;subst q;subst n;have r:=y B d;have f:=r.newsLen;have w:=run_append_grow_src (P:=P) (mk B d h) t tx ty e i z T.slice hi hz s.a s.len s.cap xs (k B (d+1)) x m news r A ω (growslice_fits ω b);have l:=grownCap_ge (mk B d h) (s.len+m) s.cap e;have o:=grownCap_le_maxLen (mk B d h) (s.len+m) s.cap e (by unfold maxLen;omega);generalize grownCap (mk B d h) (s.len+m) s.cap e=c at *;refine⟨c,_,w,l,o,?_,?_⟩;simp only[Array.size_append,List.size_toArray,size_zeroCells,zah,T.zero,j,f,<-zc7];grind;simp only[Array.toList_append];have:(xs++news).length=(s.len+m)*i.size:=by rw[zah,j,f,zc7]
 grind
def Y0{sz bytes:Nat}(T:JT P t e z sz bytes){h h':zc}{s:Sl}{x:Value}{B:Nd}(c:Src P sz tx x m news (mk B d h))(b:s.len+m<=s.cap)(j:∀p,s.a=Td p->(storeCells (p.add (s.len*sz)) news 0).run P (mk B d h)=.ok () (mk B d h')) (f:s.a=Te->h'=h):(zaj #[t,tx] ty #[aK s,x]).run P (mk B d h)=.ok (.slice s.a (s.len+m) s.cap) (mk B d h'):=by
 have⟨i,hi,hz,n,o⟩:=T.info;subst n;have l:=T.slice;unfold aK;obtain⟨q,k⟩|k:=c.kind;cases ha:s.a with
 |none=>rw[f ha];simp[zaj,run_underlying l,run_underlying k,sizeOf,typeInfo,hi,c.len,b,c.cells]
 |some p=>simp[zaj,run_underlying l,run_underlying k,sizeOf,typeInfo,hi,c.len,b,c.cells,j p ha]
 cases ha:s.a with
 |none=>rw[f ha];simp[zaj,run_underlying l,run_underlying k,sizeOf,typeInfo,hi,c.len,b,c.cells]
 |some p=>simp[zaj,run_underlying l,run_underlying k,sizeOf,typeInfo,hi,c.len,b,c.cells,j p ha]
def Wk{sz bytes:Nat}(T:JT P t e z sz bytes){base:Nat}{s:Sl}(H:Fd h base e sz s xs){x:Value}(V:∀B d,Src P sz tx x m news (mk B d h)) (k:(s.len+m)*bytes<=140737488355328) (r:s.len+m<=140737488355328) (f:base<=h.size) {K:vvv} (I:∀(C:Sl) (h':zc),C.len=s.len+m->Fd h' base e sz C (xs++news)->(∀i,i<h.size->(∀p,s.a=Td p->i≠p.block)->h'[i]?=h[i]?)->h.size<=h'.size->(∀q,C.a=Td q->(∃p,s.a=Td p/\q.block=p.block)\/q.block=h.size)->K (aK C) h'):qq P (zaj #[t,tx] ty #[aK s,x]) h K:=by
 intro B d;have D:=V B d;have w:=D.newsLen;have l:=H.1;have u:=H.arr;by_cases b:s.len+m<=s.cap;obtain⟨A,aa⟩|⟨g,cap,J,A,M,hg,ab,F,O,n⟩:=H.2;simp only[zbc]at A;have⟨Z,e2,e3⟩:=A;have hm:m=0:=ω
 subst hm;have Y:news=[]:=za4 (ψ w);subst Y;have y:=Y0 (P:=P) (ty:=ty) T (s:=s) (h':=h) D b (λp hp=>θ) (λ_=>rfl);refine⟨_,d,h,y,I ⟨s.a,s.len+0,s.cap⟩ h rfl ?_ (λ_ _ _=>rfl) (zac _) (λq j=>θ)⟩;simp;omega;simp only[zbc]at A;have⟨Z,_,e3⟩:=A;have G:h[g]?=Td (.cells J e (0,0)):=hg;have Q:(s.len+m)*sz<=cap*sz:=za6 _ ω;rw[zc7]at Q;have⟨h',r1,r2,r3,r4⟩:=Ku (P:=P) G (o:=s.len*sz) (vs:=news) (ο O) D.one B d;have y:=Y0 (P:=P) (ty:=ty) T (s:=s) (h':=h') D b (λp hp=>by simp_all[zh,zax]) (λY=>θ);refine⟨_,d,h',y,I ⟨s.a,s.len+m,s.cap⟩ h' rfl ⟨?_,.inr ⟨g,cap,_,?_,M,r2,θ,F,?_,?_⟩⟩ (λi hi E=>r4 i λe'=>E _ Z e') ω (λq j=>.inl ⟨q,j,rfl⟩)⟩;grind;grind;grind;simp only;rw[n];have:(xs++news).length=(s.len+m)*sz:=by rw[zah,l,w,zc7]
 grind;have⟨c,blk,y,U,N,S,L⟩:=Xc (P:=P) (ty:=ty) (base:=base) T l (λB d=>Yz u l T.pos B d) V k r f ω B d;refine⟨_,d+1,_,y,I ⟨Td ⟨h.size,0,Te⟩,s.len+m,c⟩ _ rfl ⟨?_,.inr ⟨h.size,c,blk,rfl,f,ye _ _,U,N,S,L⟩⟩ (λi hi _=>η) ξ (λq j=>.inr (by cases j;rfl))⟩;grind
def nh(s:Bt):List Int:=s.data.toList.map λb=>(b.toNat:Int)
def IG:(ty:Ty)->Bt->Option (List (El ty))
 |.int .u8,s=>Td (nh s)
 |_,_=>Te
def oD(P:EM)(cs:CS)(tx:Nw)(ty:Ty):AV->Option (List (El ty))
 |.g (.a (.v (.string s)))=>match P.underlying tx with
  |some .string=>IG ty s
  |_=>Te
 |.g (.a (.v (.slice Te 0 0)))=>match P.underlying tx with
  |some (.slice _)=>Td []
  |_=>Te
 |.g (.a aa)=>match P.underlying tx with
  |some (.slice _)=>match aa1 cs aa with
   |some r=>Qz (.row r.1) (.row ty) r.2
   |none=>match aa with
    |.own c=>match Yv cs c with
     |some (.row _ t xs)=>Qz (.row t) (.row ty) xs
     |_=>Te
    |_=>Te
  |_=>Te
 |_=>Te
theorem KK.bytes(M:Fr)(s:Bt):KK M (.int .u8) (nh s) (byteCells s):=by
 have c:(byteCells s).length=(nh s).length:=by unfold byteCells nh;simp
 refine⟨by rw[c];simp[sz],λi hi=>?_⟩;have b:i<(byteCells s).length:=ϖ c hi
 have e:(byteCells s)[i]=.int .u8 (nh s)[i]:=by simp only[byteCells,nh,List.getElem_map]
 have f:((byteCells s).drop (i*1)).take 1=[(byteCells s)[i]]:=by rw[Nat.mul_one,List.drop_eq_getElem_cons b];rfl
 show((byteCells s).drop (i*1)).take 1=[.int .u8 (nh s)[i]];rw[f,e]
theorem Y1{t t':Ty}{xs:List (El t)}{ys:List (El t')}(h:Qz (.row t) (.row t') xs=Td ys):∃e:t=t',ys=e ▸ xs:=by unfold Qz at h;grind
def E7{cs:CS}(I:Inv h0 W M0 cs γ h){ty:Ty}{av:AV}{ys:List (El ty)}(b:oD P cs tx ty av=Td ys)(m:0<sz ty)(o:DP γ av u):∃news,KK γ.M ty ys news/\∀B d,Src P (sz ty) tx u (DB ys) news (mk B d h):=by
 have row:∀{t:Ty} {xs:List (El t)} {n:Nat} {s:Sl} {cells:ac1} {p:Nw},Qz (.row t) (.row ty) xs=Td ys->P.underlying tx=Td (.slice p)->u=aK s->s.len=DB xs->KK γ.M t xs cells->Arr n h s.a cells ->
  ∃news,KK γ.M ty ys news/\∀B d,Src P (sz ty) tx u (DB ys) news (mk B d h):=by
  intro t xs n s cells p q i e k l A;have⟨z,w⟩:=Y1 q;subst z;simp only at w;subst w;refine⟨cells,l,λB d=>?_⟩;rw[e,<-k];exact Mp A (by rw[k];exact l.1) m l.one i B d
 unfold oD at b;split at b
 ·rename_i s;split at b
  ·rename_i i;unfold IG at b;split at b;case h_2=>cases b
   simp only[zad]at b;subst b;refine⟨byteCells s,KK.bytes _ s,λB d=>?_⟩;rw[show u=.string s from o];have:=Src.ofString (P:=P) (mk B d h) i s;have e:(nh s).length=s.size:=by unfold nh;rw[List.length_map,Array.length_toList];rfl
   rw[e];exact this
  cases b
 split at b;rename_i p i;simp only[zad]at b;subst b;refine⟨[],KK.nil _ _,λB d=>?_⟩;rw[show u=.slice Te 0 0 from o];exact Src.ofNil (mk B d h) i 0;cases b;rename_i C _ _;split at b;rename_i p i;split at b;rename_i r l;have⟨s,e,k,y,cells,f,x⟩:=(tF I l o).rowC I.ag;grind;split at b;rename_i c _ _ _;split at b;rename_i e t xs q;have⟨cells,j,f,y,k⟩:=I.den _ (qp q);exact row b i (show u=aK _ from o) k f j.arr;cases b;cases b;cases b;cases b
def vP(P:EM)(el:Nw)(ty:Ty):Option Nat:=match P.info? el with
 |some i=>match i.zero with
  |some z=>bif (bif mv i.size (sz ty)then(bif mv z.cells.size i.size then(bif Nat.blt 0 i.size then Nat.blt 0 i.bytes else Tc)else Tc)else Tc)then Td i.bytes else Te
  |none=>Te
 |none=>Te
def IM{t el:Nw}{ty:Ty}(e:P.underlying t=Td (.slice el))(h:vP P el ty=Td b):(∃z,JT P t el z (sz ty) b)/\0<b:=by
 unfold vP at h;split at h
 ·rename_i i hi;split at h
  ·rename_i z hz;cases h1:mv i.size (sz ty)with
   |false=>simp_all
   |true=>
   cases h2:mv z.cells.size i.size with
   |false=>simp_all
   |true=>
   cases h3:Nat.blt 0 i.size with
   |false=>simp_all
   |true=>
   cases h4:Nat.blt 0 i.bytes with
   |false=>simp_all
   |true=>
   rw[h1,h2,h3,h4]at h;simp only[zK,zad]at h;have c:=zao h1;have f:=zao h2;have j:0<i.size:=by simpa[zdl]using h3
   have k:0<i.bytes:=by simpa[zdl]using h4
   exact⟨⟨z,e,⟨i,hi,hz,c,h⟩,by rw[f,c],ω⟩,ω⟩
  cases h
 cases h
def nP(P:EM)(tr:Nw)(t tx:Nw)(bv sv:AV)(d:Nat)(C R:CS)(K:AV->CS->Option Nat->Prop):Prop:=
 match m8 P t with
 |some el=>match ni P tr 8 el with
  |some ty=>match vP P el ty,oD P (C++R) tx ty sv with
   |some b,some ys=>match bv with
    |.g (.a (.v (.slice Te 0 0)))=>bif ya d R then(ys.length*b<=140737488355328/\K (.g (.a (.own d))) ((d,.row el ty ys)::yg d C) (Td d))else False
    |.g (.a (.own c))=>match Yv C c with
     |some (.row e t' xs)=>match Qz (.row t') (.row ty) xs with
      |some xs=>bif mv e el then(bif ya d R then((xs.length+ys.length)*b<=140737488355328/\K (.g (.a (.own d))) ((d,.row el ty (xs++ys))::yg d (W6 c C)) (Td d))else False)else False
      |none=>False
     |_=>False
    |.g (.a (.dc t' xs))=>match Qz (.row t') (.row ty) xs with
     |some xs=>(xs.length+ys.length)*b<=140737488355328/\K (.g (.a (.d (.row ty) (xs++ys)))) C Te
     |none=>False
    |_=>False
   |_,_=>False
  |none=>False
 |none=>False
def xT{n b k:Nat}(hb:0<b)(h:n*b<=k):n<=k:=zb8 (zec _ hb) h
def Ga{tr t tx ty':Nw}{bv sv:AV}{K:AV->CS->Option Nat->Prop}(H:nP P tr t tx bv sv d C R K)(I:Inv h0 W M0 (C++R) γ h){u v:Value} (O:DP γ bv u) (an:DP γ sv v):qq P (zaj #[t,tx] ty' #[u,v]) h (kj h0 W M0 R γ K):=by
 unfold nP at H;split at H
 ·rename_i el aj;have⟨hu,az⟩:=Wg aj;split at H
  ·rename_i ty ay;split at H
   ·rename_i b ys hb ak;have⟨⟨z,T⟩,D⟩:=IM hu hb;have⟨news,n,w⟩:=E7 I ak T.pos an;split at H
    ·cases hR:ya d R with
     |false=>rw[hR]at H;cases H
     |true=>
     rw[hR]at H;have⟨A,S⟩:=H;rw[show u=aK ⟨Te,0,0⟩from O];have G:=xT D A;refine Wk T (Fd.nil h h0.size el (sz ty)) w (ψ A) (ψ G) I.size λs' h' hl r hk hs J=>?_;rw[zcm]at r;simp only[zax]at hl;refine⟨_,_,_,kb γ d s',S,?_,I.newRow hR hs (p:=Te) (λi hi _=>hk i hi ξ) (λb hb=>ε hb) r (λq hq=>?_) n G hl,Q0 _ _ _⟩;simp only[DP,PT,DH,yp];simp_all
    ·rename_i c;split at H
     ·rename_i e t' ar hc;split at H
      ·rename_i xs k;cases hee:mv e el with
       |false=>rw[hee]at H;cases H
       |true=>
       rw[hee]at H;cases hR:ya d R with
       |false=>rw[hR]at H;cases H
       |true=>
       rw[hR]at H;have⟨A,S⟩:=H;have G:=xT D A;have E:=qp hc;have⟨e1,e2⟩:=Y1 k;subst e1;simp only at e2;subst e2;have e3:=zao hee;subst e3;have aa:=I.den _ (zap R E);have⟨cells,l,f,af,F⟩:=aa;simp only at l f F;rw[show u=aK (γ.σ c)from O];refine Wk T l w η ω I.size λs' h' hl r hk hs J=>?_;have V:=I.sep _ (zap R E);have ax:=Yw hR;have al:Inv h0 W M0 (W6 c C++R) γ h:=I.sub ((xx c C).append_right R);refine⟨_,_,_,kb γ d s',S,?_,al.newRow hR hs (p:=(γ.σ c).a.map (·.block)) (λi hi N=>hk i hi λp J e=>N (by rw[J,e];rfl)) (λb hb=>?_) r (λq hq=>?_) (f.append n) θ θ,Q0 _ _ _⟩;simp only[DP,PT,DH,yp];have⟨h1,h2⟩:=V b hb;refine⟨?_,h2,λx Y ae=>?_⟩;simp only[zc5]at hb;obtain⟨p,J,rfl⟩:=hb;exact(l.base_le p J).1;have ah:x∈C++R:=((xx c C).append_right R).subset Y;have N:x≠(c,Ch.row e t' xs):=by rintro rfl;obtain Y|Y:=zav.1 Y;exact(Jh Y).2 rfl;have aE:=I.apart;grind
       have J:=@tz _ (λ(x y:Nat×Ch)=>∀b,blk γ x.1 x.2=Td b->blk γ y.1 y.2≠Td b) (λx y h b hb Z=>h b Z hb) _ I.apart;exact J ah (zap R E) N b ae hb;grind
      cases H
     cases H
    rename_i t' ar;split at H;rename_i xs k;have⟨A,S⟩:=H;have G:=xT D A;have⟨e1,e2⟩:=Y1 k;subst e1;simp only at e2;subst e2;have⟨s,e,aF,ab⟩:=(show ∃s:Sl,u=aK s/\s.cap=s.len/\Rd γ.M (.row t') xs [u]from O);subst e;have⟨s2,e,F,af,cells,f,U⟩:=ab.rowC I.ag;have e':s=s2:=by cases s;cases s2;simp only[aK,zbc]at e;simp[e]
    subst e';have L:cells.length=s.len*sz t':=by rw[F];exact f.1
    intro B dr;by_cases hm:ys.length=0;have am:ys=[]:=za4 hm;subst am;have au:news=[]:=za4 (by rw[n.1];simp);subst au;have hr:=Y0 (P:=P) (ty:=ty') T (s:=s) (h':=h) (w B dr) φ (λp J=>by simp[storeCells]) (λ_=>rfl);refine⟨_,dr,h,hr,_,C,Te,γ,S,?_,I,Gx.refl _ _⟩;rw[zbi];exact ab;have⟨c,j,hr,aG,aC,aD,aB⟩:=Xc (P:=P) (ty:=ty') (base:=0) T L (λB d=>Yz U L T.pos B d) w η ω (Nat.zero_le _) ω B dr;have aA:γ.M h.size=Te:=I.ag.none (zac _);have hM:Fr.le γ.M (iE γ h.size j).M:=by
     intro b cc Q;have:mv b h.size=Tc:=by
      cases hb:mv b h.size with
      |false=>rfl
      |true=>simp_all
     simp[iE,this,Q]
    have ai:AgM (iE γ h.size j).M (h.push (.cells j el)):=by
     intro b cc Q;by_cases hb:b=h.size;subst hb;have:cc=j:=by simp[iE]at Q;exact Q.symm
     simp_all;have:mv b h.size=Tc:=by
      cases Z:mv b h.size with
      |false=>rfl
      |true=>simp_all
     simp only[iE,this,zL]at Q;have⟨T',m,e'⟩:=I.ag b cc Q;grind
    refine⟨_,dr+1,_,hr,_,C,Te,iE γ h.size j,S,?_,I.call (BT.push h _ (zac _)) hM (λb hb=>?_) ai,⟨hM,λ_ _=>⟨rfl,rfl⟩⟩⟩;have ac:=((f.append n).mono hM).rd (b:=h.size) (o:=0) (c:=c) (cs:=j) (by simp[iE]) θ θ;rw[zah,<-F]at ac;exact ac;grind [zao];cases H;cases H
   cases H
  cases H
 cases H
end
section
variable {cs C R:CS} {γ b:Gh} {h:zc} {u:Value} {P:EM} {o:n9} {σ:n7 -> Value} {n:Nat} {gl:Fr} {tr:Nw} {c:qj} {a:Act} {S:List Nat}
variable {h0 : zc} {W : Nat -> Prop} {M0 : Fr}
def wY(b:List Int):Bt:=b.foldl (λr n=>r.push (UInt8.ofNat n.toNat)) ByteArray.empty
def Vz(t:Ty)(xs:List (El t)):Option (List Int):=Qz (.row t) (.row (.int .u8)) xs
def uE(cs:CS):AA->Option ((t:Ty)×List (El t))
 |.own c=>match Yv cs c with
  |some (.row _ t xs)=>Td ⟨t,xs⟩
  |some (.fz t xs)=>Td ⟨t,xs⟩
  |_=>Te
 |aa=>aa1 cs aa
def Ld(I:Inv h0 W M0 cs γ h){n:AA}{r:(t:Ty)×List (El t)}(b:uE cs n=Td r)(j:DH γ n u):∃s:Sl,u=aK s/\s.len=DB r.2/\∃cells,KK γ.M r.1 r.2 cells/\Arr h.size h s.a cells:=by
 unfold uE at b;split at b;split at b;rename_i c e t xs l;simp only[zad]at b;subst b;have⟨cells,f,i,m,k⟩:=I.den _ (qp l);exact⟨_,j,k,cells,i,f.arr⟩;rename_i c t xs l;simp only[zad]at b;subst b;have:Rd γ.M (.row t) xs [u]:=by rw[show u=_ from j];exact I.den _ (qp l)
 have⟨s,e,k,m,cells,h1,h2⟩:=this.rowC I.ag;grind;cases b;have⟨s,e,k,m,cells,h1,h2⟩:=(tF I b j).rowC I.ag;grind
def AC(P:EM)(s t:Nw)(av:AV)(cs:CS)(K:AV->Prop):Prop:=
 match P.underlying s,P.underlying t with
 |some (.slice e),Td .string=>match P.underlying e,av with
  |some (.int .u8),.g (.a aa)=>match uE cs aa with
   |some r=>match Vz r.1 r.2 with
    |some b=>K (.g (.a (.v (.string (wY b)))))
    |none=>False
   |none=>False
  |_,_=>False
 |some (.int _),Td .string=>match av with
  |.g (.a (.v (.int _ n)))=>K (.g (.a (.v (.string (Utf8.encode n)))))
  |_=>False
 |_,_=>False
def Sa{M:Fr}{k:IntKind}:∀{b:ad4} {cells:ac1},KK M (.int k) b cells->cells=b.map (zby k)
 |b,cells,H=>by
  apply zbm;intro i;have c:cells.length=DB b:=by rw[H.1];simp[sz]
  rw[List.getElem?_map];by_cases hi:i<DB b;have:((cells.drop (i*1)).take 1)=[.int k b[i]]:=H.2 i hi;have e:cells[i]?=Td (.int k b[i]):=by
   have h2:((cells.drop (i*1)).take 1)[0]?=Td (.int k b[i]):=by rw[this];rfl
   rw[zbq,zA ω,zb1]at h2;simpa using h2
  simp_all;simp_all
def TB{s t:Nw}{x:n7}(M:o.op=.convert s t x){av:AV}{K:AV->Prop}(H:AC P s t av cs K)(I:Inv h0 W M0 cs γ h)(F:DP γ av (σ x)):∃l v,K l/\DP γ l v/\Bk P (hV σ o) h (.value v):=by
 have val:∀{v:Value},Bk P (convert s t (σ x)) h v->Bk P (hV σ o) h (.value v):=λQ=>by simp only[hV,M];exact Bk.val Q
 unfold AC at H;split at H;rename_i e A q;split at H;rename_i U N;split at H;rename_i r S;split at H;rename_i i z;refine⟨_,.string (wY i),H,rfl,val λB d=>?_⟩;have⟨sl,E,m,cells,f,j⟩:=Ld I S F;have⟨tt,xs⟩:=r;have⟨D,J⟩:=Y1 z;simp only at D;subst D;simp only at J m f;subst J;have O:=Sa f;subst O;have h1:=Bk.underlying (h:=h) A B d;have h2:=Bk.underlying (h:=h) q B d;have T:=Bk.underlying (h:=h) N B d;have c:(Conv.bytesToString (σ x)).run P (mk B d h)=.ok (.string (wY i)) (mk B d h):=by
  rw[E];unfold aK;obtain w|⟨b,G,u,_,y⟩:=j;have C:i=[]:=ψ w
  subst C;simp only[zbx]at m;cases ha:sl.a with
  |none=>simp[Conv.bytesToString,wY]
  |some p=>have:=run_bytesToString (P:=P) (mk B d h) p sl.len sl.cap [] (by rw[m];simp[loadCells,loadCellsFrom]);exact this
  rw[u];refine run_bytesToString (mk B d h) ⟨b,G,Te⟩ sl.len sl.cap i ?_;have:=Yz (P:=P) (h:=h) (n:=b+1) (sz:=1) (s:=sl) (cells:=i.map (zby .u8)) (.inr ⟨b,G,u,ω,y⟩) (υ m) ω B d;rw[u]at this;simpa[zdb]using this
 unfold convert;rw[DM,h1];simp only[D0];rw[DM,h2];simp only[D0];rw[E]at c ⊢;unfold aK at c ⊢;simp_all;cases H;cases H;cases H;rename_i k A q;split at H;rename_i L n;refine⟨_,.string (Utf8.encode n),H,rfl,val λB d=>?_⟩;have h1:=Bk.underlying (h:=h) A B d;have h2:=Bk.underlying (h:=h) q B d;have e:σ x=.int L n:=F;unfold convert;rw[DM,h1];simp only[D0];rw[DM,h2,e];rfl;cases H;cases H
def Fu:BinOp->Option Bool
 |.eql=>Td Ta
 |.neq=>Td Tc
 |_=>Te
def Af(P:EM)(o:n9)(ρ:n7->Option AV)(cs:CS):Option (Bool×Nat):=match o.op with
 |.binOp b t x y _=>match Fu b,ρ x,ρ y with
  |some pol,Td (.g (.a aa)),Td (.g (.a (.v (.slice Te 0 0))))=>match uE cs aa,P.underlying t with
   |some ⟨ty,xs⟩,Td (.slice _)=>bif Nat.blt 0 (sz ty)then Td (pol,xs.length)else Te
   |_,_=>Te
  |_,_,_=>Te
 |_=>Te
theorem N4(e:BinOp)(t:Nw)(x y:n7)(a b:Option n8)(l c f h:Nat)(w:Nd):(eqGuard e t x y (.slice a l c) (.slice b f h)).run P w=.ok () w:=by unfold eqGuard;simp
def SF{ρ:n7->Option AV}{i:Bool}(c:Af P o ρ (C++R)=Td (i,n)){K:AV->CS->Option Nat->Prop}(H:∀b:Bool,(b=Ta->n=0)->K (.g (.a (.v (.bool (cond i b (!b)))))) C Te)(I:Inv h0 W M0 (C++R) γ h) (u:∀x av,ρ x=Td av->DP γ av (σ x)):ExA P (hV σ o) h (kj h0 W M0 R γ K):=by
 unfold Af at c;split at c
 ·rename_i L t x y N z;split at c
  ·rename_i q Q f A G;split at c
   ·rename_i ty xs e J p;cases hz:Nat.blt 0 (sz ty)with
    |false=>rw[hz]at c;cases c
    |true=>
     rw[hz]at c;simp only[zK,zad,zb9]at c;obtain⟨rfl,rfl⟩:=c;have M:0<sz ty:=by simpa[zdl]using hz
     have⟨s,D,O,cells,l,j⟩:=Ld I J (u _ _ A);have w:σ y=.slice Te 0 0:=u _ _ G;have k:s.a.isNone=Ta->DB xs=0:=by
      intro r;have m:cells=[]:=by obtain m|⟨b,o,E,_⟩:=j;exact m;rw[E]at r;cases r
      have:=l.1;rw[m]at this;simp only[zbx]at this;obtain h1|h1:=Nat.mul_eq_zero.1 this.symm;exact h1;omega
     have F:=H s.a.isNone k;intro B d;refine .inl ⟨_,d,h,?_,_,C,Te,γ,F,rfl,I,Gx.refl _ _⟩;simp only[hV,z];refine J7 ?_;rw[D,w];simp only[aK];rw[DM,N4];simp only[D0];cases L <;> simp only[Fu,zad]at f <;> (try (cases f;done)) <;> subst f;simp only[binOp,DM,run_equal_slice_nil _ t _ _ _ _ p];rfl;simp only[binOp,DM,run_equal_slice_nil _ t _ _ _ _ p];rfl
   cases c
  cases c
 cases c
def py(P:EM)(gl:Fr)(tr:Nw)(o:n9)(ρ:n7->Option AV)(C R:CS)(K:AV->CS->Option Nat->Prop):Prop:=
 match o.op with
 |.alloc t=>match o.dst with
  |some d=>Db P t d C R K
  |none=>False
 |.box t x=>match o.dst,ρ x with
  |some d,some av=>match qH av with
   |some l=>mE t d l C R K
   |none=>False
  |_,_=>False
 |.store t a x=>match ρ a,ρ x with
  |some (.g (.a aa)),some xv=>match qH xv with
   |some h=>zU P t aa h C R K
   |none=>False
  |_,_=>False
 |.buildSlice t n b=>match o.dst,mX ρ b.toList with
  |some d,some ps=>Xb P tr t n ps d C R K
  |_,_=>False
 |.convert s t x=>bif l7 P o then qA P gl o ρ Te (C++R) (λav=>K av C Te)else(match ρ x with
  |some av=>AC P s t av (C++R) λe=>K e C Te
  |none=>False)
 |.call c=>match c.callee with
  |.builtin .append=>match c.args.toList,c.argTypes.toList,o.dst with
   |[s,x],[t,tx],some d=>match ρ s,ρ x with
    |some bv,some sv=>nP P tr t tx bv sv d C R K
    |_,_=>False
   |_,_,_=>False
  |.builtin _=>qA P gl o ρ Te (C++R) λav=>K av C Te
  |_=>BK P gl tr o ρ C R λav f=>K av f Te
 |.range t x=>match o.dst,ρ x with
  |some d,some av=>CN P t av d C R K
  |_,_=>False
 |.next x true=>match ρ x with
  |some av=>Ab av C R K
  |none=>False
 |_=>qA P gl o ρ Te (C++R) λav=>K av C Te
theorem toList_eq{α:Type}{x:Array α}{l:List α}(h:x.toList=l):x=l.toArray:=η
theorem MC(j:Fr.le gl M0){ρ:n7->Option AV}{K:AV->CS->Option Nat->Prop}(H:py P gl tr o ρ C R K)(I:Inv h0 W M0 (C++R) γ h)(F:∀f,σ (.func f)=.func (.func f) #[] #[]) (b:∀x av,ρ x=Td av->DP γ av (σ x)):ExA P (hV σ o) h (kj h0 W M0 R γ K):=by
 unfold py at H;split at H;grind [ZK];grind [On,wx];rename_i t a x m;split at H;rename_i N M G q;split at H;rename_i l z;exact WR m H I (wx z (b _ _ q)) (b _ _ G);cases H;cases H;grind [Eg];rename_i s t x m;cases hq:l7 P o with
 |true=>grind [Ax]
 |false=>rw[hq]at H;simp only[zL]at H;split at H;rename_i av p;have⟨u,v,h1,h2,D⟩:=TB m H I (b _ _ p);exact λB d=>.inl ⟨v,d,h,D B d,u,C,Te,γ,h1,h2,I,Gx.refl _ _⟩;cases H
 rename_i c m;split at H;rename_i J;split at H;rename_i s x t tx d i k L;split at H;rename_i bv sv E q;have n:=Ga (ty':=o.type) H I (b _ _ E) (b _ _ q);intro B e;have⟨v,A,h',r,y⟩:=n B e;refine .inl ⟨v,A,h',?_,y⟩;have w:hV σ o=(zaj c.argTypes o.type (c.args.map σ) >>= λx=>(zd3 (zd8 x):Sem Next)):=by simp only[hV,m,resolve,J];rfl
 rw[w,toList_eq i,toList_eq k];simp_all;cases H;cases H;exact Ax j H I b;exact Rr j H I F b;grind [Ss];grind [U3];exact Ax j H I b
def hA(P:EM)(gl:Fr)(tr:Nw)(o:n9)(ρ:n7->Option AV)(C R:CS)(K:AV->CS->Option Nat->Prop):Prop:=match Af P o ρ (C++R)with
 |some (pol,n)=>∀b:Bool,(b=Ta->n=0)->K (.g (.a (.v (.bool (bif pol then b else !b))))) C Te
 |none=>py P gl tr o ρ C R K
theorem VX(i:Fr.le gl M0){ρ:n7->Option AV}{K:AV->CS->Option Nat->Prop}(H:hA P gl tr o ρ C R K)(I:Inv h0 W M0 (C++R) γ h)(j:∀f,σ (.func f)=.func (.func f) #[] #[]) (b:∀x av,ρ x=Td av->DP γ av (σ x)):ExA P (hV σ o) h (kj h0 W M0 R γ K):=by unfold hA at H;split at H;rename_i c n e;exact SF e H I b;grind [MC]
def vl:Option AV->Option AV->Option AV
 |some v,_=>Td v
 |none,w=>w
def DK(b:Bool)(x y:AV):Option AV:=match qN x,qN y with
 |some u,some v=>Td (qK (sd b u v))
 |_,_=>match x,y with
  |.g (.a (.d t xs)),.g (.a (.d t' ys))=>match Qz t' t ys with
   |some ys=>Td (.g (.a (.d t (bif b then xs else ys))))
   |none=>Te
  |_,_=>Te
def Vd{b:Bool}{x y z:AV}(h:DK b x y=Td z){u v:Value}(f:b=Ta->DP γ x u)(c:b=Tc->DP γ y v):DP γ z (ite (b=Ta) u v):=by
 unfold DK at h;split at h;rename_i p q i k;simp only[zad]at h;subst h;have e:(ite (b=Ta) u v)=sd b p q:=by
  rw[Hk];cases b with
  |true=>simp only[if_true];exact Du i (f rfl)
  |false=>simp only[zca,if_false];exact Du k (c rfl)
 rw[e];exact We γ _;split at h;rename_i t xs t' ys _;split at h;rename_i j l;simp only[zad]at h;subst h;cases b with
 |true=>exact f rfl
 |false=>exact W5 l (c rfl)
 cases h;cases h
def xJ(e:q9)(c:qj)(x a b:n7)(K:AV->Prop):Prop:=
 match x with
 |.tmp s=>match mY e s with
  |some (cs,v)=>match pK v with
   |some t=>bif lV cs c then(match vl (iG e c a) (iG e ((s,Ta)::cs) a),vl (iG e c b) (iG e ((s,Tc)::cs) b)with
    |some va,some vb=>match DK t va vb with
     |some z=>K z
     |none=>False
    |_,_=>False)else False
   |none=>False
  |none=>False
 |_=>False
theorem Xd{e:q9}{x a b:n7}{K:AV->Prop}(H:xJ e c x a b K):∃z,K z/\∀(n:Nat) (γ:Gh) (f:Act),Fn n e γ f->CT (ql f) c->∃t,f.eval x=.bool t/\DP γ z (ite (t=Ta) (f.eval a) (f.eval b)):=by
 unfold xJ at H;split at H;rename_i s;split at H;rename_i cs v o;split at H;rename_i t p;cases hsf:lV cs c with
 |false=>simp_all
 |true=>rw[hsf]at H;simp only[zK]at H;split at H;rename_i r u m hb;split at H;rename_i z hz;refine⟨z,H,λn γ f i q=>?_⟩;have h:=J5 hsf q;have l:ql f s=.bool t:=C8 p ((i.all _ (Qm o)).1 h);refine⟨t,l,Vd hz (λk=>?_) (λj=>?_)⟩;unfold vl at m;split at m;grind [zad,qe];exact qe i (c:=(s,Ta)::cs) ⟨by rw[l,k],h⟩ m;unfold vl at hb;split at hb;grind [zad,qe];exact qe i (c:=(s,Tc)::cs) ⟨by rw[l,j],h⟩ hb;cases H;cases H
 cases H;cases H;cases H
def qT(P:EM)(gl:Fr)(tr:Nw)(o:n9)(e:q9)(c:qj)(C R:CS)(K:AV->CS->Option Nat->Prop):Prop:=
 match o.op with
 |.pick x a b=>xJ e c x a b λav=>K av C Te
 |_=>match W8 e c with
  |some none=>hA P gl tr o (iG e c) C R K
  |some (Td b)=>bif sn o then pa P gl tr o (iG e c) b (C++R) (λav=>K av C Te)else qA P gl o (iG e c) (Td b) (C++R) (λav=>K av C Te)
  |none=>False
def Ns(i:Fr.le gl M0){e:q9}{K:AV->CS->Option Nat->Prop}(H:qT P gl tr o e c C R K)(j:Fn n e γ a)(I:Inv h0 W M0 (C++R) γ h)(k:CT (ql a) c):ExA P (hV a.eval o) h (kj h0 W M0 R γ K):=by
 have D:∀f,a.eval (.func f)=.func (.func f) #[] #[]:=λ_=>rfl;have m:∀x av,iG e c x=Td av->DP γ av (a.eval x):=λx av w=>qe j k w;unfold qT at H;split at H;rename_i x y z r;have⟨av,h1,h2⟩:=Xd H;have⟨t,u,E⟩:=h2 n γ a j k;refine λB d=>.inl ⟨_,d,h,?_,av,C,Te,γ,h1,E,I,Gx.refl _ _⟩;simp only[hV,r,u,asBool,DM,DQ,D0];split at H;grind [VX];rename_i b hb;have l:=Zj j hb k;cases hic:sn o with
 |true=>rw[hic]at H;simp only[zK]at H;have⟨f,args,h1,h2⟩:=(Bw (h0:=h0) (W:=W) (M0:=M0) H).2 l i γ h a.eval I D m;refine λB d=>.inr (.inr ⟨f,args,h1 _,h2.mono ?_⟩);rintro v h' ⟨av,γ',g1,g2,F,q,_⟩;exact⟨av,C,Te,γ',g1,g2,F,q⟩
 |false=>rw[hic]at H;simp only[zL]at H;have⟨av,h1,h2⟩:=ud (h0:=h0) (W:=W) (M0:=M0) i H;have⟨v,p,A⟩:=h2 l γ h a.eval I m;exact λB d=>.inl ⟨v,d,h,A B d,av,C,Te,γ,h1,p,I,Gx.refl _ _⟩
 cases H
def Nb{e:q9}{K:AV->CS->Option Nat->Prop}(H:qT P gl tr o e c C R K)(i:Fn n e γ a)(h:¬CT (ql a) c):∃av,K av C Te:=by
 unfold qT at H;split at H;grind [Xd];split at H;grind [yX];rename_i b hb;have f:=yX i hb h;simp only[zad]at f;cases hic:sn o with
 |true=>rw[hic]at H;simp only[zK]at H;exact(Bw (h0:=#[]) (W:=λ_=>False) (M0:=λ_=>Te) H).1 f
 |false=>rw[hic]at H;simp only[zL]at H;have⟨av,h1,_⟩:=ud (h0:=#[]) (W:=λ_=>False) (M0:=gl) (Fr.le.refl _) H;grind
 cases H
def GxS(S:List Nat)(γ γ':Gh):Prop:=Fr.le γ.M γ'.M/\∀i,i∉S->γ'.β i=γ.β i/\γ'.σ i=γ.σ i
theorem GxS.refl(S:ac0)(γ:Gh):GxS S γ γ:=⟨Fr.le.refl _,λ_ _=>⟨rfl,rfl⟩⟩
theorem GxS.trans{a b c:Gh}(h:GxS S a b)(k:GxS S b c):GxS S a c:=⟨h.1.trans k.1,λi hi=>⟨(k.2 i hi).1.trans (h.2 i hi).1,(k.2 i hi).2.trans (h.2 i hi).2⟩⟩
theorem GxS.mono{S c:ac0}{a b:Gh}(h:GxS S a b)(f:∀x∈S,x∈c):GxS c a b:=⟨h.1,λi hi=>h.2 i λe=>hi (f i e)⟩
def vX(c:Option Nat)(d:Option Nat):Bool:=match c,d with
 |none,_=>Ta
 |some x,some y=>mv x y
 |some _,none=>Tc
theorem Gx.toS{c d:ad0}{γ γ':Gh}(g:Gx c γ γ')(h:vX c d=Ta)(b:∀i,d=Td i->i∈S):GxS S γ γ':=by
 refine⟨g.1,λi hi=>g.2 i λe=>?_⟩;subst e;cases d with
 |none=>cases h
 |some y=>have:i=y:=zao h;simp_all
def nI(P:EM)(gl:Fr)(tr:Nw)(n:Nat)(ops:Array n9)(R:CS)(K:q9->CS->Prop):List n9->q9->CS->Prop
 |[],e,C=>K (nN e) C
 |o::rest,e,C=>match Ji ops e o.guard with
  |some c=>bif wj n c o.dst then qT P gl tr o e c C R (λav b i=>bif vX i o.dst then nI P gl tr n ops R K rest (xo (vg i e) o.dst c av) b else False)else False
  |none=>False
def xP{P:EM}{gl:Fr}(r:Fr.le gl M0){tr:Nw}{n:Nat}{ops:Array n9}{R:CS}{K:q9->CS->Prop}{Q:Exit->Act->Nd->Prop}(B:Nd):∀(l:List n9) (e:q9) (C:CS) (γ:Gh) (h:zc) (a:Act) (d:Nat),nI P gl tr n ops R K l e C->Fn n e γ a->Inv h0 W M0 (C++R) γ h->(∀t j γ' k m h',Fn n t γ' k->Inv h0 W M0 (j++R) γ' h'->Same (w9 l) a k->GxS (w9 l) γ γ'->K t j->Q .normal k (mk B m h'))->wpList P ops Q l a (mk B d h)
 |[],e,C,γ,h,a,d,H,hs,I,hQ=>hQ _ _ _ _ _ _ hs.clean I (Same.refl _ _) (GxS.refl _ _) H
 |o::rest,e,C,γ,h,a,d,H,hs,I,hQ=>by
  unfold nI at H;split at H
  ·rename_i c S;cases hd:wj n c o.dst with
   |false=>simp_all
   |true=>
    rw[hd]at H;simp only[zK]at H;have D:=Zt hs S;have f:∀i,o.dst=Td i->i∈w9 (o::rest):=λi hi=>by simp[w9,hi]
    have b:∀x∈w9 rest,x∈w9 (o::rest):=λx F=>by unfold w9;grind
    have q:∀av u m h' j i γ',(CT (ql a) c->DP γ' av u)->(¬CT (ql a) c->u=undef)->Inv h0 W M0 (j++R) γ' h'->Gx i γ γ'->(cond (vX i o.dst) (nI P gl tr n ops R K rest (xo (vg i e) o.dst c av) j) False) ->
     wpList P ops Q rest (a.put o.dst u) (mk B m h'):=λav u m h' j i γ' h1 h2 J g E=>by
     cases hid:vX i o.dst with
     |false=>simp_all
     |true=>
      rw[hid]at E;exact xP r B rest _ _ _ _ _ _ E ((hs.gx g).putO hd h1 h2) J λt w A k z s G T M O N=>
       hQ t w A k z s G T ((Same.put a o.dst u f).trans (M.mono b)) ((g.toS hid f).trans (O.mono b)) N
    unfold wpList;by_cases p:CT (ql a) c;rw[zA (D.2 p)];refine .inl ((Ns r H hs I p).upon B d ?_);rintro v m h' ⟨av,j,i,γ',g1,g2,U,V⟩;grind;rw[zv (λF=>p (D.1 F))];have⟨av,L⟩:=Nb H hs p;exact q av undef d h C Te γ (λy=>absurd y p) (λ_=>rfl) I (Gx.refl _ _) L
  cases H
end
end
end Go.X
