/- A part of the proof: nothing is stated here for its own sake. -/
import Derived.Deep.Quiet
import Derived.StillTail
import Derived.Laws.Cover3
import Derived.Laws.Pointers
import Derived.Scope
import Derived.Laws.OwnMore
import Derived.Laws.StructEq
open _root_.Go.Addr renaming add->Ua
open _root_.Array renaming getD_eq_getD_getElem?->Vm,getElem?_append_left->V5,getElem?_eq_getElem->Vx,getElem?_eq_some_iff->Ut,getElem?_setIfInBounds_ne->Vy,replicate->VL,size_push->Ur,size_setIfInBounds->U6
open _root_.Bool renaming and_eq_true->Ui,eq_iff_iff->Uy,false_eq_true->UR,not_eq_true'->WZ,true_and->Vo
open _root_.Go.Builtin renaming append_->Ug,firstCells->VY,len_->WF
open _root_.Classical renaming byContradiction->WB
open _root_.Go.Code renaming cond->YJ,region->YR
open _root_.Go.Deferred renaming ofValue->XW
open _root_.Go.Instr renaming entry->XS,findNow->VX,indexAt->YL,keyThatStays->WT,loadAt->XE,lookup->XG,mapUpdate->VC,next->WS,range->YE,sameNow->YB,sliceAt->YA,storeAt->Ub,sureAddr->XR
open _root_.Go.IntKind renaming bits->U4,signed->XT,wrap->T9
open _root_.List renaming all_eq_true->Us,cons_append->UF,drop_drop->Vl,drop_eq_nil_of_le->Vr,drop_left->YF,eq_nil_of_length_eq_zero->UK,getElem?_drop->Va,getElem?_eq_getElem->Ul,getElem?_eq_some_iff->UE,getElem?_take->UU,getElem_append_left->Vt,getElem_append_right->VP,getElem_mem->Up,getElem_of_mem->WK,length_append->Uf,length_cons->Uk,length_drop->UD,length_eq_zero_iff->Vk,length_nil->UG,length_range->XP,length_take->UQ,mapM_cons->YG,map_cons->Uq,mem_append->Uv,mem_append_left->Un,mem_append_right->Uw,mem_cons->Uj,mem_cons_of_mem->Uo,mem_cons_self->Uu,mem_filter->WV,mem_range->UY,nil_append->UX,nodup_cons->Vp,pairwise_append->XA,pairwise_cons->Vn,pairwise_lt_range->XH,range->U8,replicate->Vh,take_append_of_le_length->WH,take_succ_eq_append_getElem->Uh
open _root_.List.cons renaming injEq->Vu
open _root_.Nat renaming add_mul->VU,eq_of_beq_eq_true->Ux,eq_zero_or_pos->XI,le_of_ble_eq_true->VE,le_refl->Uc,le_trans->VB,lt_of_lt_of_le->WR,lt_or_ge->U1,min_eq_left->V9,mul_comm->XJ,mul_le_mul_right->UC,one_mul->YM,strongRecOn->YD,succ_mul->WO,zero_add->UI
open _root_.Go.Next renaming value->XQ
open _root_.Go.Op renaming equal->YP
open _root_.Option renaming bind_some->VM,map_eq_some_iff->VN,map_some->XK
open _root_.Option.some renaming inj->UO,injEq->Ud
open _root_.Prod.mk renaming injEq->Vg
open _root_.Pure renaming pure->XM
open _root_.Go.Region renaming wanted->UV
open _root_.Go.Value renaming int->UT,string->UJ
open _root_.Go.Value.slice renaming injEq->UW
set_option linter.unusedVariables false
set_option maxRecDepth 100000
namespace Go.X
end Go.X
namespace Go.Proofs
end Go.Proofs
open Go Go.X Go.Proofs
open _root_.Bool renaming true->Ta,false->Tc
open _root_.Option renaming some->Td,none->Te
namespace Go.X
section
section
theorem za{c:Prop}{h:Decidable c}(n:¬c){α:Sort _}{t e:α}:@ite α c h t e=e:=if_neg n
theorem zA{c:Prop}{h:Decidable c}(n:c){α:Sort _}{t e:α}:@ite α c h t e=t:=if_pos n
theorem zB{p:Prop}[Decidable p]:(decide p=true)=p:=decide_eq_true_eq
theorem zC{p:Prop}[Decidable p](h:decide p=true):p:=of_decide_eq_true h
theorem zD{p:Prop}[Decidable p](h:decide p=false):¬p:=of_decide_eq_false h
theorem zE{p:Prop}[Decidable p](h:p):decide p=true:=decide_eq_true h
theorem zF{p:Prop}[Decidable p](h:¬p):decide p=false:=decide_eq_false h
theorem zG{α:Sort _}(a b:α):cond true a b=a:=rfl
theorem zH{α:Sort _}(a b:α):cond false a b=b:=rfl
abbrev Bt:= ByteArray
variable {i n m:Nat} {v u:Value} {a:Act} {o:Oper}
abbrev zb:=Array Obj
abbrev hZ(n:Int):Int:=IntKind.wrap .i64 n
abbrev g7(g h:Array Obj)(a:Addr):Prop:=g[a.block]?=h[a.block]?
abbrev g8:Array Value:=(List.replicate 65 (.int .u8 0)).toArray
abbrev g81:Array Value:=(List.replicate 24 (.int .u8 0)).toArray
abbrev qp:=List (Nat×Bool)
abbrev bK:=List (Nat×qp×Value)
def mk(B:World)(d:Nat)(h:zb):World:={ B with heap:=h,drawn:=d }
def look:bK->Nat->Option (qp×Value)
 |[],_=>Te
 |(j,c,v)::e,i=>bif Nat.beq i j then Td (c,v)else look e i
def valid(σ:Nat->Value):qp->Prop
 |[]=>True
 |(g,p)::c=>σ g=.bool p/\valid σ c
def qg(a:Act)(i:Nat):Value:=a.tmps.getD i undef
def fact(σ:Nat->Value)(x:Nat×qp×Value):Prop:=(valid σ x.2.1->σ x.1=x.2.2)/\(¬valid σ x.2.1->σ x.1=undef)
structure Sat (n:Nat) (e:bK) (a:Act):Prop where
 defers:a.defers=[]
 size:a.tmps.size=n
 all:∀x∈e,fact (qg a) x
def mentions:qp->Nat->Bool
 |[],_=>Tc
 |(g,_)::c,i=>bif Nat.beq i g then Ta else mentions c i
def m3:bK->Nat->bK
 |[],_=>[]
 |(j,c,v)::e,i=>bif (bif Nat.beq i j then Ta else mentions c i)then m3 e i else(j,c,v)::m3 e i
def put(e:bK)(i:Nat)(c:qp)(v:Value):bK:=(i,c,v)::m3 e i
def putO(e:bK):Option Nat->qp->Value->bK
 |none,_,_=>e
 |some d,c,v=>put e d c v
def clean:bK->bK
 |[]=>[]
 |(j,[],v)::e=>(j,[],v)::clean e
 |(_,_::_,_)::e=>clean e
theorem jG{e:bK}{c:qp}(h:look e i=Td (c,v)):(i,c,v)∈e:=by
 induction e with
 |nil=>cases h
 |cons x e f=>obtain⟨j,k,b⟩:=x;simp only[look]at h;by_cases l:Nat.beq i j=Ta;simp_all;simp_all
theorem NT{e:bK}{x:Nat×qp×Value}(h:x∈m3 e i):x∈e/\x.1≠i/\mentions x.2.1 i=Tc:=by
 induction e with
 |nil=>cases h
 |cons y e o=>
  obtain⟨j,f,n⟩:=y;simp only[m3]at h;by_cases k:Nat.beq i j=Ta;simp_all;have c:Nat.beq i j=Tc:=Bool.eq_false_iff.2 k;simp only[c,zH]at h;by_cases l:mentions f i=Ta;simp_all;have b:mentions f i=Tc:=by simpa using l
  simp only[b,zH]at h;rcases Uj.1 h with rfl|h;refine⟨Uu,λm=>?_,b⟩;simp_all;simp_all
theorem Ow{e:bK}{x:Nat×qp×Value}(h:x∈clean e):x∈e/\x.2.1=[]:=by
 induction e with
 |nil=>cases h
 |cons y e i=>
  obtain⟨j,b,f⟩:=y;cases b with
  |nil=>simp only[clean]at h;grind
  |cons c cs=>simp only[clean]at h;simp_all
theorem Sat.sub{e e':bK}(h:Sat n e a)(b:∀x∈e',x∈e):Sat n e' a:=⟨h.defers,h.size,λx c=>h.all x (b x c)⟩
theorem Sat.clean{n:Nat}{e:bK}{a:Act}(h:Sat n e a):Sat n (clean e) a:=h.sub λ_ b=>(Ow b).1
theorem We{σ τ:Nat->Value}{c:qp}(b:mentions c i=Tc)(h:∀j,j≠i->σ j=τ j):valid σ c↔valid τ c:=by
 induction c with
 |nil=>exact Iff.rfl
 |cons x c k=>obtain⟨g,p⟩:=x;simp only[mentions]at b;by_cases f:Nat.beq i g=Ta;grind;simp only[f,zH]at b;have l:g≠i:=λe=>f (by rw[e];simp);simp only[valid,h g l,k b]
theorem Z1(hi:i<a.tmps.size):qg (a.put (Td i) u) i=u:=by simp[qg,Act.put,hi]
theorem y0{i j:Nat}(h:j≠i):qg (a.put (Td i) u) j=qg a j:=by simp[qg,Act.put,Vy (Ne.symm h)]
theorem size_put(a:Act)(d:Option Nat)(u:Value):(a.put d u).tmps.size=a.tmps.size:=by cases d <;> simp[Act.put]
theorem Zq(a:Act)(d:Option Nat)(u:Value):(a.put d u).defers=a.defers:=by cases d <;> simp[Act.put]
theorem Sat.put{n:Nat}{e:bK}{a:Act}(h:Sat n e a){i:Nat}{c:qp}{v u:Value}(hi:i<n)(t:mentions c i=Tc)
  (q:valid (qg a) c->u=v) (s:¬valid (qg a) c->u=undef):Sat n (put e i c v) (a.put (Td i) u):=by
 refine⟨by rw[Zq];exact h.defers,by rw[size_put];exact h.size,λx m=>?_⟩;have k:i<a.tmps.size:=by rw[h.size];exact hi
 rcases Uj.1 m with rfl|m;have l:=We (σ:=qg (a.put (Td i) u)) (τ:=qg a) t (λj o=>y0 o);refine⟨λf=>?_,λf=>?_⟩;exact(Z1 k).trans (q (l.1 f));exact(Z1 k).trans (s (λb=>f (l.2 b)));obtain⟨h1,h2,r⟩:=NT m;have l:=We (σ:=qg (a.put (Td i) u)) (τ:=qg a) r (λj o=>y0 o);have p:=h.all x h1;refine⟨λf=>?_,λf=>?_⟩;exact(y0 h2).trans (p.1 (l.1 f));exact(y0 h2).trans (p.2 (λb=>f (l.2 b)))
def xg(n:Nat)(c:qp):Option Nat->Bool
 |none=>Ta
 |some d=>bif mentions c d then Tc else Nat.blt d n
theorem Sat.putO{n:Nat}{e:bK}{a:Act}(h:Sat n e a){d:Option Nat}{c:qp}{v u:Value}(f:xg n c d=Ta)
  (l:valid (qg a) c->u=v) (m:¬valid (qg a) c->u=undef):Sat n (putO e d c v) (a.put d u):=by
 cases d with
 |none=>exact h
 |some i=>
  simp only[xg]at f;by_cases k:mentions c i=Ta;grind;have b:mentions c i=Tc:=by simpa using k
  simp only[b,zH]at f;exact h.put (by simp_all) b l m
def Zr:qp->qp->Bool
 |[],[]=>Ta
 |(g,p)::c,(g',p')::c'=>bif Nat.beq g g' then(bif p then(bif p' then Zr c c' else Tc)else(bif p' then Tc else Zr c c'))else Tc
 |_,_=>Tc
theorem Jb:∀{c b:qp},Zr c b=Ta->c=b
 |[],[],_=>rfl
 |[],_::_,h=>by simp[Zr]at h
 |_::_,[],h=>by simp[Zr]at h
 |(g,p)::c,(g',p')::b,h=>by simp only[Zr]at h;by_cases e:Nat.beq g g'=Ta;simp only[e,zG]at h;have f:=Ux e;cases p <;> cases p' <;> simp at h <;> rw[f,Jb h];grind
def fQ(cs:qp):qp->Bool
 |[]=>Zr cs []
 |x::c=>bif Zr cs (x::c)then Ta else fQ cs c
theorem Jc{σ:Nat->Value}{cs:qp}:∀{c:qp},fQ cs c=Ta->valid σ c->valid σ cs
 |[],h,_=>by rw[Jb h];trivial
 |x::c,h,hv=>by simp only[fQ]at h;by_cases b:Zr cs (x::c)=Ta;rw[Jb b];exact hv;simp only[b,zH]at h;exact Jc h hv.2
def Xq(e:bK)(c:qp):Operand->Option Value
 |.tmp t=>match look e t with
  |some (cs,v)=>bif fQ cs c then Td v else Te
  |none=>Te
 |.const v=>Td v
 |.global g=>Td (.pointer (Td ⟨g,0,Te⟩))
 |.func f=>Td (.func (.func f) #[] #[])
theorem qt{e:bK}(h:Sat n e a){c:qp}(l:valid (qg a) c){x:Operand}(b:Xq e c x=Td v):a.eval x=v:=by
 cases x with
 |tmp t=>simp only[Xq]at b;split at b;rename_i cs u k;by_cases i:fQ cs c=Ta;simp only[i,zG,Ud]at b;subst b;exact(h.all _ (jG k)).1 (Jc i l);grind;cases b
 |const u=>simp only[Xq,Ud]at b;exact b
 |global g=>simp only[Xq,Ud]at b;exact b
 |func f=>simp only[Xq,Ud]at b;exact b
def eG(e:bK)(c:qp)(x:Operand):Value:=match Xq e c x with
 |some v=>v
 |none=>undef
def known(e:bK)(c:qp):List Operand->Bool
 |[]=>Ta
 |x::l=>match Xq e c x with
  |some _=>known e c l
  |none=>Tc
theorem Wg{e:bK}(h:Sat n e a){c:qp}(k:valid (qg a) c){l:List Operand}(b:known e c l=Ta):∀x∈l,a.eval x=eG e c x:=by
 induction l with
 |nil=>simp
 |cons y l m=>intro x i;simp only[known]at b;split at b;rename_i v f;rcases Uj.1 i with rfl|i;rw[qt h k f];simp[eG,f];grind;cases b
def Wh:Op->Bool
 |.select _ _=>Tc
 |_=>Ta
theorem oG{e:bK}(h:Sat n e a){c:qp}(l:valid (qg a) c)(f:Wh o.op=Ta)(i:known e c o.op.operands.toList=Ta):
  execOp a.eval o=execOp (eG e c) o:=
 execOp_congr o (λcs b k=>by rw[k]at f;cases f) λx m=>Wg h l i x (by simpa using m)
def w9(ops:Array Oper)(j:Nat):Option Nat:=match ops[j]? with
 |some o=>o.dst
 |none=>Te
def xz(ops:Array Oper)(e:bK):Option (Nat×Bool)->Option qp
 |none=>Td []
 |some (j,p)=>match w9 ops j with
  |some g=>match look e g with
   |some (cg,.bool _)=>Td ((g,p)::cg)
   |_=>Te
  |none=>Te
def lG(e:bK):qp->Option Bool
 |[]=>Td Ta
 |(g,p)::c=>match look e g with
  |some (cg,.bool b)=>bif Zr cg c then(match lG e c with
    |some f=>Td (f&&(bif p then b else !b))
    |none=>Te)else Te
  |_=>Te
theorem AP{b:Bool}:undef≠.bool b:=by simp[undef]
theorem uq{n:Nat}{e:bK}{a:Act}(h:Sat n e a):∀{c:qp} {b:Bool},lG e c=Td b->(b=Ta↔valid (qg a) c)
 |[],b,hb=>by simp only[lG,Ud]at hb;simp[<-hb,valid]
 |(g,p)::c,b,hb=>by
  simp only[lG]at hb;split at hb;rename_i s o q;by_cases m:Zr s c=Ta;simp only[m,zG]at hb;split at hb;rename_i k i;simp only[Ud]at hb;have r:=uq h i;have l:=h.all _ (jG q);rw[Jb m]at l;by_cases f:valid (qg a) c;have h1:qg a g=.bool o:=l.1 f;have h2:=r.2 f;subst hb;simp only[valid,h1,f,h2,Vo,and_true,Value.bool.injEq];grind;have h1:k=Tc:=by cases k with|false=>rfl|true=>simp_all
  subst hb;simp[valid,f,h1];cases hb;grind;cases hb
theorem Z4{ops:Array Oper}{e:bK}(h:Sat n e a){c:qp}(f:xz ops e o.guard=Td c):
  UV o (yielded ops a.tmps)=Ta↔valid (qg a) c:=by
 unfold UV;cases hg:o.guard with
 |none=>rw[hg]at f;simp only[xz,Ud]at f;simp[<-f,valid]
 |some s=>
  obtain⟨j,p⟩:=s;rw[hg]at f;simp only[xz]at f;split at f;rename_i g i;split at f;rename_i t b q;simp only[Ud]at f;subst f;have k:((ops[j]?).bind (·.dst))=Td g:=by simp only[w9]at i;split at i;simp_all;cases i
  have m:=h.all _ (jG q);have r:yielded ops a.tmps j=Td p↔qg a g=.bool p:=by
   unfold yielded qg;rw[k];simp only[VM];cases ht:a.tmps[g]? with
   |none=>simp[Vm,ht,undef]
   |some v=>cases v <;> simp[Vm,ht]
  simp only[beq_iff_eq,r,valid];constructor;intro h1;refine⟨h1,?_⟩;by_cases l:valid (qg a) t;exact l;have:=m.2 l;simp only at this;rw[h1]at this;exact absurd this.symm AP;simp_all;cases f;cases f
structure Keep (n:Nat) (h h':zb):Prop where
 size:h.size<=h'.size
 get:∀i,i<n->h'[i]?=h[i]?
theorem Keep.refl(n:Nat)(h:zb):Keep n h h:=⟨Uc _,λ_ _=>rfl⟩
theorem Keep.trans{a b c:zb}(h:Keep n a b)(k:Keep m b c)(e:n<=m):Keep n a c:= ⟨VB h.size k.size,λi hi=>(k.get i (WR hi e)).trans (h.get i hi)⟩
theorem Keep.mono{a b:zb}(h:Keep n a b)(c:m<=n):Keep m a b:=⟨h.size,λi hi=>h.get i (WR hi c)⟩
theorem Keep.push(h:zb)(o:Obj)(b:n<=h.size):Keep n h (h.push o):= ⟨by simp,λi hi=>by grind⟩
end
section
variable {P:Program} {α:Type} {h:zb} {v x i:Value} {t:TypeId} {g:Option Bool} {n l r:Int}
def zc(h:zb)(a:Addr):Option Value:=
 match h[a.block]? with
 |some (.cells c _ _)=>if a.spot.isSome then Te else c[a.off]?
 |_=>Te
theorem tY(B:World)(d:Nat)(h:zb)(a:Addr):(mk B d h).cell? a=zc h a:=rfl
def Yt(P:Program){α:Type}:Sem α->Option α
 |.pure a=>Td a
 |.program k=>Yt P (k P)
 |.mark _ k=>Yt P k
 |_=>Te
def QExec(P:Program){α:Type}(s:Sem α)(h:zb)(x:α):Prop:=∀B d,s.run P (mk B d h)=.ok x (mk B d h)
theorem wH{s:Sem α}{x:α}(h:Yt P s=Td x)(w:World):s.run P w=.ok x w:=by
 induction s with
 |pure a=>simp only[Yt,Ud]at h;subst h;rfl
 |program k b=>exact b P h
 |mark m k b=>exact b h
 |_=>simp[Yt]at h
theorem TB{s:Sem α}{x:α}(h:Yt P s=Td x)(b:zb):QExec P s b x:=λ_ _=>wH h _
theorem QExec.bind{α β:Type}{s:Sem α}{f:α->Sem β}{x:α}{y:β}(h1:QExec P s h x)(h2:QExec P (f x) h y):QExec P (s >>= f) h y:=by intro B d;rw[Sem.run_bind,h1 B d];exact h2 B d
theorem QExec.pure(x:α):QExec P (XM x) h x:=λ_ _=>rfl
theorem QExec.val{s:Sem Value}(h1:QExec P s h v):QExec P (s >>= λx=>XM (XQ x)) h (XQ v):=h1.bind (QExec.pure _)
theorem QExec.underlying{d:TypeDesc}(b:P.underlying t=Td d):QExec P (Go.underlying t) h d:=by intro B e;simp[Go.underlying,program,b,Sem.run]
def jg(P:Program)(t:TypeId):Nat:=match P.info? t with
 |some i=>i.size
 |none=>0
theorem QExec.sizeOf{i:TypeInfo}(hi:P.info? t=Td i):QExec P (Go.sizeOf t) h (jg P t):=by intro B d;simp[Go.sizeOf,typeInfo,program,hi,Sem.run,jg]
theorem info_of_underlying{d:TypeDesc}(b:P.underlying t=Td d):∃i,P.info? t=Td i:=by unfold Program.underlying at b;grind
inductive Atom where
 |int (k:IntKind)|bool|str|sl|mp|ptr|raw|ad
structure Sl where
 a:Option Addr
 len:Nat
 cap:Nat
@[reducible] def Atom.den:Atom->Type
 |.int _=>Int | .bool=>Bool | .str=>Bt | .sl=>Sl | .mp=>Option Nat | .ptr=>Option Addr | .raw=>Value | .ad=>Addr
def Atom.enc:(t:Atom)->t.den->Value
 |.int k,n=>.int k n
 |.bool,b=>.bool b
 |.str,s=>.string s
 |.sl,s=>.slice s.a s.len s.cap
 |.mp,m=>.map m
 |.ptr,p=>.pointer p
 |.raw,v=>v
 |.ad,p=>.pointer (Td p)
def Atom.dec:(t:Atom)->Value->Option t.den
 |.int k,.int k' n=>if k=k' then Td n else Te
 |.bool,.bool b=>Td b
 |.str,.string s=>Td s
 |.sl,.slice a l c=>Td ⟨a,l,c⟩
 |.mp,.map m=>Td m
 |.ptr,.pointer p=>Td p
 |.raw,v=>Td v
 |.ad,.pointer (Td p)=>Td p
 |_,_=>Te
theorem Atom.enc_of_dec{t:Atom}{x:t.den}(h:t.dec v=Td x):t.enc x=v:=by
 cases t with
 |ad=>
  cases v with
  |pointer p=>
   cases p with
   |none=>simp[Atom.dec]at h
   |some a=>simp[Atom.dec]at h;rw[h];rfl
  |_=>simp[Atom.dec]at h
 |_=>cases v <;> simp_all[Atom.dec,Atom.enc] <;> (grind)
inductive VT where
 |one (t:Atom)
 |agg (l:List Atom)
inductive RT where
 |one (v:VT)
 |tup (l:List VT)
def pF:List Atom->(List Value->Prop)->Prop
 |[],F=>F []
 |t::l,F=>∃x:t.den,pF l λvs=>F (t.enc x::vs)
def rU:VT->(Value->Prop)->Prop
 |.one t,F=>∃x:t.den,F (t.enc x)
 |.agg l,F=>pF l λvs=>F (.agg vs.toArray)
def qO:List VT->(List Value->Prop)->Prop
 |[],F=>F []
 |t::l,F=>rU t λv=>qO l λvs=>F (v::vs)
def hP:RT->(Value->Prop)->Prop
 |.one v,F=>rU v F
 |.tup l,F=>qO l λvs=>F (.tuple vs.toArray)
def kR:List Atom->(List Value->Prop)->Prop
 |[],F=>F []
 |t::l,F=>∀x:t.den,kR l λvs=>F (t.enc x::vs)
def lM:VT->(Value->Prop)->Prop
 |.one t,F=>∀x:t.den,F (t.enc x)
 |.agg l,F=>kR l λvs=>F (.agg vs.toArray)
def jL:List VT->(List Value->Prop)->Prop
 |[],F=>F []
 |t::l,F=>lM t λv=>jL l λvs=>F (v::vs)
def wS:RT->(Value->Prop)->Prop
 |.one v,F=>lM v F
 |.tup l,F=>jL l λvs=>F (.tuple vs.toArray)
theorem Jd:∀{l:List Atom} {F G:List Value->Prop},pF l F->kR l G->∃vs,vs.length=l.length/\F vs/\G vs
 |[],_,_,h,g=>⟨[],rfl,h,g⟩
 |_::_,_,_,⟨x,h⟩,g=>let ⟨vs,h0,h1,h2⟩:=Jd h (g x);⟨_,by simp[h0],h1,h2⟩
theorem xb:∀(l:List Atom),kR l λ_=>True
 |[]=>trivial
 |_::l=>λ_=>xb l
theorem sO{v:VT}{F G:Value->Prop}(h:rU v F)(g:lM v G):∃u,F u/\G u:=by
 cases v with
 |one t=>obtain⟨x,h⟩:=h;exact⟨_,h,g x⟩
 |agg l=>obtain⟨vs,_,h1,h2⟩:=Jd h g;grind
theorem Nr(v:VT):lM v λ_=>True:=by
 cases v with
 |one t=>exact λ_=>trivial
 |agg l=>exact xb l
theorem qI:∀{l:List VT} {F G:List Value->Prop},qO l F->jL l G->∃vs,F vs/\G vs
 |[],_,_,h,g=>⟨[],h,g⟩
 |_::_,_,_,h,g=>let ⟨_,h1,h2⟩:=sO h g;let ⟨_,h3,h4⟩:=qI h1 h2;⟨_,h3,h4⟩
theorem CL:∀(l:List VT),jL l λ_=>True
 |[]=>trivial
 |v::l=>by
  have h:=CL l;simp only[jL];cases v with
  |one t=>exact λ_=>h
  |agg b=>
   simp only[lM];have key:∀(b:List Atom) (f:List Value->List Value),kR b λ_=>jL l λ_=>True:=λb _=>by
    induction b with
    |nil=>exact h
    |cons t b c=>exact λ_=>c
   exact key b id
theorem Fs{r:RT}{F G:Value->Prop}(h:hP r F)(g:wS r G):∃v,F v/\G v:=by
 cases r with
 |one v=>exact sO h g
 |tup l=>obtain⟨vs,h1,h2⟩:=qI h g;grind
theorem oD{r:RT}{F:Value->Prop}(h:hP r F):∃v,F v:=by
 cases r with
 |one v=>obtain⟨u,h1,_⟩:=sO h (Nr v);grind
 |tup l=>obtain⟨vs,h1,_⟩:=qI h (CL l);grind
def A3:TypeDesc->Atom
 |.int k=>.int k
 |.bool=>.bool
 |.string=>.str
 |.slice _=>.sl
 |.map _ _=>.mp
 |.pointer _=>.ptr
 |_=>.raw
def qC(P:Program):Nat->TypeId->Option (List Atom)
 |0,_=>Te
 |n+1,t=>match P.underlying t with
  |some (.struct fs)=>fs.toList.foldr (λf l=>match qC P n f.type,l with
    |some x,some y=>Td (x++y)
    |_,_=>Te) (Td [])
  |some (.array m e)=>match qC P n e with
    |some x=>Td (Vh m x).flatten
    |none=>Te
  |some d=>Td [A3 d]
  |none=>Te
def fB(P:Program)(t:TypeId):Option VT:=match P.underlying t with
 |some (.struct _)|some (.array _ _)=>match qC P 8 t with
  |some l=>bif Nat.beq l.length (jg P t)then Td (.agg l)else Te
  |none=>Te
 |some d=>Td (.one (A3 d))
 |none=>Te
def C2(P:Program):List TypeId->Option (List VT)
 |[]=>Td []
 |t::l=>match fB P t,C2 P l with
  |some x,some y=>Td (x::y)
  |_,_=>Te
def kV(P:Program)(t:TypeId):Option RT:=match P.underlying t with
 |some (.tuple ts)=>match C2 P ts.toList with
  |some l=>Td (.tup l)
  |none=>Te
 |_=>match fB P t with
  |some v=>Td (.one v)
  |none=>Te
def req:Option Bool->Prop->Prop
 |none,p=>p
 |some b,p=>b=Ta->p
def da:Option Bool->Prop
 |none=>True
 |some b=>b=Ta
theorem req.out{p:Prop}(h:req g p)(c:da g):p:=by
 cases g with
 |none=>exact h
 |some b=>exact h c
def zd(h:zb)(p:Addr):Nat->List Value->Prop
 |_,[]=>True
 |i,v::vs=>zc h (p.add i)=Td v/\zd h p (i+1) vs
def iE(P:Program)(h:zb)(t:TypeId)(p:Value)(g:Option Bool)(K:Value->Prop):Prop:=
 match p,fB P t with
 |.pointer (Td p),Td (.one a)=>∃x:a.den,req g (zc h p=Td (a.enc x))/\K (a.enc x)
 |.pointer (Td p),Td (.agg l)=>pF l λvs=>req g (zd h p 0 vs)/\K (.agg vs.toArray)
 |_,_=>False
theorem X1{P:Program}{h:zb}{p:Addr}:∀(vs:List Value) (i:Nat) (b:Array Value),zd h p i vs->QExec P (loadCellsFrom p i vs.length b) h (b++vs.toArray)
 |[],i,b,_=>by intro B d;simp[loadCellsFrom]
 |v::vs,i,b,⟨h1,h2⟩=>by have c:=X1 (P:=P) vs (i+1) (b.push v) h2;intro B d;simp only[Uk,loadCellsFrom,Sem.run_bind,run_load];rw[tY,h1];simp only[Result.andThen_ok];rw[c B d];simp
theorem kQ{a:Atom}{p:Addr}(c:fB P t=Td (.one a))(i:zc h p=Td v):QExec P (loadVar t p) h v:=by
 unfold fB at c;cases hu:P.underlying t with
 |none=>simp_all
 |some d=>
  rw[hu]at c;intro B e;have f:=QExec.underlying (h:=h) hu B e;have b:(isAgg t).run P (mk B e h)=.ok Tc (mk B e h):=by unfold isAgg;rw[Sem.run_bind,f];cases d <;> first|rfl|grind
  unfold loadVar;rw[Sem.run_bind,b];simp only[Result.andThen_ok,UR,if_false,run_load];rw[tY,i]
theorem mu{l:List Atom}{p:Addr}{vs:List Value}(c:fB P t=Td (.agg l))(u:vs.length=l.length)(r:zd h p 0 vs):QExec P (loadVar t p) h (.agg vs.toArray):=by
 unfold fB at c;cases hu:P.underlying t with
 |none=>simp_all
 |some d=>
  rw[hu]at c;obtain⟨i,hi⟩:=info_of_underlying hu;have b:(∃f,d=.struct f)\/(∃n e,d=.array n e):=by cases d <;> first|exact Or.inl ⟨_,rfl⟩|exact Or.inr ⟨_,_,rfl⟩|(simp at c)
  have s:jg P t=l.length:=by
   have k:(match qC P 8 t with
     |some l=>bif Nat.beq l.length (jg P t)then Td (VT.agg l)else Te
     |none=>Te)=Td (.agg l):=by
    rcases b with⟨f,rfl⟩|⟨n,e,rfl⟩ <;> exact c
   split at k;rename_i q _;cases hb:Nat.beq q.length (jg P t)with
   |false=>simp_all
   |true=>simp_all
   cases k
  intro B e;have m:=QExec.underlying (h:=h) hu B e;have hA:(isAgg t).run P (mk B e h)=.ok Ta (mk B e h):=by unfold isAgg;rw[Sem.run_bind,m];rcases b with⟨f,rfl⟩|⟨n,e',rfl⟩ <;> rfl
  have o:=QExec.sizeOf (h:=h) hi B e;unfold loadVar;rw[Sem.run_bind,hA];simp only[Result.andThen_ok,if_true];rw[Sem.run_bind,o];simp only[Result.andThen_ok];have w:=X1 (P:=P) vs 0 #[] r B e;unfold loadCells;simp_all
theorem yP{p:Value}{K:Value->Prop}(H:iE P h t p g K):
  ∃v,K v/\(da g->QExec P (XE t p) h v):=by
 unfold iE at H;split at H;rename_i q a b;obtain⟨x,h1,h2⟩:=H;exact⟨_,h2,λc=>kQ b (h1.out c)⟩;rename_i q l b;obtain⟨vs,h0,⟨h1,h2⟩,_⟩:=Jd H (xb l);exact⟨_,h2,λc=>mu b h0 (h1.out c)⟩;exact H.elim
def l9(P:Program)(t:TypeId)(x i:Value)(g:Option Bool)(K:Value->Prop):Prop:=
 match P.underlying t with
 |some (.slice el)=>match x,i with
  |.slice base len _,.int _ n=>∃a:Addr,req g (base=Td a/\0<=n/\n<(len:Int))/\K (.pointer (Td (a.add (n.toNat*jg P el))))
  |_,_=>False
 |some (.array len el)=>match x,i with
  |.pointer base,.int _ n=>∃a:Addr,req g (base=Td a/\0<=n/\n<(len:Int))/\K (.pointer (Td (a.add (n.toNat*jg P el))))
  |_,_=>False
 |_=>False
def qj(P:Program)(t:TypeId):Bool:=match P.info? t with
 |some _=>Ta
 |none=>Tc
theorem wh(h:qj P t=Ta):∃i,P.info? t=Td i:=by unfold qj at h;grind
theorem xf(t:TypeId)(B:World)(d:Nat):(∃i,P.info? t=Td i)->(Go.sizeOf t).run P (mk B d h)=.ok (jg P t) (mk B d h):=λ⟨_,hi⟩=>QExec.sizeOf hi B d
theorem Z5{K:Value->Prop} (c:∀el,(P.underlying t=Td (.slice el)\/∃n,P.underlying t=Td (.array n el))->∃i,P.info? el=Td i) (H:l9 P t x i g K):
  ∃v,K v/\(da g->∀h:zb,QExec P (YL t x i) h v):=by
 unfold l9 at H;split at H;rename_i el b;split at H;rename_i base len cap k n;obtain⟨a,h1,h2⟩:=H;refine⟨_,h2,λl=>?_⟩;obtain⟨rfl,e,o⟩:=h1.out l;intro h B d;have m:=QExec.underlying (h:=h) b B d;have f:=xf (h:=h) el B d (c el (Or.inl b));unfold YL;simp[asIntOf,Sem.run_bind,m,f,e,o];exact H.elim;rename_i len el b;split at H;rename_i base k n;obtain⟨a,h1,h2⟩:=H;refine⟨_,h2,λl=>?_⟩;obtain⟨rfl,e,o⟩:=h1.out l;intro h B d;have m:=QExec.underlying (h:=h) b B d;have f:=xf (h:=h) el B d (c el (Or.inr ⟨_,b⟩));unfold YL;simp[asIntOf,Sem.run_bind,m,f,e,o,XR];exact H.elim;exact H.elim
def ze(s:Bt)(i:Nat):Int:=((s.data[i]?.getD 0).toNat:Int)
def ta(x i:Value)(g:Option Bool)(K:Value->Prop):Prop:=
 match x,i with
 |.string s,.int _ n=>req g (0<=n/\n<(s.size:Int))/\K (.int .u8 (ze s n.toNat))
 |_,_=>False
theorem HR(s:Bt)(i:Nat)(h:i<s.size):s[i]?=Td (s.data[i]?.getD 0):=by have h':i<s.data.size:=h;rw[getElem?_pos s i h];simp[Vx h'];rfl
theorem X3{K:Value->Prop}(c:P.underlying t=Td .string)(H:ta x i g K):
  ∃v,K v/\(da g->∀h:zb,QExec P (Instr.index t x i) h v):=by
 unfold ta at H;split at H;rename_i s k n;obtain⟨h1,h2⟩:=H;refine⟨_,h2,λl=>?_⟩;obtain⟨e,m⟩:=h1.out l;intro h B d;have b:=QExec.underlying (h:=h) c B d;unfold Instr.index;have f:=HR s n.toNat (by omega);simp only[asIntOf,Sem.run_bind,b,Sem.run_pure,Result.andThen_ok,e,if_true,f,ze];exact H.elim
def de(a:Option Addr)(sz l m:Nat):Option Addr:=if m=l then a else a.map (·.add (l*sz))
def y5:Option Value->Int->Option Int
 |none,d=>Td d
 |some (.int _ n),_=>Td n
 |some _,_=>Te
def np(P:Program)(t:TypeId)(x:Value)(lo hi mx:Option Value)(g:Option Bool)(K:Value->Prop):Prop:=
 match P.underlying t with
 |some .string=>match x,mx with
  |.string s,none=>match y5 lo 0,y5 hi (s.size:Int)with
   |some l,some r=>req g (0<=l/\l<=r/\r<=(s.size:Int))/\K (.string (s.extract l.toNat r.toNat))
   |_,_=>False
  |_,_=>False
 |some (.slice el)=>match x with
  |.slice a len cap=>match y5 lo 0,y5 hi (len:Int),y5 mx (cap:Int)with
   |some l,Td r,some m=>(mx=Te\/∃v,hi=Td v)/\req g (0<=l/\l<=r/\r<=m/\m<=(cap:Int))/\K (.slice (de a (jg P el) l.toNat m.toNat) (r.toNat-l.toNat) (m.toNat-l.toNat))
   |_,_,_=>False
  |_=>False
 |some (.array n el)=>match x,mx with
  |.pointer (Td a),none=>match y5 lo 0,y5 hi (n:Int)with
   |some l,some r=>req g (0<=l/\l<=r/\r<=(n:Int))/\K (.slice (de (Td a) (jg P el) l.toNat n) (r.toNat-l.toNat) (n-l.toNat))
   |_,_=>False
  |_,_=>False
 |_=>False
theorem jq{v:Option Value}{d n:Int}(h:y5 v d=Td n):(v=Te/\n=d)\/∃k,v=Td (.int k n):=by unfold y5 at h;grind
theorem jh{k:IntKind}{y:Nat}{c:BoundsCode}(h0:0<=n)(h1:n<=(y:Int)):QExec P (Instr.sliceBound (.int k n) y c) h n.toNat:=by intro B d;simp[Instr.sliceBound,asIntOf,h0,h1]
theorem FB{n:Nat}{lo hi:Option Value}(f:y5 lo 0=Td l)(m:y5 hi (n:Int)=Td r)(c:0<=l)(i:l<=r)(b:r<=(n:Int)):
  QExec P (Instr.sliceBounds Tc n n lo hi Te) h (l.toNat,r.toNat,n):=by
 have e:(r.toNat:Int)=r:=Int.toNat_of_nonneg (by omega);rcases jq f with⟨rfl,rfl⟩|⟨k,rfl⟩ <;> rcases jq m with⟨rfl,rfl⟩|⟨k',rfl⟩;exact QExec.pure _;exact QExec.bind (QExec.pure n) (QExec.bind (jh (by omega) b) (QExec.pure _));exact QExec.bind (QExec.pure n) (QExec.bind (QExec.pure n) (QExec.bind (jh c i) (QExec.pure _)));exact QExec.bind (QExec.pure n) (QExec.bind (jh (by omega) b) (QExec.bind (jh c (by omega)) (QExec.pure _)))
theorem OL{len cap:Nat}{lo hi mx:Option Value}{l r m:Int}(f:y5 lo 0=Td l)(i:y5 hi (len:Int)=Td r)(p:y5 mx (cap:Int)=Td m) (h0:mx=Te\/∃v,hi=Td v) (b:0<=l) (q:l<=r) (o:r<=m) (n:m<=(cap:Int)):
  QExec P (Instr.sliceBounds Ta len cap lo hi mx) h (l.toNat,r.toNat,m.toNat):=by
 have e:(r.toNat:Int)=r:=Int.toNat_of_nonneg (by omega);have u:(m.toNat:Int)=m:=Int.toNat_of_nonneg (by omega);rcases jq p with⟨rfl,rfl⟩|⟨t,rfl⟩;rcases jq f with⟨rfl,rfl⟩|⟨k,rfl⟩ <;> rcases jq i with⟨rfl,rfl⟩|⟨s,rfl⟩;exact QExec.pure _;exact QExec.bind (QExec.pure cap) (QExec.bind (jh (by omega) o) (QExec.pure _));exact QExec.bind (QExec.pure cap) (QExec.bind (QExec.pure len) (QExec.bind (jh b q) (QExec.pure _)));exact QExec.bind (QExec.pure cap) (QExec.bind (jh (by omega) o) (QExec.bind (jh b (by omega)) (QExec.pure _)));rcases h0 with h0|⟨v,rfl⟩;cases h0;rcases jq i with⟨c,_⟩|⟨s,c⟩;cases c;cases c;rcases jq f with⟨rfl,rfl⟩|⟨k,rfl⟩;exact QExec.bind (x:=m.toNat) (jh (by omega) n) (QExec.bind (jh (by omega) (by omega)) (QExec.pure _));exact QExec.bind (x:=m.toNat) (jh (by omega) n) (QExec.bind (jh (by omega) (by omega)) (QExec.bind (jh b (by omega)) (QExec.pure _)))
theorem Yu{lo hi mx:Option Value}{K:Value->Prop} (p:∀el,(P.underlying t=Td (.slice el)\/∃n,P.underlying t=Td (.array n el))->∃i,P.info? el=Td i) (H:np P t x lo hi mx g K):
  ∃v,K v/\(da g->∀h:zb,QExec P (YA t x lo hi mx) h v):=by
 unfold np at H;split at H;rename_i b;split at H;rename_i s;split at H;rename_i l r e f;obtain⟨h1,h2⟩:=H;refine⟨_,h2,λo=>?_⟩;obtain⟨k,q,u⟩:=h1.out o;intro h B d;have c:=QExec.underlying (h:=h) b B d;have bb:=FB (P:=P) (h:=h) e f k q u B d;unfold YA;rw[Sem.run_bind,c];simp only[Result.andThen_ok];unfold Instr.slice;simp_all;exact H.elim;exact H.elim;rename_i el b;split at H;rename_i a len cap;split at H;rename_i l r m e f y;obtain⟨h0,h1,h2⟩:=H;refine⟨_,h2,λo=>?_⟩;obtain⟨k,q,u,z⟩:=h1.out o;intro h B d;have c:=QExec.underlying (h:=h) b B d;have w:=xf (h:=h) el B d (p el (.inl b));have bb:=OL (P:=P) (h:=h) e f y h0 k q u z B d;unfold YA;rw[Sem.run_bind,c];simp only[Result.andThen_ok];unfold Instr.slice;rw[Sem.run_bind,c];simp[bb,w,de];exact H.elim;exact H.elim;rename_i n el b;split at H;rename_i a;split at H;rename_i l r e f;obtain⟨h1,h2⟩:=H;refine⟨_,h2,λo=>?_⟩;obtain⟨k,q,u⟩:=h1.out o;intro h B d;have c:=QExec.underlying (h:=h) b B d;have w:=xf (h:=h) el B d (p el (.inr ⟨n,b⟩));have bb:=FB (P:=P) (h:=h) e f k q u B d;unfold YA;rw[Sem.run_bind,c];simp only[Result.andThen_ok,XR,Sem.run_bind,Sem.run_pure,bb,w];unfold de;split <;> rfl;exact H.elim;exact H.elim;exact H.elim
end
section
variable {P:Program} {f:FuncId} {h:zb} {K:Value -> zb -> Prop} {t ty t':TypeId} {g:Option Bool} {w w':World} {v:Value} {o:Oper} {ρ:Operand -> Value} {a:Act}
def XC(P:Program)(f:FuncId)(args:Array Value)(h:zb)(R:Value->zb->Prop):Prop:=
 ∀B d,Calls P f args (mk B d h) λe w'=>∃v b h',e=.returned v/\w'=mk B b h'/\R v h'
theorem XC.mono{args:Array Value}{R b:Value->zb->Prop}(H:XC P f args h R)(e:∀v h',R v h'->b v h'):XC P f args h b:= λB d=>(H B d).mono λ_ _ ⟨v,i,h',c,k,r⟩=>⟨v,i,h',c,k,e _ _ r⟩
def XRun(P:Program)(s:Sem Value)(h:zb)(K:Value->zb->Prop):Prop:=∀B d,∃v b h',s.run P (mk B d h)=.ok v (mk B b h')/\K v h'
def XRunU(P:Program)(s:Sem Unit)(h:zb)(K:zb->Prop):Prop:=∀B d,∃b h',s.run P (mk B d h)=.ok () (mk B b h')/\K h'
theorem XRun.mono{s:Sem Value}{K b:Value->zb->Prop}(H:XRun P s h K)(c:∀v h',K v h'->b v h'):XRun P s h b:= λB d=>let ⟨v,d',h',e,k⟩:=H B d;⟨v,d',h',e,c _ _ k⟩
theorem XRunU.mono{s:Sem Unit}{K b:zb->Prop}(H:XRunU P s h K)(c:∀h',K h'->b h'):XRunU P s h b:= λB d=>let ⟨d',h',e,k⟩:=H B d;⟨d',h',e,c _ k⟩
def zw(n:Nat):Prop:=n<=9223372036854775807
def fx(P:Program)(s:Sem Next)(K:Value->Prop):Prop:=match Yt P s with
 |some (.value v)=>K v
 |_=>False
def nv(P:Program)(ty:TypeId)(s:Sem Value)(g:Option Bool)(h:zb)(K:Value->Prop):Prop:=match kV P ty with
 |some rt=>hP rt λv=>req g (QExec P s h v)/\K v
 |none=>False
def jE(P:Program)(t:TypeId):Bool:=match P.underlying t with
 |some (.slice _)=>Ta
 |_=>Tc
def jW(P:Program)(t:TypeId):Bool:=match P.underlying t with
 |some (.pointer e)=>Nat.beq e (P.pointee t)
 |_=>Tc
theorem By(h:jW P t=Ta):P.underlying t=Td (.pointer (P.pointee t)):=by unfold jW at h;grind [Ux]
def oW(P:Program)(t:TypeId)(s:Sem Next)(c:BinOp)(x y:Value)(g:Option Bool)(K:Value->Prop):Prop:=
 match c,x,y with
 |.eql,.slice a _ _,.slice Te 0 0=>bif jE P t then K (.bool a.isNone)else fx P s K
 |.neq,.slice a _ _,.slice Te 0 0=>bif jE P t then K (.bool (!a.isNone))else fx P s K
 |.eql,.pointer a,.pointer none=>bif jW P t then K (.bool a.isNone)else fx P s K
 |.neq,.pointer a,.pointer none=>bif jW P t then K (.bool (!a.isNone))else fx P s K
 |.quo,.int k a,.int k' b=>k=k'/\req g (b≠0)/\K (.int k (k.wrap (a.tdiv b)))
 |.rem,.int k a,.int k' b=>k=k'/\req g (b≠0)/\K (.int k (a.tmod b))
 |.add,.string a,.string b=>req g (zw (a.size+b.size))/\K (.string (a++b))
 |_,_,_=>fx P s K
def sD(b:BinOp)(y:Operand):Bool:=match y with
 |.const _=>Tc
 |_=>match b with
  |.shl | .shr=>Ta
  |_=>Tc
def pt(c:BinOp)(x y:Value)(g:Option Bool)(K:Value->Prop):Prop:=
 match x,y with
 |.int k a,.int _ b=>match c with
  |.shl=>req g (0<=b)/\K (.int k (k.wrap (a*2 ^ (min b.toNat k.bits))))
  |.shr=>req g (0<=b)/\K (.int k (a.fdiv (2 ^ (min b.toNat k.bits))))
  |_=>False
 |_,_=>False
def mG(P:Program)(t:TypeId)(y:Operand):Bool:=match y with
 |.const .nilIface=>match P.underlying t with
  |some (.interface _)=>Ta
  |_=>Tc
 |_=>Tc
def hX:Value->Bool
 |.nilIface=>Ta
 |.iface _ _=>Ta
 |_=>Tc
def iC:Value->Bool
 |.nilIface=>Ta
 |_=>Tc
def ou(b:BinOp)(x y:Value)(g:Option Bool)(K:Value->Prop):Prop:=match y with
 |.nilIface=>match b with
  |.eql=>req g (hX x=Ta)/\K (.bool (iC x))
  |.neq=>req g (hX x=Ta)/\K (.bool (!iC x))
  |_=>False
 |_=>False
def Dr(b:Builtin)(c:Array TypeId)(e:TypeId)(args:Array Value):Option (Sem Value):=
 match b with
 |.append=>Td (Ug c e args)
 |.copy=>Td (Builtin.copy_ c e args)
 |.clear=>Td (Builtin.clear_ c e args)
 |.delete=>Td (Builtin.delete_ c e args)
 |.len=>Td (WF c e args)
 |_=>Te
def vI(P:Program)(s:Sem Next)(ty:TypeId)(b:Array TypeId)(args:Array Value)(g:Option Bool)(h:zb)(K:Value->Prop):Prop:=
 match (args[0]?:Option Value)with
 |some (Value.map _)=>nv P ty (WF b ty args) g h K
 |_=>fx P s K
def gy(P:Program)(t:TypeId):Bool:=match P.underlying t with
 |some (.slice el)=>qj P el
 |some (.array _ el)=>qj P el
 |_=>Ta
theorem Zs(h:gy P t=Ta):∀el,(P.underlying t=Td (.slice el)\/∃n,P.underlying t=Td (.array n el))->∃i,P.info? el=Td i:=by intro el b;unfold gy at h;grind [wh]
def lE(P:Program)(t:TypeId):Bool:=match P.underlying t with
 |some .string=>Ta
 |_=>Tc
theorem BV(h:lE P t=Ta):P.underlying t=Td .string:=by unfold lE at h;grind
def qs(P:Program)(s:Sem Next)(x:Value)(g:Option Bool)(K:Value->Prop):Prop:=match x with
 |.pointer p=>∃a:Addr,req g (p=Td a)/\K (.pointer (Td a))
 |_=>fx P s K
def X4(P:Program)(o:Oper)(ρ:Operand->Value)(g:Option Bool)(h:zb)(K:Value->Prop):Prop:=
 match o.op with
 |.load t a=>iE P h t (ρ a) g K
 |.indexAddr t x i=>bif gy P t then l9 P t (ρ x) (ρ i) g K else False
 |.index t x i=>bif lE P t then ta (ρ x) (ρ i) g K else fx P (execOp ρ o) K
 |.slice t x lo hi mx=>bif gy P t then np P t (ρ x) (lo.map ρ) (hi.map ρ) (mx.map ρ) g K else False
 |.binOp b t x y _=>bif sD b y then pt b (ρ x) (ρ y) g K else bif mG P t y then ou b (ρ x) (ρ y) g K else oW P t (execOp ρ o) b (ρ x) (ρ y) g K
 |.lookup t m k ok=>nv P o.type (XG t (ρ m) (ρ k) ok) g h K
 |.nilCheck x=>qs P (execOp ρ o) (ρ x) g K
 |.call c=>match c.callee with
  |.builtin .len=>vI P (execOp ρ o) o.type c.argTypes (c.args.map ρ) g h K
  |_=>fx P (execOp ρ o) K
 |_=>fx P (execOp ρ o) K
theorem qd{s:Sem Next}{K:Value->Prop}(H:fx P s K)(g:Option Bool):∃v,K v/\(da g->∀h:zb,QExec P s h (.value v)):=by unfold fx at H;grind [TB]
theorem xV{s:Sem Value}{K:Value->Prop}(H:nv P ty s g h K):∃v,K v/\(da g->QExec P s h v):=by unfold nv at H;split at H;obtain⟨v,h1,h2⟩:=oD H;exact⟨v,h2,λb=>h1.out b⟩;exact H.elim
theorem x7{c:BinOp}(t:TypeId)(x y:Operand)(a b:Value)(h1:(c matches .eql | .neq)=Tc):eqGuard c t x y a b=pure ():=by unfold eqGuard;grind
theorem nL{s:Sem Value}(h:s.run P w=.ok v w'):(s >>= λx=>(XM (XQ x):Sem Next)).run P w=.ok (.value v) w':=by simp_all
theorem kC{s:Sem Next}{K:Value->Prop}(h:zb)(H:∃v,K v/\(da g->∀h:zb,QExec P s h (.value v))):∃v,K v/\(da g->QExec P s h (.value v)):=
 let ⟨v,h1,h2⟩:=H;⟨v,h1,λb=>h2 b h⟩
theorem GB{q:BinOp}{x y:Operand}(r:o.op=.binOp q t x y t'){K:Value->Prop}
  (H:oW P t (execOp ρ o) q (ρ x) (ρ y) g K):∃v,K v/\(da g->∀h:zb,QExec P (execOp ρ o) h (.value v)):=by
 have f:∀(q:BinOp) (x y:Operand) (a b:Option Addr) (l c z u:Nat) (w:World),(eqGuard q t x y (.slice a l c) (.slice b z u)).run P w=.ok () w:=λq x y a b l c z u w=>by unfold eqGuard;simp
 have e:∀(q:BinOp) (x y:Operand) (a b:Option Addr) (w:World),(eqGuard q t x y (.pointer a) (.pointer b)).run P w=.ok () w:=λq x y a b w=>by unfold eqGuard;simp
 unfold oW at H;split at H;rename_i a l c m i;cases hs:jE P t with
 |false=>rw[hs]at H;exact qd H g
 |true=>
  rw[hs,zG]at H;refine⟨_,H,λp h B d=>?_⟩;have n:∃el,P.underlying t=Td (.slice el):=by unfold jE at hs;split at hs;simp_all;cases hs
  obtain⟨el,n⟩:=n;simp only[execOp,r,m,i];refine nL ?_;rw[Sem.run_bind,f];simp only[Result.andThen_ok,binOp,Sem.run_bind,run_equal_slice_nil _ t _ _ _ _ n];rfl
 rename_i a l c m i;cases hs:jE P t with
 |false=>rw[hs]at H;exact qd H g
 |true=>
  rw[hs,zG]at H;refine⟨_,H,λp h B d=>?_⟩;have n:∃el,P.underlying t=Td (.slice el):=by unfold jE at hs;split at hs;simp_all;cases hs
  obtain⟨el,n⟩:=n;simp only[execOp,r,m,i];refine nL ?_;rw[Sem.run_bind,f];simp only[Result.andThen_ok,binOp,Sem.run_bind,run_equal_slice_nil _ t _ _ _ _ n];rfl
 rename_i a m i;cases hs:jW P t with
 |false=>rw[hs]at H;exact qd H g
 |true=>rw[hs,zG]at H;refine⟨_,H,λp h B d=>?_⟩;have n:=By hs;simp only[execOp,r,m,i];refine nL ?_;rw[Sem.run_bind,e];simp only[Result.andThen_ok,binOp,Sem.run_bind,run_equal_pointer_nil _ t _ n];rfl
 rename_i a m i;cases hs:jW P t with
 |false=>rw[hs]at H;exact qd H g
 |true=>rw[hs,zG]at H;refine⟨_,H,λp h B d=>?_⟩;have n:=By hs;simp only[execOp,r,m,i];refine nL ?_;rw[Sem.run_bind,e];simp only[Result.andThen_ok,binOp,Sem.run_bind,run_equal_pointer_nil _ t _ n];rfl
 rename_i k a C b m i;obtain⟨rfl,h1,h2⟩:=H;refine⟨_,h2,λp=>?_⟩;have s:=h1.out p;intro h B d;simp only[execOp,r,m,i];rw[x7 _ _ _ _ _ rfl];simp[binOp,Op.intDiv,s];rename_i k a C b m i;obtain⟨rfl,h1,h2⟩:=H;refine⟨_,h2,λp=>?_⟩;have s:=h1.out p;intro h B d;simp only[execOp,r,m,i];rw[x7 _ _ _ _ _ rfl];simp[binOp,Op.intDiv,s];rename_i a b m i;obtain⟨h1,h2⟩:=H;refine⟨_,h2,λp=>?_⟩;have s:=h1.out p;intro h B d;simp only[execOp,r,m,i];rw[x7 _ _ _ _ _ rfl];have A:¬((a.size+b.size:Nat):Int)>IntKind.i64.max:=by
  unfold zw at s;have:IntKind.i64.max=9223372036854775807:=by decide
  omega
 simp only[binOp,Op.stringOp,za A];rfl;exact qd H g
theorem Hc{l:BinOp}{x y:Operand}(e:o.op=.binOp l t x y t'){K:Value->Prop}
  (H:pt l (ρ x) (ρ y) g K):∃v,K v/\(da g->∀h:zb,QExec P (execOp ρ o) h (.value v)):=by
 unfold pt at H;split at H;rename_i k a n b i f;split at H;obtain⟨h1,h2⟩:=H;refine⟨_,h2,λc h B d=>?_⟩;have m:=h1.out c;simp only[execOp,e,i,f];rw[x7 _ _ _ _ _ rfl];simp only[binOp,Op.shift,za (show¬b<0 by omega)];rfl;obtain⟨h1,h2⟩:=H;refine⟨_,h2,λc h B d=>?_⟩;have m:=h1.out c;simp only[execOp,e,i,f];rw[x7 _ _ _ _ _ rfl];simp only[binOp,Op.shift,za (show¬b<0 by omega)];rfl;exact H.elim;exact H.elim
theorem Kh{b:BinOp}{x y:Operand}(k:o.op=.binOp b t x y t'){K:Value->Prop}
  (i:mG P t y=Ta) (H:ou b (ρ x) (ρ y) g K):∃v,K v/\(da g->∀h:zb,QExec P (execOp ρ o) h (.value v)):=by
 have f:∃ms,P.underlying t=Td (.interface ms)/\y=.const .nilIface:=by unfold mG at i;split at i;grind;cases i
 obtain⟨ms,f,rfl⟩:=f;have key:∀{u:Value} (h:zb),hX u=Ta->QExec P (YP t u .nilIface) h (iC u):=by intro u h hi B d;have n:=QExec.underlying (h:=h) f B d;unfold YP Op.maxDepth;cases u <;> first|(cases hi;done)|(unfold Op.equalIn;rw[Sem.run_bind,n];rfl)
 have m:∀b u (h:zb),hX u=Ta->QExec P (eqGuard b t x (.const .nilIface) u .nilIface) h ():=by intro b u h hi B d;unfold eqGuard;cases u <;> first|simp|simp
 have c:∀b u,hX u=Ta->(binOp b t u .nilIface=match b with | .eql=>(do pure (.bool (<-YP t u .nilIface))) | .neq=>(do pure (.bool (!(<-YP t u .nilIface))))|_=>binOp b t u .nilIface):=by intro b u hi;cases u <;> first|(cases hi;done)|(cases b <;> rfl)
 unfold ou at H;split at H;rename_i l;split at H;refine⟨_,H.2,λe h=>?_⟩;have hi:=H.1.out e;simp only[execOp,k,l];refine QExec.val ((m _ _ h hi).bind ?_);rw[c _ _ hi];exact(key h hi).bind (QExec.pure _);refine⟨_,H.2,λe h=>?_⟩;have hi:=H.1.out e;simp only[execOp,k,l];refine QExec.val ((m _ _ h hi).bind ?_);rw[c _ _ hi];exact(key h hi).bind (QExec.pure _);exact H.elim;exact H.elim
theorem vr{b:BinOp}{x y:Operand}(c:o.op=.binOp b t x y t'){K:Value->Prop}
  (H:bif sD b y then pt b (ρ x) (ρ y) g K else bif mG P t y then ou b (ρ x) (ρ y) g K else oW P t (execOp ρ o) b (ρ x) (ρ y) g K):∃v,K v/\(da g->∀h:zb,QExec P (execOp ρ o) h (.value v)):=by
 cases hb:sD b y with
 |true=>rw[hb]at H;exact Hc c H
 |false=>
  rw[hb]at H;cases hn:mG P t y with
  |true=>rw[hn]at H;exact Kh c hn H
  |false=>rw[hn]at H;exact GB c H
theorem Og{c:Call}(b:o.op=.call c)(f:c.callee=.builtin .len){K:Value->Prop}
  (H:vI P (execOp ρ o) o.type c.argTypes (c.args.map ρ) g h K):∃v,K v/\(da g->QExec P (execOp ρ o) h (.value v)):=by
 unfold vI at H;split at H;obtain⟨v,h1,h2⟩:=xV H;refine⟨v,h1,λe=>?_⟩;have:=h2 e;intro B d;simp only[execOp,b,resolve,f,Sem.run_bind,Sem.run_pure,Result.andThen_ok,invoke,builtin];rw[this B d];rfl;exact kC h (qd H g)
theorem qP{K:Value->Prop}(H:X4 P o ρ g h K):∃v,K v/\(da g->QExec P (execOp ρ o) h (.value v)):=by
 unfold X4 at H;split at H;rename_i t a b;obtain⟨v,h1,h2⟩:=yP H;refine⟨v,h1,λe=>?_⟩;simp only[execOp,b];exact(h2 e).val;rename_i t x i b;cases he:gy P t with
 |false=>simp_all
 |true=>rw[he]at H;obtain⟨v,h1,h2⟩:=Z5 (Zs he) H;refine⟨v,h1,λe=>?_⟩;simp only[execOp,b];exact(h2 e h).val
 rename_i t x i b;cases he:lE P t with
 |false=>rw[he]at H;exact kC h (qd H g)
 |true=>rw[he]at H;obtain⟨v,h1,h2⟩:=X3 (BV he) H;refine⟨v,h1,λe=>?_⟩;simp only[execOp,b];exact(h2 e h).val
 rename_i t x lo hi mx b;cases he:gy P t with
 |false=>simp_all
 |true=>rw[he]at H;obtain⟨v,h1,h2⟩:=Yu (Zs he) H;refine⟨v,h1,λe=>?_⟩;simp only[execOp,b];exact(h2 e h).val
 rename_i n t x y t' b;exact kC h (vr b H);rename_i t m k ok b;obtain⟨v,h1,h2⟩:=xV H;refine⟨v,h1,λe=>?_⟩;simp only[execOp,b];exact(h2 e).val;rename_i x b;unfold qs at H;split at H;rename_i p l;obtain⟨a,h1,h2⟩:=H;refine⟨_,h2,λe=>?_⟩;have f:=h1.out e;subst f;intro B d;simp only[execOp,b,l];rfl;exact kC h (qd H g);rename_i c b;split at H;simp_all[Og];exact kC h (qd H g);exact kC h (qd H g)
def hC(o:Oper):Bool:=match o.op with
 |.lookup .. => Tc
 |.call c=>match c.callee with
  |.builtin .len=>Tc
  |_=>Ta
 |_=>Ta
theorem NJ{p:Addr}(H:zc h p=Td v):p.block<h.size:=by unfold zc at H;grind
theorem Av{h h':zb}(k:Keep h.size h h'){p:Addr}(H:zc h p=Td v):zc h' p=Td v:=by have:=NJ H;unfold zc at H ⊢;rw[k.get _ this];exact H
theorem wN{h h':zb}(k:Keep h.size h h'){p:Addr}:∀{vs:List Value} {i:Nat},zd h p i vs->zd h' p i vs
 |[],_,_=>trivial
 |_::_,_,⟨h1,h2⟩=>⟨Av k h1,wN k h2⟩
theorem v6{K:Value->Prop}(u:hC o=Ta)(H:X4 P o ρ g h K):∃v,K v/\(da g->∀h',Keep h.size h h'->QExec P (execOp ρ o) h' (.value v)):=by
 unfold X4 at H;split at H;rename_i t a e;unfold iE at H;split at H;rename_i q b n s;obtain⟨x,h1,h2⟩:=H;refine⟨_,h2,λf h' r=>?_⟩;simp only[execOp,e,n];exact(kQ s (Av r (h1.out f))).val;rename_i q l n s;obtain⟨vs,h0,⟨h1,h2⟩,_⟩:=Jd H (xb l);refine⟨_,h2,λf h' r=>?_⟩;simp only[execOp,e,n];exact(mu s h0 (wN r (h1.out f))).val;exact H.elim;rename_i t x i e;cases he:gy P t with
 |false=>simp_all
 |true=>rw[he]at H;obtain⟨v,h1,h2⟩:=Z5 (Zs he) H;refine⟨v,h1,λf h' _=>?_⟩;simp only[execOp,e];exact(h2 f h').val
 rename_i t x i e;cases he:lE P t with
 |false=>rw[he]at H;obtain⟨v,h1,h2⟩:=qd H g;grind
 |true=>rw[he]at H;obtain⟨v,h1,h2⟩:=X3 (BV he) H;refine⟨v,h1,λf h' _=>?_⟩;simp only[execOp,e];exact(h2 f h').val
 rename_i t x lo hi mx e;cases he:gy P t with
 |false=>simp_all
 |true=>rw[he]at H;obtain⟨v,h1,h2⟩:=Yu (Zs he) H;refine⟨v,h1,λf h' _=>?_⟩;simp only[execOp,e];exact(h2 f h').val
 rename_i A t x y t' e;obtain⟨v,h1,h2⟩:=vr e H;grind;rename_i t m k ok e;simp[hC,e]at u;rename_i x e;unfold qs at H;split at H;rename_i p w;obtain⟨a,h1,h2⟩:=H;refine⟨_,h2,λf h' _=>?_⟩;have n:=h1.out f;subst n;intro B d;simp only[execOp,e,w];rfl;obtain⟨v,h1,h2⟩:=qd H g;grind;rename_i c e;split at H;rename_i z;simp[hC,e,z]at u;obtain⟨v,h1,h2⟩:=qd H g;grind;obtain⟨v,h1,h2⟩:=qd H g;grind
def g9(P:Program){α:Type}:Sem α->zb->(α->zb->Prop)->Prop
 |.pure a,h,K=>K a h
 |.program k,h,K=>g9 P (k P) h K
 |.mark _ k,h,K=>g9 P k h K
 |.new o k,h,K=>g9 P (k h.size) (h.push o) K
 |_,_,_=>False
theorem vM{α:Type}{s:Sem α}{K:α->zb->Prop}(H:g9 P s h K)(B:World)(d:Nat):∃x h',s.run P (mk B d h)=.ok x (mk B d h')/\K x h':=by
 induction s generalizing h with
 |pure a=>exact⟨a,h,rfl,H⟩
 |program k b=>exact b P H
 |mark m k b=>exact b H
 |new o k b=>obtain⟨x,h',h1,h2⟩:=b h.size H;exact⟨x,h',h1,h2⟩
 |_=>exact H.elim
def typed(P:Program)(ty:TypeId)(v:Value)(K:Value->Prop):Prop:=match kV P ty with
 |some rt=>hP rt λb=>v=b/\K b
 |none=>False
theorem Za{K:Value->Prop}(H:typed P ty v K):K v:=by unfold typed at H;split at H;obtain⟨b,h1,h2⟩:=oD H;grind;exact H.elim
def zo(P:Program)(f:FuncId):Bool:=match P.funcs[f]? with
 |some fn=>(match fn.body with
  |some _=>Ta
  | none => false) && !(fn.name == "runtime.NumGoroutine")
 |none=>Tc
theorem X5(h:zo P f=Ta)(args:Array Value)(w:World):(callFunc f args).run P w=.ok (.enter f args) w:=by unfold zo at h;split at h;rename_i fn b;simp only[Ui,WZ]at h;obtain⟨h1,h2⟩:=h;unfold callFunc;simp only[program,Sem.run_bind,Sem.run,Result.andThen_ok,b];split at h1;simp_all;cases h1;cases h
def mz(P:Program)(v:Value)(args:Array Value)(K:FuncId->Array Value->Prop):Prop:=match v with
 |.func (.func f) first cap=>zo P f=Ta/\K f (first++args++cap)
 |_=>False
theorem xZ{c:Call}{x:Operand}(b:o.op=.call c)(h:c.callee=.value x){K:FuncId->Array Value->Prop}(H:mz P (ρ x) (c.args.map ρ) K):
  ∃f args,K f args/\∀w,(execOp ρ o).run P w=.ok (.enter f args) w:=by
 unfold mz at H;split at H;rename_i f first cap e
 obtain⟨h1,h2⟩:=H;refine⟨_,_,h2,λw=>?_⟩;simp only[execOp,b,resolve,h,e,XW,Sem.run_bind,Sem.run_pure,Result.andThen_ok,invoke];exact X5 h1 _ w;exact H.elim
def kX:Operand->Bool
 |.func _=>Ta
 |_=>Tc
def IV(P:Program)(f:FuncId):Bool:=match P.funcs[f]? with
 |some fn=>(match fn.body with
  |some _=>Tc
  |none=>Ta)
 |none=>Tc
def Mj(P:Program)(f:FuncId)(args:Array Value)(h:zb)(K:Value->zb->Prop):Prop:=∀B d,∃v b h',(callFunc f args).run P (mk B d h)=.ok (.value v) (mk B b h')/\K v h'
def wc(P:Program):Operand->Bool
 |.func f=>IV P f
 |_=>Tc
def sQ(P:Program)(v:Value)(args:Array Value)(h:zb)(K:Value->zb->Prop):Prop:=match v with
 |.func (.func f) first cap=>Mj P f (first++args++cap) h K
 |_=>False
theorem Mu{c:Call}{x:Operand}(e:o.op=.call c)(k:c.callee=.value x)(H:sQ P (ρ x) (c.args.map ρ) h K)(B:World)(d:Nat):
  ∃v b h',(execOp ρ o).run P (mk B d h)=.ok (.value v) (mk B b h')/\K v h':=by
 unfold sQ at H;split at H;rename_i f first cap i
 obtain⟨v,b,h',h1,h2⟩:=H B d;refine⟨v,b,h',?_,h2⟩;simp only[execOp,e,resolve,k,i,XW,Sem.run_bind,Sem.run_pure,Result.andThen_ok,invoke];exact h1;exact H.elim
def Cn(P:Program)(t:TypeId):Bool:=match P.underlying t with
 |some (.map _ _)=>Ta
 |_=>Tc
def pZ(P:Program)(o:Oper)(ρ:Operand->Value)(h:zb)(K:Value->zb->Prop):Prop:=
 match o.op with
 |.store t a x=>XRunU P (Ub t (ρ a) (ρ x)) h λh'=>K undef h'
 |.mapUpdate t m k x=>XRunU P (VC t (ρ m) (ρ k) (ρ x)) h λh'=>K undef h'
 |.insert t m k x=>XRunU P (VC t (ρ m) (ρ k) (ρ x)) h λh'=>K undef h'
 |.entryStore t m s x=>XRunU P (Instr.entryStore t (ρ m) (ρ s) (ρ x)) h λh'=>K undef h'
 |.mapEntry t m k=>XRun P (Instr.mapEntry t (ρ m) (ρ k)) h λv h'=>typed P o.type v λe=>K e h'
 |.makeSlice t l c=>XRun P (Instr.makeSlice t (ρ l) (ρ c)) h λv h'=>typed P o.type v λe=>K e h'
 |.convert s t x=>XRun P (convert s t (ρ x)) h λv h'=>typed P o.type v λe=>K e h'
 |.typeAssert x t t' ok=>XRun P (Instr.typeAssert (ρ x) t t' ok) h λv h'=>typed P o.type v λe=>K e h'
 |.range t x=>bif Cn P t then XRun P (YE t (ρ x)) h λv h'=>∃q:Option Addr,v=.pointer q/\K (.pointer q) h' else g9 P (execOp ρ o) h λnx h'=>match nx with
   |.value v=>K v h'
   |.skip=>K undef h'
   |_=>False
 |.next x s=>bif s then XRun P (WS (ρ x) s o.type) h λv h'=>(v=.tuple #[.bool Tc]/\K (.tuple #[.bool Tc]) h')\/∃k u:Int,v=.tuple #[.bool Ta,.int .i64 k,.int .i32 u]/\K (.tuple #[.bool Ta,.int .i64 k,.int .i32 u]) h'
  else XRun P (WS (ρ x) s o.type) h λv h'=>(v=.tuple #[.bool Tc]/\K (.tuple #[.bool Tc]) h')\/∃k u:Value,v=.tuple #[.bool Ta,k,u]/\K (.tuple #[.bool Ta,k,u]) h'
 |.entry x=>XRun P (XS (ρ x)) h λv h'=>∃k u:Value,v=.tuple #[k,u]/\K (.tuple #[k,u]) h'
 |.call c=>match c.callee with
  |.builtin b=>match Dr b c.argTypes o.type (c.args.map ρ)with
   |some s=>XRun P s h λv h'=>typed P o.type v λe=>K e h'
   |none=>False
  |.value x=>bif wc P x then sQ P (ρ x) (c.args.map ρ) h (λv h'=>typed P o.type v λe=>K e h')else bif kX x then(g9 P (execOp ρ o) h λnx h'=>match nx with
   |.enter f args=>XC P f args h' λv h''=>typed P o.type v λe=>K e h''
   |.value v=>K v h'
   |_=>False)else mz P (ρ x) (c.args.map ρ) λf args=>XC P f args h λv h''=>typed P o.type v λe=>K e h''
  |_=>False
 |_=>g9 P (execOp ρ o) h λnx h'=>match nx with
   |.value v=>K v h'
   |.skip=>K undef h'
   |_=>False
def NV:Builtin->Bool
 |.append | .copy | .clear | .delete=>Ta
 |_=>Tc
def Sy(P:Program)(s t:TypeId):Bool:=match P.underlying s,P.underlying t with
 |some (.int _),Td (.int _)=>Ta
 |some .string,Td .string=>Ta
 |_,_=>Tc
def gW(P:Program)(o:Oper):Bool:=
 match o.op with
 |.load _ _ | .indexAddr _ _ _ | .index _ _ _ | .slice _ _ _ _ _ | .binOp _ _ _ _ _ | .lookup _ _ _ _ | .nilCheck _=>Ta
 |.move _ | .assign _ | .unOp _ _ _ | .build _ _ | .makeFunc _ _ _ | .makeInterface _ _ | .extract _ _ | .field _ _ _ | .fieldAddr _ _ _=>Ta
 |.convert s t _=>Sy P s t
 |.call c=>match c.callee with
  |.builtin b=>!NV b
  |_=>Tc
 |_=>Tc
def tE(P:Program)(o:Oper)(ρ:Operand->Value)(b:Bool)(h:zb)(K:Value->zb->Prop):Prop:=
 match kV P o.type with
 |some rt=>∃J:Value->zb->Prop,(b=Ta->pZ P o ρ h J)/\(b=Tc->hP rt λv=>J v h)/\(b=Ta->∀v h',J v h'->hP rt λc=>v=c)/\wS rt λv=>∀h',J v h'->K v h'
 |none=>False
def stepW(P:Program)(o:Oper)(ρ:Operand->Value)(g:Option Bool)(h:zb)(K:Value->zb->Prop):Prop:=
 bif gW P o then X4 P o ρ g h (λv=>K v h)else match g with
  |none=>pZ P o ρ h K
  |some b=>tE P o ρ b h K
theorem upon_value{next:Act->World->Prop}{Q:Exit->Act->World->Prop}{s:Sem Next}(h:s.run P w=.ok (.value v) w')(b:next (a.put o.dst v) w'): o.upon P a next Q (s.run P w):=by rw[h];exact b
theorem upon_skip{next:Act->World->Prop}{Q:Exit->Act->World->Prop}{s:Sem Next}(h:s.run P w=.ok .skip w')(b:next (a.put o.dst undef) w'): o.upon P a next Q (s.run P w):=by rw[h];exact b
theorem eP{s:Sem Value}(h:s.run P w=.ok v w'):(s >>= λx=>(XM (XQ x):Sem Next)).run P w=.ok (.value v) w':=by simp_all
theorem kL{s:Sem Unit}(h:s.run P w=.ok () w'):(s >>= λ_=>(XM Next.skip:Sem Next)).run P w=.ok .skip w':=by simp_all
theorem EL(H:pZ P o ρ h K)(B:World)(d:Nat){next:Act->World->Prop}{Q:Exit->Act->World->Prop}
  (i:∀v e h',K v h'->next (a.put o.dst v) (mk B e h')):o.upon P a next Q ((execOp ρ o).run P (mk B d h)):=by
 unfold pZ at H;split at H;case h_1 t x y ho=>obtain⟨e,h',h1,h2⟩:=H B d;exact upon_skip (by simp only[execOp,ho];exact kL h1) (i _ _ _ h2)
 case h_2 t m k x ho=>obtain⟨e,h',h1,h2⟩:=H B d;exact upon_skip (by simp only[execOp,ho];exact kL h1) (i _ _ _ h2)
 case h_3 t m k x ho=>obtain⟨e,h',h1,h2⟩:=H B d;exact upon_skip (by simp only[execOp,ho];exact kL h1) (i _ _ _ h2)
 case h_4 t m s x ho=>obtain⟨e,h',h1,h2⟩:=H B d;exact upon_skip (by simp only[execOp,ho];exact kL h1) (i _ _ _ h2)
 case h_5 t m k ho=>obtain⟨v,e,h',h1,h2⟩:=H B d;exact upon_value (by simp only[execOp,ho];exact eP h1) (i _ _ _ (Za h2))
 case h_6 t l c ho=>obtain⟨v,e,h',h1,h2⟩:=H B d;exact upon_value (by simp only[execOp,ho];exact eP h1) (i _ _ _ (Za h2))
 case h_7 s t x ho=>obtain⟨v,e,h',h1,h2⟩:=H B d;exact upon_value (by simp only[execOp,ho];exact eP h1) (i _ _ _ (Za h2))
 case h_8 x t t' ok ho=>obtain⟨v,e,h',h1,h2⟩:=H B d;exact upon_value (by simp only[execOp,ho];exact eP h1) (i _ _ _ (Za h2))
 case h_9 t x ho=>
  cases hm:Cn P t with
  |true=>rw[hm]at H;obtain⟨v,e,h',h1,q,rfl,h2⟩:=H B d;exact upon_value (by simp only[execOp,ho];exact eP h1) (i _ _ _ h2)
  |false=>rw[hm]at H;obtain⟨nx,h',h1,h2⟩:=vM H B d;grind [upon_value,upon_skip]
 case h_10 x s ho=>
  cases s with
  |true=>simp only[zG]at H;obtain⟨v,e,h',h1,h2⟩:=H B d;refine upon_value (v:=v) (w':=mk B e h') (by simp only[execOp,ho];exact eP h1) (i _ _ _ ?_);grind
  |false=>simp only[zH]at H;obtain⟨v,e,h',h1,h2⟩:=H B d;refine upon_value (v:=v) (w':=mk B e h') (by simp only[execOp,ho];exact eP h1) (i _ _ _ ?_);grind
 case h_11 x ho=>obtain⟨v,e,h',h1,k,u,rfl,h2⟩:=H B d;exact upon_value (by simp only[execOp,ho];exact eP h1) (i _ _ _ h2)
 case h_12 c ho=>
  split at H;rename_i b r;split at H;rename_i s n;obtain⟨v,e,h',h1,h2⟩:=H B d;refine upon_value (w':=mk B e h') ?_ (i _ _ _ (Za h2));have key:execOp ρ o=s >>= λx=>(XM (XQ x):Sem Next):=by
   simp only[execOp,ho,resolve,r];unfold Dr at n;split at n <;> first
    |(simp only[Ud]at n;subst n;rfl)
    |cases n
  simp_all;exact H.elim
  ·rename_i x p;cases hex:wc P x with
   |true=>rw[hex]at H;obtain⟨v,e,h',h1,h2⟩:=Mu ho p H B d;exact upon_value h1 (i _ _ _ (Za h2))
   |false=>
   rw[hex]at H;simp only[zH]at H;cases hst:kX x with
   |true=>
    rw[hst]at H;obtain⟨nx,h',h1,h2⟩:=vM H B d;cases nx with
    |enter f args=>rw[h1];refine(h2 B d).mono ?_;grind [Za]
    |value v=>exact upon_value h1 (i _ _ _ h2)
    |_=>exact h2.elim
   |false=>rw[hst]at H;simp only[zH]at H;obtain⟨f,args,h1,h2⟩:=xZ ho p H;rw[h2];refine(h1 B d).mono ?_;grind [Za]
  exact H.elim
 case h_13=>obtain⟨nx,h',h1,h2⟩:=vM H B d;grind [upon_value,upon_skip]
theorem Nj(H:stepW P o ρ g h K)(c:da g)(B:World)(d:Nat){next:Act->World->Prop}{Q:Exit->Act->World->Prop}
  (e:∀v f h',K v h'->next (a.put o.dst v) (mk B f h')):o.upon P a next Q ((execOp ρ o).run P (mk B d h)):=by
 unfold stepW at H;cases hq:gW P o with
 |true=>rw[hq]at H;obtain⟨v,h1,h2⟩:=qP H;exact upon_value (h2 c B d) (e _ _ _ h1)
 |false=>
  rw[hq]at H;cases g with
  |none=>exact EL H B d e
  |some b=>have i:b=Ta:=c;subst i;simp only[zH]at H;unfold tE at H;grind [EL,Fs]
theorem MS(H:stepW P o ρ (Td Tc) h K):∃v,K v h:=by
 unfold stepW at H;cases hq:gW P o with
 |true=>grind [qP]
 |false=>rw[hq]at H;simp only[zH]at H;unfold tE at H;grind [Fs]
end
section
variable {n:Nat} {e:bK} {a b:Act} {c:qp} {g:Option Bool} {P:Program} {o:Oper} {h:zb} {K:Value -> zb -> Prop} {ms:List Nat}
def Q2(e:bK):qp->Option (Option Bool)
 |[]=>Td Te
 |c=>match lG e c with
  |some b=>Td (Td b)
  |none=>Te
theorem Q3(i:Sat n e a)(h:Q2 e c=Td g)(k:valid (qg a) c):da g:=by unfold Q2 at h;split at h;simp only[Ud]at h;subst h;trivial;split at h;rename_i b f;simp only[Ud]at h;subst h;exact(uq i f).2 k;cases h
theorem Rv(k:Sat n e a)(h:Q2 e c=Td g)(f:¬valid (qg a) c):g=Td Tc:=by
 unfold Q2 at h;split at h;exact absurd trivial f;split at h;rename_i b i;simp only[Ud]at h;subst h;cases b with
 |false=>rfl
 |true=>exact absurd ((uq k i).1 rfl) f
 cases h
def mV(b:Bool):Value->Value->Value
 |.bool x,.bool y=>.bool (bif b then x else y)
 |x,y=>bif b then x else y
theorem BX(b:Bool)(x y:Value):mV b x y=if b=Ta then x else y:=by unfold mV;grind
def pP:Option Value->Option Value->Option Value
 |some v,_=>Td v
 |none,w=>w
def pu(e:bK)(c:qp)(x a b:Operand)(K:Value->Prop):Prop:=
 match x with
 |.tmp s=>match look e s with
  |some (cs,.bool t)=>bif fQ cs c then(match pP (Xq e c a) (Xq e ((s,Ta)::cs) a),pP (Xq e c b) (Xq e ((s,Tc)::cs) b)with
    |some va,some vb=>K (mV t va vb)
    |_,_=>False)else False
  |_=>False
 |_=>False
theorem tQ{f:Act}(i:Sat n e f){x a b:Operand}{K:Value->Prop}(H:pu e c x a b K):
  ∃v,K v/\(valid (qg f) c->∃t,f.eval x=.bool t/\(if t=Ta then f.eval a else f.eval b)=v):=by
 unfold pu at H;split at H;rename_i s;split at H;rename_i cs t m;cases hsf:fQ cs c with
 |false=>simp_all
 |true=>
  rw[hsf]at H;simp only[zG]at H;split at H;rename_i q r l k;refine⟨_,H,λp=>⟨t,?_,?_⟩⟩;exact(i.all _ (jG m)).1 (Jc hsf p);have h:=Jc hsf p;have o:qg f s=.bool t:=(i.all _ (jG m)).1 h;rw[BX];cases t with
  |true=>simp only[if_true];unfold pP at l;split at l;grind [Ud,qt];exact qt i (c:=(s,Ta)::cs) ⟨o,h⟩ l
  |false=>simp only[UR,if_false];unfold pP at k;split at k;grind [Ud,qt];exact qt i (c:=(s,Tc)::cs) ⟨o,h⟩ k
  exact H.elim
 exact H.elim;exact H.elim
def gV(P:Program)(o:Oper)(e:bK)(c:qp)(h:zb)(K:Value->zb->Prop):Prop:=
 match o.op with
 |.pick x a b=>pu e c x a b λv=>K v h
 |_=>bif Wh o.op then(bif known e c o.op.operands.toList then(match Q2 e c with
   |some g=>stepW P o (eG e c) g h K
   |none=>False)else False)else False
def wR(P:Program)(n:Nat)(ops:Array Oper)(K:bK->zb->Prop):List Oper->bK->zb->Prop
 |[],e,h=>K (clean e) h
 |o::rest,e,h=>match xz ops e o.guard with
  |some c=>bif xg n c o.dst then gV P o e c h λv h'=>wR P n ops K rest (putO e o.dst c v) h' else False
  |none=>False
theorem DV(H:gV P o e c h K)(k:Sat n e a)(m:valid (qg a) c)(B:World)(d:Nat)
  {next:Act->World->Prop} {Q:Exit->Act->World->Prop} (l:∀v f h',K v h'->next (a.put o.dst v) (mk B f h')):o.wp P a (mk B d h) next Q:=by
 unfold gV at H;unfold Oper.wp;split at H;rename_i x y z b;obtain⟨v,h1,h2⟩:=tQ k H;obtain⟨t,i,p⟩:=h2 m;refine upon_value (w':=mk B d h) (v:=v) ?_ (l _ _ _ h1);simp only[execOp,b,i,asBool,Sem.run_bind,Sem.run_pure,Result.andThen_ok];rw[p];cases hns:Wh o.op with
 |false=>simp_all
 |true=>
  rw[hns]at H;cases hk:known e c o.op.operands.toList with
  |false=>simp_all
  |true=>rw[hk]at H;simp only[zG]at H;grind [oG,Nj,Q3]
theorem Cu(H:gV P o e c h K)(f:Sat n e a)(b:¬valid (qg a) c):∃v,K v h:=by
 unfold gV at H;split at H;grind [tQ];cases hns:Wh o.op with
 |false=>simp_all
 |true=>
  rw[hns]at H;cases hk:known e c o.op.operands.toList with
  |false=>simp_all
  |true=>rw[hk]at H;simp only[zG]at H;grind [Rv,MS]
def xx:List Oper->List Nat
 |[]=>[]
 |o::l=>match o.dst with
  |some d=>d::xx l
  |none=>xx l
def Same(ms:List Nat)(a b:Act):Prop:=∀i,i∉ms->qg b i=qg a i
theorem Same.refl(ms:List Nat)(a:Act):Same ms a a:=λ_ _=>rfl
theorem Same.trans{a b c:Act}(h:Same ms a b)(k:Same ms b c):Same ms a c:=λi hi=>(k i hi).trans (h i hi)
theorem Same.mono{ms c:List Nat}(h:Same ms a b)(f:∀x∈ms,x∈c):Same c a b:=λi hi=>h i λe=>hi (f i e)
theorem Same.put(a:Act)(d:Option Nat)(v:Value)(h:∀i,d=Td i->i∈ms):Same ms a (a.put d v):=by
 intro i hi;cases d with
 |none=>rfl
 |some j=>grind [y0]
theorem mr{P:Program}{n:Nat}{ops:Array Oper}{K:bK->zb->Prop}{Q:Exit->Act->World->Prop}(B:World):
  ∀(l:List Oper) (e:bK) (h:zb) (a:Act) (d:Nat),wR P n ops K l e h->Sat n e a->(∀e' a' k h',Sat n e' a'->Same (xx l) a a'->K e' h'->Q .normal a' (mk B k h'))->wpList P ops Q l a (mk B d h)
 |[],e,h,a,d,H,hs,hQ=>hQ _ _ _ _ hs.clean (Same.refl _ _) H
 |o::rest,e,h,a,d,H,hs,hQ=>by
  unfold wR at H;split at H;rename_i c z;cases hd:xg n c o.dst with
  |false=>simp_all
  |true=>
   rw[hd]at H;simp only[zG]at H;have p:=Z4 hs z;have f:∀i,o.dst=Td i->i∈xx (o::rest):=λi hi=>by simp[xx,hi]
   have b:∀x∈xx rest,x∈xx (o::rest):=λx q=>by unfold xx;grind
   have s:∀v u k h',(valid (qg a) c->u=v)->(¬valid (qg a) c->u=undef)->wR P n ops K rest (putO e o.dst c v) h'->wpList P ops Q rest (a.put o.dst u) (mk B k h'):=λv u k h' h1 h2 y=>
    mr B rest _ _ _ _ y (hs.putO hd h1 h2) λe' a' m h'' t A w=>hQ e' a' m h'' t ((Same.put a o.dst u f).trans (A.mono b)) w
   unfold wpList;by_cases r:valid (qg a) c;rw[zA (p.2 r)];grind [DV];rw[za (λq=>r (p.1 q))];grind [Cu]
  exact H.elim
def rC(P:Program)(o:Oper)(ρ:Operand->Value)(g:Option Bool)(h:zb)(K:Value->Prop):Prop:=
 match o.op with
 |.call c=>match c.callee with
  |.value x=>bif kX x then(match Yt P (execOp ρ o)with
    |some (.enter f args)=>match kV P o.type with
     |some rt=>hP rt λv=>req g (XC P f args h λb h'=>b=v/\h'=h)/\K v
     |none=>False
    |_=>False)else(match kV P o.type with
     |some rt=>hP rt λv=>req g (mz P (ρ x) (c.args.map ρ) λf args=>XC P f args h λb h'=>b=v/\h'=h)/\K v
     |none=>False)
  |_=>False
 |_=>False
theorem Ts{ρ:Operand->Value}{K:Value->Prop}(H:rC P o ρ g h K):
  ∃v,K v/\(da g->∃f args,(∀w,(execOp ρ o).run P w=.ok (.enter f args) w)/\XC P f args h λi h'=>i=v/\h'=h):=by
 unfold rC at H;split at H;rename_i c e;split at H;rename_i x k;cases hst:kX x with
 |true=>rw[hst]at H;simp only[zG]at H;split at H;rename_i f args l;split at H;obtain⟨v,h1,h2⟩:=oD H;exact⟨v,h2,λb=>⟨f,args,λw=>wH l w,h1.out b⟩⟩;exact H.elim;exact H.elim
 |false=>rw[hst]at H;simp only[zH]at H;split at H;obtain⟨v,h1,h2⟩:=oD H;refine⟨v,h2,λb=>?_⟩;obtain⟨f,args,m,n⟩:=xZ e k (h1.out b);grind;exact H.elim
 exact H.elim;exact H.elim
def mP(o:Oper):Bool:=match o.op with
 |.call c=>match c.callee with
  |.builtin _=>Tc
  |_=>Ta
 |_=>Tc
def uU(P:Program)(o:Oper)(e:bK)(c:qp)(h:zb)(f:Bool)(K:Value->Prop):Prop:=
 match o.op with
 |.pick x a b=>pu e c x a b K
 |_=>bif Wh o.op then(bif known e c o.op.operands.toList then(match Q2 e c with
   |some g=>bif mP o then(bif f then rC P o (eG e c) g h K else False)else X4 P o (eG e c) g h K
   |none=>False)else False)else False
def wQ(P:Program)(n:Nat)(ops:Array Oper)(h:zb)(b:Bool)(K:bK->Prop):List Oper->bK->Prop
 |[],e=>K e
 |o::rest,e=>match xz ops e o.guard with
  |some c=>bif xg n c o.dst then uU P o e c h b λv=>wQ P n ops h b K rest (putO e o.dst c v)else False
  |none=>False
def YQ(P:Program)(o:Oper)(a:Act)(B:World)(h:zb)(b:Bool)(v:Value):Prop:=
 (∀d,(execOp a.eval o).run P (mk B d h)=.ok (.value v) (mk B d h)) \/
 (b=Ta/\∃f args,(∀d,(execOp a.eval o).run P (mk B d h)=.ok (.enter f args) (mk B d h))/\XC P f args h λc h'=>c=v/\h'=h)
theorem GA{b:Bool}{K:Value->Prop}(H:uU P o e c h b K)(k:Sat n e a)(B:World):
  ∃v,K v/\(valid (qg a) c->YQ P o a B h b v):=by
 unfold uU at H;split at H;rename_i x y z q;obtain⟨v,h1,h2⟩:=tQ k H;refine⟨v,h1,λi=>?_⟩;obtain⟨t,m,l⟩:=h2 i;refine .inl λd=>?_;simp only[execOp,q,m,asBool,Sem.run_bind,Sem.run_pure,Result.andThen_ok];rw[l];cases hns:Wh o.op with
 |false=>simp_all
 |true=>
  rw[hns]at H;cases hk:known e c o.op.operands.toList with
  |false=>simp_all
  |true=>
   rw[hk]at H;simp only[zG]at H;split at H;rename_i g p;cases hc:mP o with
   |false=>rw[hc]at H;obtain⟨v,h1,h2⟩:=qP H;refine⟨v,h1,λi=>.inl λd=>?_⟩;rw[oG k i hns hk];exact h2 (Q3 k p i) B d
   |true=>
    rw[hc]at H;cases b with
    |false=>exact H.elim
    |true=>simp only[zG]at H;obtain⟨v,h1,h2⟩:=Ts H;refine⟨v,h1,λi=>?_⟩;obtain⟨f,args,m,l⟩:=h2 (Q3 k p i);refine .inr ⟨rfl,f,args,λd=>?_,l⟩;grind [oG]
   exact H.elim
theorem AX{P:Program}{n:Nat}{ops:Array Oper}{h:zb}{k:Bool}{K:bK->Prop}{Q:Act->Prop}(B:World):
  ∀(l:List Oper) (e:bK) (a:Act),wQ P n ops h k K l e->Sat n e a->(∀e' a',Sat n e' a'->Same (xx l) a a'->K e'->Q a')->wpQuiet P ops (λw=>∃d,w=mk B d h) Q l a
 |[],e,a,H,hs,hQ=>hQ _ _ hs (Same.refl _ _) H
 |o::rest,e,a,H,hs,hQ=>by
  unfold wQ at H;split at H;rename_i c C;cases hd:xg n c o.dst with
  |false=>simp_all
  |true=>
   rw[hd]at H;simp only[zG]at H;have z:=Z4 hs C;have m:∀i,o.dst=Td i->i∈xx (o::rest):=λi hi=>by simp[xx,hi]
   have b:∀x∈xx rest,x∈xx (o::rest):=λx E=>by unfold xx;grind
   obtain⟨v,t,A⟩:=GA H hs B;have p:∀u,(valid (qg a) c->u=v)->(¬valid (qg a) c->u=undef)->wpQuiet P ops (λw=>∃d,w=mk B d h) Q rest (a.put o.dst u):=λu h1 h2=>
    AX B rest _ _ t (hs.putO hd h1 h2) λe' a' s D y=>hQ e' a' s ((Same.put a o.dst u m).trans (D.mono b)) y
   unfold wpQuiet;by_cases r:valid (qg a) c;rw[zA (z.2 r)];refine⟨v,?_,p v (λ_=>rfl) (λq=>absurd r q)⟩;rintro w ⟨d,rfl⟩;unfold Oper.quietAt;rcases A r with h1|⟨_,f,args,h1,h2⟩;rw[h1 d];exact⟨rfl,rfl⟩;rw[h1 d];refine⟨rfl,(h2 B d).mono ?_⟩;simp;simp_all
  exact H.elim
end
section
variable {i:Nat} {a b:Act} {o:Oper} {h h':zb} {ρ:Operand -> Value} {P:Program} {g:Option Bool} {ops:Array Oper} {listed:Array Bool}
def Xr:List Nat->Nat->Bool
 |[],_=>Tc
 |j::l,i=>bif Nat.beq i j then Ta else Xr l i
theorem Je{l:List Nat}(h:Xr l i=Tc):i∉l:=by
 induction l with
 |nil=>simp
 |cons j l c=>simp only[Xr]at h;by_cases b:Nat.beq i j=Ta;grind;simp_all
def tmpsOf:List Operand->List Nat
 |[]=>[]
 |.tmp t::l=>t::tmpsOf l
 |_::l=>tmpsOf l
def jn(ops:Array Oper)(k:Nat)(S:List Nat):Nat->Bool
 |0=>Ta
 |p+1=>bif (match w9 ops p with
  |some t=>bif Xr S t then Region.waitsFor .any ops k p else Ta
  |none=>Ta)then jn ops k S p else Tc
theorem Yv{ops:Array Oper}{k:Nat}{S:List Nat}:∀{m:Nat},jn ops k S m=Ta->∀p t,p<m->w9 ops p=Td t->t∈S->Region.waitsFor .any ops k p=Ta
 |0,_,p,t,hp,_,_=>by omega
 |m+1,h,p,t,hp,hd,ht=>by
  simp only[jn]at h;cases hb:(match w9 ops m with
   |some t=>bif Xr S t then Region.waitsFor .any ops k m else Ta
   |none=>Ta)with
  |false=>simp_all
  |true=>rw[hb]at h;rcases U1 p m with h1|h1;exact Yv h p t h1 hd ht;grind [Je]
def Jf(ops:Array Oper):Nat->Bool
 |0=>Ta
 |j+1=>bif (match ops[j]? with
  |some o=>o.after.toList.all λe=>!(Region.binds .any e)||Nat.blt e.on j
  |none=>Ta)then Jf ops j else Tc
theorem Z2{ops:Array Oper}:∀{n:Nat},Jf ops n=Ta->∀j o,j<n->ops[j]?=Td o->∀e∈o.after,Region.binds .any e=Ta->e.on<j
 |0,_,j,_,hj,_,_,_,_=>by omega
 |n+1,h,j,o,hj,ho,e,he,hb=>by
  simp only[Jf]at h;cases hc:(match ops[n]? with
   |some o=>o.after.toList.all λe=>!(Region.binds .any e)||Nat.blt e.on n
   |none=>Ta)with
  |false=>simp_all
  |true=>
   rw[hc]at h;rcases U1 j n with h1|h1;exact Z2 h j o h1 ho e he hb;have:j=n:=by omega
   subst this;rw[ho]at hc;have:=Us.1 hc e (by simpa using he);simp_all
def lY(ops:Array Oper)(d:Nat):Nat->Bool
 |0=>Tc
 |p+1=>bif (match w9 ops p with
  |some t=>Nat.beq t d
  |none=>Tc)then Ta else lY ops d p
def ki(ops:Array Oper):Nat->Bool
 |0=>Ta
 |p+1=>bif (match w9 ops p with
  |some t=>!(lY ops t p)
  |none=>Ta)then ki ops p else Tc
theorem vn{ops:Array Oper}{d:Nat}:∀{m:Nat},lY ops d m=Tc->∀p,p<m->w9 ops p≠Td d
 |0,_,p,hp=>by omega
 |m+1,h,p,hp=>by
  simp only[lY]at h;cases hb:(match w9 ops m with
   |some t=>Nat.beq t d
   |none=>Tc)with
  |true=>simp_all
  |false=>
   rw[hb]at h;rcases U1 p m with h1|h1;exact vn h p h1;have:p=m:=by omega
   subst this;intro e;simp_all
theorem Wi{ops:Array Oper}:∀{m:Nat},ki ops m=Ta->∀p q t,p<m->q<m->w9 ops p=Td t->w9 ops q=Td t->p=q
 |0,_,p,q,t,hp,_,_,_=>by omega
 |m+1,h,p,q,t,hp,hq,e1,e2=>by
  simp only[ki]at h;cases hb:(match w9 ops m with
   |some t=>!(lY ops t m)
   |none=>Ta)with
  |false=>simp_all
  |true=>rw[hb]at h;rcases U1 p m with h1|h1 <;> rcases U1 q m with h2|h2;exact Wi h p q t h1 h2 e1 e2;grind [WZ,vn];grind [WZ,vn];omega
def i4(o:Oper):Option Bool:=match o.op with
 |.fieldAddr _ _ _=>Td Ta
 |.indexAddr _ _ _=>Td Ta
 |.move _=>Td Ta
 |.assign _=>match o.after.toList with
  |[]=>Td Ta
  |_=>Te
 |.nilCheck _=>Td Ta
 |.slice _ _ _ _ _=>Td Ta
 |.binOp _ _ _ _ _=>Td Ta
 |.load _ _=>Td Tc
 |_=>Te
def lJ(o:Oper):Bool:=match i4 o with
 |some _=>Ta
 |none=>Tc
def ji(o:Oper):Bool:=match i4 o with
 |some b=>!b
 |none=>Tc
theorem oe{a b:Act}:∀{l:List Operand},(∀t∈tmpsOf l,qg a t=qg b t)->∀x∈l,a.eval x=b.eval x
 |[],_,x,c=>by cases c
 |y::l,h,x,c=>by
  rcases Uj.1 c with rfl|c;cases x with
  |tmp t=>exact h t (by simp[tmpsOf])
  |const v=>rfl
  |global g=>rfl
  |func f=>rfl
  refine oe (l:=l) (λt e=>h t ?_) x c;cases y <;> simp[tmpsOf,e]
theorem uz(c:Wh o.op=Ta)(h:∀t∈tmpsOf o.op.operands.toList,qg a t=qg b t):execOp a.eval o=execOp b.eval o:= execOp_congr o (λcs b e=>by rw[e]at c;cases c) λx f=>oe h x (by simpa using f)
theorem SO{p:Addr}(e:h'[p.block]?=h[p.block]?)(i:Nat):zc h' (p.add i)=zc h (p.add i):=by
 have b:(p.add i).block=p.block:=by unfold Ua;split <;> rfl
 unfold zc;rw[b,e]
theorem En{h h':zb}{p:Addr}(e:h'[p.block]?=h[p.block]?):∀{vs:List Value} {i:Nat},zd h p i vs->zd h' p i vs
 |[],_,_=>trivial
 |v::vs,i,⟨h1,h2⟩=>⟨(SO e i).trans h1,En e h2⟩
def LdOK(o:Oper)(ρ:Operand->Value)(h h':zb):Prop:=ji o=Tc\/Keep h.size h h'\/∀t a p,o.op=.load t a->ρ a=.pointer (Td p)->h'[p.block]?=h[p.block]?
theorem LdOK.congr{ρ c:Operand->Value}(e:∀x∈o.op.operands.toList,c x=ρ x)(H:LdOK o ρ h h'):LdOK o c h h':=by rcases H with H|H|H;exact .inl H;exact .inr (.inl H);refine .inr (.inr λt a p b f=>H t a p b ?_);rw[<-e a (by rw[b];simp[Op.operands])];exact f
theorem Ib{t:TypeId}{x:Value}{K:Value->Prop}(H:iE P h t x g K):∃v p,x=.pointer (Td p)/\K v/\(da g->QExec P (XE t x) h v/\∀h',h'[p.block]?=h[p.block]?->QExec P (XE t x) h' v):=by unfold iE at H;split at H;rename_i q a b;obtain⟨x,h1,h2⟩:=H;refine⟨_,q,rfl,h2,λc=>?_⟩;have h1:zc h q=Td _:=h1.out c;refine⟨kQ b h1,λh' e=>kQ b ?_⟩;unfold zc at h1 ⊢;rw[e];exact h1;rename_i q l b;obtain⟨vs,h0,⟨h1,h2⟩,_⟩:=Jd H (xb l);exact⟨_,q,rfl,h2,λc=>⟨mu b h0 (h1.out c),λh' e=>mu b h0 (En e (h1.out c))⟩⟩;exact H.elim
theorem Sw(n:lJ o=Ta){K:Value->Prop}(H:X4 P o ρ g h K):
  ∃v,K v/\(da g->∀h',LdOK o ρ h h'->QExec P (execOp ρ o) h' (.value v)):=by
 cases ho:o.op with
 |load t x=>
  have e:hC o=Ta:=by unfold hC;rw[ho]
  by_cases b:da g;obtain⟨f,k,k2⟩:=v6 e H;unfold X4 at H;rw[ho]at H;simp only at H;obtain⟨v,p,l,h1,h2⟩:=Ib H;have r:f=v:=by
   have s:=k2 b h (Keep.refl _ _) default 0;have a2:QExec P (execOp ρ o) h (.value v):=by simp only[execOp,ho];exact(h2 b).1.val
   have a2:=a2 default 0;rw[s]at a2;injection a2 with a2 _;injection a2
  subst r;refine⟨f,k,λ_ h' c=>?_⟩;rcases c with c|c|c;unfold ji i4 at c;rw[ho]at c;cases c;exact k2 b h' c;have:=(h2 b).2 h' (c t x p ho l);simp only[execOp,ho];exact this.val;obtain⟨f,k,_⟩:=v6 e H;exact⟨f,k,λm=>absurd m b⟩
 |indexAddr t x i=>
  unfold X4 at H;rw[ho]at H;simp only at H;cases he:gy P t with
  |false=>rw[he]at H;exact H.elim
  |true=>rw[he]at H;obtain⟨v,h1,h2⟩:=Z5 (Zs he) H;refine⟨v,h1,λb h' _=>?_⟩;simp only[execOp,ho];exact(h2 b h').val
 |slice t x lo hi mx=>
  unfold X4 at H;rw[ho]at H;simp only at H;cases he:gy P t with
  |false=>rw[he]at H;exact H.elim
  |true=>rw[he]at H;obtain⟨v,h1,h2⟩:=Yu (Zs he) H;refine⟨v,h1,λb h' _=>?_⟩;simp only[execOp,ho];exact(h2 b h').val
 |binOp u t x y t'=>unfold X4 at H;rw[ho]at H;obtain⟨v,h1,h2⟩:=vr ho H;exact⟨v,h1,λb h' _=>h2 b h'⟩
 |nilCheck x=>unfold X4 at H;rw[ho]at H;simp only at H;unfold qs at H;split at H;rename_i p l;obtain⟨a,h1,h2⟩:=H;refine⟨_,h2,λb h' _ B d=>?_⟩;have q:=h1.out b;subst q;simp only[execOp,ho,l];rfl;obtain⟨v,h1,h2⟩:=qd H g;exact⟨v,h1,λb h' _=>h2 b h'⟩
 |_=>first|(unfold lJ i4 at n;rw[ho]at n;cases n;done)|(unfold X4 at H;rw[ho]at H;obtain⟨v,h1,h2⟩:=qd H g;exact⟨v,h1,λb h' _=>h2 b h'⟩)
theorem wj{d:Option Nat}{u:Value}{s:Nat}(h:d≠Td s):qg (a.put d u) s=qg a s:=by
 cases d with
 |none=>rfl
 |some t=>grind [y0]
theorem OH{next:Act->World->Prop}{Q:Exit->Act->World->Prop}{r:Result Next}(k:b.defers=[])
  (H:o.upon P b (λc w=>c.defers=[]/\∀v,c=b.put o.dst v->next (a.put o.dst v) w) (λ_ _ _=>False) r):o.upon P a next Q r:=by
 have lo:¬LetsOut (λ(_:Exit) (_:Act) (_:World)=>False):=λh=>by obtain⟨_,_,h⟩:=h;exact h
 cases r with
 |ok x w=>
  cases x with
  |value v=>exact H.2 v rfl
  |skip=>exact H.2 undef rfl
  |defer d=>have:=H.1;rw[Zq]at this;cases this
  |enter f args=>refine Calls.mono (show Calls P f args w _ from H) λe w' i=>?_;grind
  |row row args=>exact Rows.mono (show Rows P row args w _ from H) λv w' i=>i.2 v rfl
  |_=>exact H
 |halt x w=>cases x <;> first|exact H.elim|exact H
theorem pO{i p:Nat}(hi:i∈Region.ready .any ops listed)(f:Region.waitsFor .any ops i p=Ta):listed.getD p Tc=Ta:=by obtain⟨n,h,e,l,m,c⟩:=Region.waitsFor_spec f;obtain⟨_,o,k,b⟩:=mem_ready.1 hi;grind
theorem Yw{n:Nat}(inv:HeadInv .any ops n listed){i p:Nat}(hi:listed.getD i Tc=Ta)(f:Region.waitsFor .any ops i p=Ta):listed.getD p Tc=Ta:=by obtain⟨l,c,e,h,k,b⟩:=Region.waitsFor_spec f;rw[<-b];exact inv.closed i l c hi e h k
theorem RI{p:Nat->Bool}{N:Nat}(h:∃k,k<N/\p k=Tc):∃k,k<N/\p k=Tc/\∀j,j<k->p j=Ta:=by
 obtain⟨k,h1,h2⟩:=h;induction k using YD with
 |_ k b=>grind
theorem Cr{o:Oper}:∀{l:List Oper},o∈l->∀i,o.dst=Td i->i∈xx l
 |[],h,_,_=>by cases h
 |x::l,h,i,hi=>by unfold xx;rcases Uj.1 h with rfl|h;simp_all;have:=Cr h i hi;grind
theorem yu{k:Nat}(h:ops[k]?=Td o):w9 ops k=o.dst:=by simp[w9,h]
def dY(j:Nat):List Nat->List Nat
 |[]=>[]
 |k::l=>bif Nat.beq k j then dY j l else k::dY j l
theorem lW{j x:Nat}:∀{l:List Nat},x∈dY j l↔x∈l/\x≠j
 |[]=>by simp[dY]
 |k::l=>by
  simp only[dY];cases hb:Nat.beq k j with
  |true=>have:=Ux hb;subst this;rw[zG,lW,Uj];simp_all
  |false=>
   have b:k≠j:=λe=>by simp_all
   rw[zH,Uj,Uj,lW];grind
theorem rA{j:Nat}:∀{l:List Nat},l.Nodup->(dY j l).Nodup
 |[],h=>h
 |k::l,h=>by
  simp only[dY];rw[Vp]at h;cases Nat.beq k j with
  |true=>exact rA h.2
  |false=>rw[zH,Vp];exact⟨λb=>h.1 (lW.1 b).1,rA h.2⟩
theorem EH{j:Nat}:∀{l:List Nat},(dY j l).length<=l.length
 |[]=>Uc _
 |k::l=>by simp only[dY];have:=EH (j:=j) (l:=l);grind
theorem BI{j:Nat}:∀{l:List Nat},j∈l->(dY j l).length+1<=l.length
 |[],h=>by cases h
 |k::l,h=>by
  simp only[dY];cases hb:Nat.beq k j with
  |true=>simp[EH,Uk]
  |false=>
   have b:k≠j:=λe=>by simp_all
   have:=BI (j:=j) (l:=l) (by grind);simp_all
def vV(p:Nat->Prop):List Nat->Prop
 |[]=>True
 |[j]=>p j
 |j::k::l=>p j/\vV p (k::l)
theorem Dv{p:Nat->Prop}:∀{l:List Nat},vV p l->∀j∈l,p j
 |[],_,j,h=>by cases h
 |[k],H,j,h=>by simp at h;subst h;exact H
 |k::k2::l,H,j,h=>by rcases Uj.1 h with rfl|h;exact H.1;exact Dv H.2 j h
def ma(p:Nat->Bool):List Nat->List Nat
 |[]=>[]
 |j::l=>bif p j then j::ma p l else ma p l
theorem uT{p:Nat->Bool}{j:Nat}:∀{l:List Nat},j∈l->p j=Ta->j∈ma p l
 |[],h,_=>by cases h
 |k::l,h,hp=>by
  simp only[ma];rcases Uj.1 h with rfl|h;simp_all;cases p k with
  |true=>exact Uo _ (uT h hp)
  |false=>exact uT h hp
end
section
variable {l:List Nat} {i m n:Nat} {ops:Array Oper} {P:Program} {o:Oper} {h h0:zb} {e:bK} {a b:Act}
def A7(o:Oper):Bool:=match o.op with
 |.extract _ _=>Ta
 |_=>Tc
variable {gq : Bool}
def jR(o:Oper):Bool:=bif lJ o then Ta else A7 o
def gi(ops:Array Oper):Nat->List Nat->List Nat
 |0,S=>S
 |k+1,S=>gi ops k (bif S.any λp=>Region.waitsFor .any ops p k then k::S else S)
theorem ud{ops:Array Oper}{listed:Array Bool}(b:∀i p,listed.getD i Tc=Ta->Region.waitsFor .any ops i p=Ta->listed.getD p Tc=Ta):∀{m:Nat} {S:List Nat},(∀j∈S,listed.getD j Tc=Ta)->∀k∈gi ops m S,listed.getD k Tc=Ta
 |0,S,h,k,hk=>h k hk
 |m+1,S,h,k,hk=>by unfold gi at hk;refine ud b (m:=m) (λj c=>?_) k hk;grind
theorem Wj(h:Xr l i=Ta):i∈l:=by
 induction l with
 |nil=>cases h
 |cons j l b=>simp only[Xr]at h;grind [Ux,Uu,Uo]
theorem nQ(h:i∈l):Xr l i=Ta:=by grind [Je]
def HX(ops:Array Oper)(k:Nat):Bool:=match ops[k]? with
 |some o=>!(jR o)
 |none=>Tc
def Gs(ops:Array Oper)(i:Nat):Bool:=(gi ops ops.size [i]).any (HX ops)
def NZ(o:Oper):Bool:=match o.guard with
 |none=>Tc
 |some _=>Ta
def E8(ops:Array Oper)(t:Nat):Nat->Bool
 |0=>Tc
 |k+1=>bif (match ops[k]? with
  |some o=>Xr (tmpsOf o.op.operands.toList) t
  |none=>Tc)then Ta else E8 ops t k
def Hi(ops:Array Oper)(i:Nat)(o:Oper):Bool:=match o.op with
 |.assign _=>(match o.dst with
  |some t=>E8 ops t i
  |none=>Tc)
 |_=>Tc
def X6(gq:Bool)(ops:Array Oper)(i:Nat):Bool:=match ops[i]? with
 |some o=>bif (bif NZ o then !gq else Tc)then Ta else bif jR o then(bif ji o then Gs ops i else Hi ops i o)else Ta
 |none=>Ta
def dX(gq:Bool)(ops:Array Oper):List Nat:=(U8 ops.size).filter (X6 gq ops)
theorem nh{j:Nat}:j∈dX gq ops↔j<ops.size/\X6 gq ops j=Ta:=by unfold dX;simp
theorem GI(ops:Array Oper):(dX gq ops).Nodup:=List.nodup_range.filter _
def ic(gq:Bool)(ops:Array Oper)(done S:List Nat)(k:Nat):Nat->Bool
 |0=>Ta
 |p+1=>bif Region.waitsFor .any ops k p then(bif (bif X6 gq ops p then Xr done p else Xr S p)then ic gq ops done S k p else Tc)else ic gq ops done S k p
theorem pq{ops:Array Oper}{done S:List Nat}{k:Nat}:∀{m:Nat},ic gq ops done S k m=Ta↔∀p,p<m->Region.waitsFor .any ops k p=Ta->(X6 gq ops p=Ta->p∈done)/\(X6 gq ops p=Tc->p∈S)
 |0=>⟨λ_ p c=>by omega,λ_=>rfl⟩
 |m+1=>by
  unfold ic;have e:=pq (ops:=ops) (done:=done) (S:=S) (k:=k) (m:=m);constructor;intro h p c b;rcases U1 p m with h1|h1;grind;have:p=m:=by omega
  subst this;rw[b,zG]at h;cases hi:X6 gq ops p with
  |true=>simp_all[Wj]
  |false=>simp_all[Wj]
  intro h;have h1:=e.2 λp c b=>h p (by omega) b;cases b:Region.waitsFor .any ops k m with
  |false=>exact h1
  |true=>simp_all[nQ]
def pv(gq:Bool)(ops:Array Oper)(done S:List Nat)(k:Nat):List Nat:=bif X6 gq ops k then S else(bif ic gq ops done S k k then k::S else S)
def Jg(gq:Bool)(ops:Array Oper)(done:List Nat):Nat->List Nat
 |0=>[]
 |k+1=>pv gq ops done (Jg gq ops done k) k
theorem xh{ops:Array Oper}{done:List Nat}:∀{m i:Nat},i∈Jg gq ops done m->i<m/\X6 gq ops i=Tc/\ic gq ops done (Jg gq ops done i) i i=Ta
 |0,i,h=>by cases h
 |m+1,i,h=>by
  unfold Jg pv at h;cases hi:X6 gq ops m with
  |true=>rw[hi,zG]at h;have:=xh h;grind
  |false=>
   rw[hi,zH]at h;cases ho:ic gq ops done (Jg gq ops done m) m m with
   |false=>rw[ho,zH]at h;have:=xh h;grind
   |true=>rw[ho,zG]at h;rcases Uj.1 h with rfl|h;simp_all;have:=xh h;grind
theorem vy{ops:Array Oper}{done:List Nat}{m:Nat}:∀{m' i:Nat},m<=m'->i∈Jg gq ops done m->i∈Jg gq ops done m'
 |0,i,h,hi=>by simp_all
 |m'+1,i,h,hi=>by rcases Nat.eq_or_lt_of_le h with e|e;simp_all;have:=vy (m':=m') (by omega) hi;unfold Jg pv;grind
theorem pU{done:List Nat}(b:i<m)(h1:X6 gq ops i=Tc)(h2:ic gq ops done (Jg gq ops done i) i i=Ta):i∈Jg gq ops done m:=by refine vy (m:=i+1) b ?_;unfold Jg pv;simp_all
theorem og{done:List Nat}{m i p:Nat}(h:i∈Jg gq ops done m)(c:p<i)(e:Region.waitsFor .any ops i p=Ta):(X6 gq ops p=Ta->p∈done)/\(X6 gq ops p=Tc->p∈Jg gq ops done m):=by obtain⟨h1,h2,f⟩:=xh h;obtain⟨a,b⟩:=pq.1 f p c e;exact⟨a,λhi=>vy (by omega) (b hi)⟩
def Jh(b c:List Nat)(n:Nat):List Nat:=(U8 n).filter λi=>bif Xr c i then !(Xr b i)else Tc
theorem DK{c b:List Nat}:i∈Jh c b n↔i<n/\i∈b/\i∉c:=by
 unfold Jh;rw[WV,UY];constructor;rintro⟨h1,h2⟩;cases hn:Xr b i with
 |false=>simp_all
 |true=>rw[hn,zG]at h2;grind [Wj,nQ]
 rintro⟨h1,h2,e⟩;refine⟨h1,?_⟩;rw[nQ h2,zG];grind [Wj]
theorem Dq(b c:List Nat)(n:Nat):(Jh b c n).Pairwise (· < ·):=XH.filter _
def wI(P:Program)(n:Nat)(h:zb)(ld:Bool)(ops:Array Oper)(K:bK->Prop):List Nat->bK->Prop
 |[],e=>K e
 |i::l,e=>match ops[i]? with
  |some o=>bif jR o then(bif (bif ld then Ta else !(ji o))then(bif Wh o.op then(match xz ops e o.guard with
   |some c=>bif xg n c o.dst then(bif known e c o.op.operands.toList then(match Q2 e c with
    |some g=>X4 P o (eG e c) g h λv=>wI P n h ld ops K l (putO e o.dst c v)
    |none=>False)else False)else False
   |none=>False)else False)else False)else False
  |none=>False
def yh(ops:Array Oper)(f:Nat->Value):List Nat->Act->Act
 |[],a=>a
 |i::l,a=>yh ops f l (a.put (w9 ops i) (f i))
theorem N2(b:jR o=Ta){ρ:Operand->Value}{g:Option Bool}{K:Value->Prop}(H:X4 P o ρ g h K):
  ∃v,K v/\(da g->∀h',LdOK o ρ h h'->QExec P (execOp ρ o) h' (.value v)):=by
 unfold jR at b;cases hb:lJ o with
 |true=>exact Sw hb H
 |false=>rw[hb,zH]at b;unfold A7 at b;split at b;rename_i x i c;unfold X4 at H;rw[c]at H;obtain⟨v,h1,h2⟩:=qd H g;grind;cases b
theorem xL{ops:Array Oper}{f:Nat->Value}:∀{l:List Nat} {a:Act},(yh ops f l a).tmps.size=a.tmps.size/\(yh ops f l a).defers=a.defers
 |[],_=>⟨rfl,rfl⟩
 |i::l,a=>by unfold yh;have:=xL (ops:=ops) (f:=f) (l:=l) (a:=a.put (w9 ops i) (f i));rw[this.1,this.2];exact⟨size_put _ _ _,Zq _ _ _⟩
theorem jr{ops:Array Oper}{f:Nat->Value}{s:Nat}:∀{l:List Nat} {a:Act},(∀i∈l,w9 ops i≠Td s)->qg (yh ops f l a) s=qg a s
 |[],_,_=>rfl
 |i::l,a,h=>by unfold yh;rw[jr λj b=>h j (Uo _ b)];exact wj (h i Uu)
theorem u6{ops:Array Oper}{f:Nat->Value}:∀{l m:List Nat} {a:Act},yh ops f (l++m) a=yh ops f m (yh ops f l a)
 |[],_,_=>rfl
 |i::l,m,a=>by rw[UF];show yh ops f (l++m) _=yh ops f m (yh ops f l _);exact u6
theorem sx{P:Program}{n:Nat}{h:zb}{ld:Bool}{ops:Array Oper}{K:bK->Prop}(z:Nat->Value):∀{l:List Nat} {e:bK} {a:Act},l.Nodup->wI P n h ld ops K l e->Sat n e a->∃(f:Nat->Value) (e':bK),K e'/\Sat n e' (yh ops f l a)/\(∀i,i∉l->f i=z i) /\
  ∀b i A,l=b++i::A->∃o,ops[i]?=Td o/\(ld=Tc->ji o=Tc)/\Wh o.op=Ta/\(∀t,o.dst=Td t->t<n) /\ (UV o (yielded ops (yh ops f b a).tmps)=Ta->∀h',LdOK o (yh ops f b a).eval h h'->QExec P (execOp (yh ops f b a).eval o) h' (.value (f i)))/\(UV o (yielded ops (yh ops f b a).tmps)≠Ta->f i=undef)
 |[],e,a,_,H,hs=>⟨z,e,H,hs,λ_ _=>rfl,λb i A h=>by simp at h⟩
 |i::l,e,a,hnd,H,hs=>by
  unfold wI at H;cases ho:ops[i]? with
  |none=>simp_all
  |some o=>
   rw[ho]at H;simp only at H;cases hq:jR o with
   |false=>simp_all
   |true=>
    rw[hq,zG]at H;cases hld:(bif ld then Ta else !(ji o))with
    |false=>simp_all
    |true=>
     rw[hld,zG]at H;cases hns:Wh o.op with
     |false=>simp_all
     |true=>
      rw[hns,zG]at H;split at H;rename_i c G;cases hd:xg n c o.dst with
      |false=>simp_all
      |true=>
       rw[hd,zG]at H;cases hk:known e c o.op.operands.toList with
       |false=>simp_all
       |true=>
        rw[hk,zG]at H;split at H;rename_i g I;rw[Vp]at hnd;obtain⟨v,D,F⟩:=N2 hq H;have r:w9 ops i=o.dst:=yu ho;obtain⟨u,s,p⟩:∃u,(valid (qg a) c->u=v)/\(¬valid (qg a) c->u=undef):=by by_cases k:valid (qg a) c;simp_all;simp_all
        have q:=Z4 hs G;obtain⟨f,e',J,Q,M,N⟩:=sx (λx=>if x=i then u else z x) (a:=a.put o.dst u) hnd.2 D (hs.putO hd s p);have m:f i=u:=by rw[M i hnd.1,zA rfl]
        have B:∀b,yh ops f (i::b) a=yh ops f b (a.put o.dst u):=λb=>by show yh ops f b (a.put (w9 ops i) (f i))=_;rw[r,m]
        refine⟨f,e',J,by grind,λj O=>?_,λb j A y=>?_⟩;simp_all;cases b with
        |nil=>simp only[UX,Vu]at y;obtain⟨rfl,rfl⟩:=y;refine⟨o,ho,λy=>by simp_all,hns,λt C=>by rw[C]at hd;unfold xg at hd;simp_all,λw h' L=>?_,λw=>?_⟩;show QExec P (execOp a.eval o) h' _;have k:=q.1 w;rw[oG hs k hns hk,m,s k];exact F (Q3 hs I k) h' (LdOK.congr (λx E=>(Wg hs k hk x E).symm) L);rw[m];exact p λk=>w (q.2 k)
        |cons S b=>grind
        exact H.elim
      exact H.elim
def mZ(gq:Bool)(ops:Array Oper)(U:List Nat):Nat->Bool
 |0=>Tc
 |k+1=>bif (match ops[k]? with
  |some o=>bif ji o then(bif X6 gq ops k then Tc else !(Xr U k))else Tc
  |none=>Tc)then Ta else mZ gq ops U k
theorem E7{ops:Array Oper}{U:List Nat}:∀{m:Nat},mZ gq ops U m=Tc->∀k o,k<m->ops[k]?=Td o->ji o=Ta->X6 gq ops k=Tc->k∈U
 |0,_,k,o,hk,_,_,_=>by omega
 |m+1,h,k,o,hk,ho,hl,hi=>by
  unfold mZ at h;cases hb:(match ops[m]? with
   |some o=>bif ji o then(bif X6 gq ops m then Tc else !(Xr U m))else Tc
   |none=>Tc)with
  |true=>simp_all
  |false=>
   rw[hb,zH]at h;rcases U1 k m with h1|h1;exact E7 h k o h1 ho hl hi;have:k=m:=by omega
   simp_all[Wj]
def iX(gq:Bool)(ops:Array Oper)(U:List Nat)(e:bK)(h0 h':zb)(K:Prop):Nat->Prop
 |0=>K
 |k+1=>match ops[k]? with
  |some o=>bif (bif ji o then(bif X6 gq ops k then Tc else !(Xr U k))else Tc)then(match o.op,xz ops e o.guard with
   |.load _ a,some c=>bif known e c [a]then(match eG e c a,Q2 e c with
    |.pointer (Td p),some g=>req g (h'[p.block]?=h0[p.block]?)/\iX gq ops U e h0 h' K k
    |_,_=>False)else False
   |_,_=>False)else iX gq ops U e h0 h' K k
  |none=>iX gq ops U e h0 h' K k
theorem Fb{ops:Array Oper}{U:List Nat}{e:bK}{h0 h':zb}{K:Prop}:∀{m:Nat},iX gq ops U e h0 h' K m->K/\∀k o,k<m->ops[k]?=Td o->ji o=Ta->X6 gq ops k=Tc->k∉U ->
  ∃t a p c g,o.op=.load t a/\xz ops e o.guard=Td c/\Q2 e c=Td g/\known e c [a]=Ta/\eG e c a=.pointer (Td p)/\req g (h'[p.block]?=h0[p.block]?)
 |0,H=>⟨H,λk o i=>by omega⟩
 |m+1,H=>by
  unfold iX at H;have step:iX gq ops U e h0 h' K m->(∀o,ops[m]?=Td o->ji o=Ta->X6 gq ops m=Tc->m∉U->∃t a p c g,o.op=.load t a/\xz ops e o.guard=Td c/\Q2 e c=Td g/\known e c [a]=Ta/\eG e c a=.pointer (Td p)/\req g (h'[p.block]?=h0[p.block]?)) ->
    K/\∀k o,k<m+1->ops[k]?=Td o->ji o=Ta->X6 gq ops k=Tc->k∉U->∃t a p c g,o.op=.load t a/\xz ops e o.guard=Td c/\Q2 e c=Td g/\known e c [a]=Ta/\eG e c a=.pointer (Td p)/\req g (h'[p.block]?=h0[p.block]?):=λf l=>by
   obtain⟨h1,h2⟩:=Fb f;grind
  cases ho:ops[m]? with
  |none=>grind
  |some o=>
   rw[ho]at H;simp only at H;have same:∀b,ops[m]?=Td b->b=o:=λb h1=>UO (h1.symm.trans ho);cases hc:(bif ji o then(bif X6 gq ops m then Tc else !(Xr U m))else Tc)with
   |false=>rw[hc]at H;refine step H λb h1 h2 h n=>?_;rw[same b h1]at h2;rw[h2,h,zG,zH]at hc;grind [Wj]
   |true=>grind
def mH(gq:Bool)(ops:Array Oper)(T:List Nat)(e:bK)(h0 h':zb)(K:Prop):Prop:=bif mZ gq ops (gi ops ops.size T) ops.size then iX gq ops (gi ops ops.size T) e h0 h' K ops.size else K
def oL(ops:Array Oper)(todo:List Nat)(j:Nat):Bool:=todo.all λk=>bif Nat.beq k j then Ta else !(Xr (gi ops ops.size [j]) k)
def gt(gq:Bool)(P:Program)(n:Nat)(ops:Array Oper)(h0:zb)(K:bK->zb->Prop):Nat->List Nat->List Nat->bK->zb->Prop
 |_,_,[],e,h=>K (clean e) h
 |0,_,_::_,_,_=>False
 |f+1,T,b::l0,e,h=>vV (λj=>match ops[j]? with
  |some o=>(match xz ops e o.guard with|some c=>bif xg n c o.dst then gV P o e c h λv h'=>wI P n h' Tc ops (λe'=>mH gq ops (j::T) e' h0 h' (gt gq P n ops h0 K f (j::T) (dY j (b::l0)) e' h')) (Jh (Jg gq ops T ops.size) (Jg gq ops (j::T) ops.size) ops.size) (putO e o.dst c v)else False|none=>False)
  |none=>False) (ma (oL ops (b::l0)) (b::l0))
theorem H6{K:bK->zb->Prop}{f:Nat}{T todo:List Nat}(H:gt gq P n ops h0 K (f+1) T todo e h){j:Nat}(b:j∈todo)(i:oL ops todo j=Ta):match ops[j]? with
  |some o=>(match xz ops e o.guard with|some c=>bif xg n c o.dst then gV P o e c h λv h'=>wI P n h' Tc ops (λe'=>mH gq ops (j::T) e' h0 h' (gt gq P n ops h0 K f (j::T) (dY j todo) e' h')) (Jh (Jg gq ops T ops.size) (Jg gq ops (j::T) ops.size) ops.size) (putO e o.dst c v)else False|none=>False)
  |none=>False:=by
 cases todo with
 |nil=>cases b
 |cons l k=>exact Dv H j (uT b i)
def kF(gq:Bool)(ops:Array Oper)(k:Nat)(S:List Nat):Nat->Bool
 |0=>Ta
 |p+1=>bif (match w9 ops p with
  |some t=>bif Xr S t then(bif Region.waitsFor .any ops k p then Ta else bif X6 gq ops p then Region.waitsFor .any ops p k else Tc)else Ta
  |none=>Ta)then kF gq ops k S p else Tc
theorem Wk{ops:Array Oper}{k:Nat}{S:List Nat}:∀{m:Nat},kF gq ops k S m=Ta->∀p t,p<m->w9 ops p=Td t->t∈S->Region.waitsFor .any ops k p=Ta\/(X6 gq ops p=Ta/\Region.waitsFor .any ops p k=Ta)
 |0,_,p,t,hp,_,_=>by omega
 |m+1,h,p,t,hp,hd,ht=>by
  simp only[kF]at h;cases hb:(match w9 ops m with
   |some t=>bif Xr S t then(bif Region.waitsFor .any ops k m then Ta else bif X6 gq ops m then Region.waitsFor .any ops m k else Tc)else Ta
   |none=>Ta)with
  |false=>simp_all
  |true=>
   rw[hb]at h;rcases U1 p m with h1|h1;exact Wk h p t h1 hd ht;have:p=m:=by omega
   simp_all[nQ]
def kB(gq:Bool)(ops:Array Oper):Nat->Bool
 |0=>Ta
 |k+1=>bif (match ops[k]? with
  |some o=>kF gq ops k (tmpsOf o.op.operands.toList) ops.size
  |none=>Ta)then kB gq ops k else Tc
theorem Wl{ops:Array Oper}:∀{m:Nat},kB gq ops m=Ta->∀k o,k<m->ops[k]?=Td o->kF gq ops k (tmpsOf o.op.operands.toList) ops.size=Ta
 |0,_,k,o,hk,_=>by omega
 |m+1,h,k,o,hk,ho=>by
  unfold kB at h;cases hb:(match ops[m]? with
   |some o=>kF gq ops m (tmpsOf o.op.operands.toList) ops.size
   |none=>Ta)with
  |false=>simp_all
  |true=>rw[hb,zG]at h;rcases U1 k m with h1|h1;exact Wl h k o h1 ho;grind
def ka(ops:Array Oper)(o:Oper):List Nat:=match o.guard with
 |none=>[]
 |some (j,_)=>match w9 ops j with
  |some t=>[t]
  |none=>[]
def jM(ops:Array Oper):Nat->Bool
 |0=>Ta
 |k+1=>bif (match ops[k]? with
  |some o=>bif Wh o.op then jn ops k (ka ops o) ops.size else Tc
  |none=>Ta)then jM ops k else Tc
theorem tM{ops:Array Oper}:∀{m:Nat},jM ops m=Ta->∀k o,k<m->ops[k]?=Td o->Wh o.op=Ta/\jn ops k (ka ops o) ops.size=Ta
 |0,_,k,o,hk,_=>by omega
 |m+1,h,k,o,hk,ho=>by
  unfold jM at h;cases hb:(match ops[m]? with
   |some o=>bif Wh o.op then jn ops m (ka ops o) ops.size else Tc
   |none=>Ta)with
  |false=>simp_all
  |true=>rw[hb,zG]at h;rcases U1 k m with h1|h1;exact tM h k o h1 ho;grind
theorem X7(h:∀t∈ka ops o,qg a t=qg b t):UV o (yielded ops a.tmps)=UV o (yielded ops b.tmps):=by
 unfold UV;cases hg:o.guard with
 |none=>rfl
 |some f=>
  obtain⟨j,p⟩:=f;have:yielded ops a.tmps j=yielded ops b.tmps j:=by
   unfold yielded;cases hd:(ops[j]?).bind (·.dst)with
   |none=>rfl
   |some t=>
    have e:w9 ops j=Td t:=by
     unfold w9;cases hoj:ops[j]? with
     |none=>simp_all
     |some i=>simp_all
    have c:=h t (by unfold ka;simp_all);unfold qg at c;simp only[Vm]at c;simp only[VM];cases h1:a.tmps[t]? <;> cases h2:b.tmps[t]? <;> rw[h1,h2]at c <;> simp at c <;> first|rfl|(subst c;rfl)|(rw[<-c];rfl)|(rw[c];rfl)
  grind
def iB(gq:Bool)(ops:Array Oper):Bool:=bif jM ops ops.size then(bif Jf ops ops.size then(bif ki ops ops.size then kB gq ops ops.size else Tc)else Tc)else Tc
theorem Fc(h:iB gq ops=Ta):jM ops ops.size=Ta/\Jf ops ops.size=Ta/\ki ops ops.size=Ta/\kB gq ops ops.size=Ta:=by unfold iB at h;simp_all
structure St7 (gq:Bool) (P:Program) (n:Nat) (ops:Array Oper) (h0:zb) (K:bK->zb->Prop) (f:Nat->Value) (a0:Act) (listed:Array Bool) (a b:Act) (e:bK) (h:zb) (done todo:List Nat):Prop where
 inv:HeadInv .any ops ops.size listed
 ag:∀s,(∀i o,ops[i]?=Td o->X6 gq ops i=Tc->listed.getD i Tc=Tc->o.dst≠Td s)->qg a s=qg b s
 sz:a.tmps.size=n
 ad:a.defers=[]
 sb:Sat n e b
 qv:∀i o t,ops[i]?=Td o->i∈Jg gq ops done ops.size->o.dst=Td t->qg b t=f i/\t<n
 qx:∀i o,ops[i]?=Td o->i∈Jg gq ops done ops.size->listed.getD i Tc=Tc->(UV o (yielded ops b.tmps)=Ta->∀h',LdOK o b.eval h0 h'->QExec P (execOp b.eval o) h' (.value (f i)))/\(UV o (yielded ops b.tmps)≠Ta->f i=undef)
 tt:∀j,j∈dX gq ops->(j∈todo↔listed.getD j Tc=Tc)
 ch:∀j,j∈dX gq ops->(listed.getD j Tc=Ta↔j∈done)
 dn:∀j∈done,j∈dX gq ops
 th:∀j∈todo,j∈dX gq ops
 nd:todo.Nodup
 wt:∃fu,todo.length<=fu/\gt gq P n ops h0 K fu done todo e h
 kp:∀i o,ops[i]?=Td o->ji o=Ta->X6 gq ops i=Tc->listed.getD i Tc=Tc->UV o (yielded ops b.tmps)=Ta->LdOK o b.eval h0 h
 sm:Same (xx ops.toList) a0 a
theorem Dc{ld:Bool}(F:jM ops ops.size=Ta)(w:Jf ops ops.size=Ta)(N:ki ops ops.size=Ta)(L:kB gq ops ops.size=Ta){f:Nat->Value}(E:b.tmps.size=n)(m:∀i∈l,i<ops.size)(aa:∀i∈l,X6 gq ops i=Tc)(u:l.Pairwise (· < ·)) (H:∀c i e,l=c++i::e->∃o,ops[i]?=Td o/\(ld=Tc->ji o=Tc)/\Wh o.op=Ta/\(∀t,o.dst=Td t->t<n) /\ (UV o (yielded ops (yh ops f c b).tmps)=Ta->∀h',LdOK o (yh ops f c b).eval h h'->QExec P (execOp (yh ops f c b).eval o) h' (.value (f i)))/\(UV o (yielded ops (yh ops f c b).tmps)≠Ta->f i=undef)):
  ∀i o,ops[i]?=Td o->i∈l->(∀t,o.dst=Td t->qg (yh ops f l b) t=f i/\t<n)/\(ld=Tc->ji o=Tc) /\ (UV o (yielded ops (yh ops f l b).tmps)=Ta->∀h',LdOK o (yh ops f l b).eval h h'->QExec P (execOp (yh ops f l b).eval o) h' (.value (f i)))/\(UV o (yielded ops (yh ops f l b).tmps)≠Ta->f i=undef):=by
 intro i o D hi;obtain⟨c,e,rfl⟩:=List.append_of_mem hi;obtain⟨y,q1,U,q4,V,Z,Y⟩:=H c i e rfl;have:y=o:=UO (q1.symm.trans D);subst this;have p:i<ops.size:=m i (by simp);have hs:∀j∈e,i<j:=λj k=>by rw[XA]at u;simp_all
 have q:yh ops f (c++i::e) b=yh ops f e ((yh ops f c b).put (w9 ops i) (f i)):=by rw[u6];rfl
 have r:w9 ops i=y.dst:=yu D;have B:∀j∈i::e,Region.waitsFor .any ops i j=Ta->False:=λj k G=>by obtain⟨oj,J,x,I,Q,S⟩:=Region.waitsFor_spec G;have h1:=Z2 w i oj p J x I Q;grind
 have O:yh ops f (c++i::e) b=yh ops f (i::e) (yh ops f c b):=u6;have z:∀t∈tmpsOf y.op.operands.toList,qg (yh ops f (c++i::e) b) t=qg (yh ops f c b) t:=λt s=>by rw[O];refine jr λj k C=>B j k ?_;rcases Wk (Wl L i y p D) j t (m j (by simp[k])) C s with h|h;exact h;simp_all
 have M:UV y (yielded ops (yh ops f (c++i::e) b).tmps)=UV y (yielded ops (yh ops f c b).tmps):=X7 λt s=>by rw[O];exact jr λj k C=>B j k (Yv (tM F i y p D).2 j t (m j (by simp[k])) C s)
 rw[M];refine⟨λt s=>?_,U,λG h' hh=>?_,Y⟩;have A:=V t s;refine⟨?_,A⟩;rw[q,jr λj k C=>?_,r,s,Z1 (by rw[xL.1,E];exact A)];have:=Wi N i j t p (m j (by simp[k])) (by rw[r,s]) C;grind;rw[uz q4 z];exact Z G h' (LdOK.congr (λx I=>(oe z x I).symm) hh)
theorem LP{K:bK->zb->Prop}{Q:Exit->Act->World->Prop}(B:World)(hmix:iB gq ops=Ta){a0:Act}
    (hQ:∀e' a' d' h',Sat n e' a'->Same (xx ops.toList) a0 a'->K e' h'->Q .normal a' (mk B d' h')):
    ∀(N:Nat) (U:List Nat) (listed:Array Bool) (f:Nat->Value) (a b:Act) (e:bK) (h:zb) (d:Nat) (done todo:List Nat),U.length=N->U.Nodup->(∀k,k∈U↔k<ops.size/\listed.getD k Tc=Tc) ->
      St7 gq P n ops h0 K f a0 listed a b e h done todo->wpAny P .any ops Q N listed a (mk B d h):=by
  obtain⟨hng,hback,hnd,hsl⟩:=Fc hmix
  have hgd:∀(i:Nat) (o:Oper),ops[i]?=Td o->Wh o.op=Ta/\jn ops i (ka ops o) ops.size=Ta:=λi o ho=>tM hng i o (Ut.1 ho).1 ho
  have hslot0:∀k o,ops[k]?=Td o->∀p t,p<ops.size->w9 ops p=Td t->t∈tmpsOf o.op.operands.toList->Region.waitsFor .any ops k p=Ta\/(X6 gq ops p=Ta/\Region.waitsFor .any ops p k=Ta):=λk o ho p t hp hd ht=>
    Wk (Wl hsl k o (Ut.1 ho).1 ho) p t hp hd ht
  have hbk:∀k p,Region.waitsFor .any ops k p=Ta->p<k:=λk p hw=>by
    obtain⟨oj,hoj,x,hx,hb,hon⟩:=Region.waitsFor_spec hw
    have:=Z2 hback k oj (Ut.1 hoj).1 hoj x hx hb
    omega
  have fin:∀{listed:Array Bool} {f:Nat->Value} {a b:Act} {e:bK} {h:zb} {d:Nat} {done todo:List Nat},(∀k,k<ops.size->listed.getD k Tc=Ta)->St7 gq P n ops h0 K f a0 listed a b e h done todo->Q .normal a (mk B d h):=by
    intro listed f a b e h d done todo hall S
    have htodo:todo=[]:=by
      cases htd:todo with
      |nil=>rfl
      |cons j l=>
        have hm:j∈todo:=by rw[htd];simp
        have hj:=S.th j hm
        have:=(S.tt j hj).1 hm
        rw[hall j (nh.1 hj).1]at this;cases this
    obtain⟨fu,_,hw⟩:=S.wt
    rw[htodo]at hw
    have hw:K (clean e) h:=by cases fu <;> exact hw
    have hv:∀s,qg a s=qg b s:=λs=>S.ag s λi o ho hq hl=>by
      grind
    have hs:Sat n e a:=⟨S.ad,S.sz,λx hx=>by
      have:=S.sb.all x hx
      have e1:qg a=qg b:=funext hv
      grind⟩
    exact hQ _ _ _ _ hs.clean S.sm hw
  intro N
  induction N with
  |zero=>
    intro U listed f a b e h d done todo hU _ hmem S
    have hUn:U=[]:=Vk.1 hU
    subst hUn
    have hall:∀k,k<ops.size->listed.getD k Tc=Ta:=λk hk=>by
      simp_all
    refine⟨?_,fin hall S⟩
    rw[List.eq_nil_iff_forall_not_mem]
    intro j hj
    obtain⟨h1,o,ho,_⟩:=mem_ready.1 hj
    grind
  |succ N ih=>
    intro U listed f a b e h d done todo hU hdup hmem S
    have hex:∃k,k<ops.size/\listed.getD k Tc=Tc:=by
      cases U with
      |nil=>cases hU
      |cons k U=>exact⟨k,(hmem k).1 Uu⟩
    refine⟨λhr=>?_,λi hi=>?_⟩
    · exfalso
      obtain⟨k,hk1,hk2,hk3⟩:=RI hex
      have:k∈Region.ready .any ops listed:=mem_ready.2 ⟨by rw[<-hk2];simp[S.inv.size,hk1],ops[k],Vx hk1,λx hx hb=>hk3 _ (Z2 hback k ops[k] hk1 (Vx hk1) x hx hb)⟩
      grind
    · obtain⟨hun1,o,ho,hall⟩:=mem_ready.1 hi
      have hun:listed.getD i Tc=Tc:=getD_both hun1
      have hlt:i<ops.size:=(Ut.1 ho).1
      obtain⟨hns,hgs⟩:=hgd i o ho
      have hils:i<listed.size:=by rw[S.inv.size];exact hlt
      have hU':(U.erase i).length=N:=by rw[List.length_erase_of_mem ((hmem i).2 ⟨hlt,hun⟩),hU];rfl
      have hdup':(U.erase i).Nodup:=hdup.erase i
      have hmem':∀k,k∈U.erase i↔k<ops.size/\(listed.setIfInBounds i Ta).getD k Tc=Tc:=λk=>by
        rw[hdup.mem_erase_iff,hmem k]
        by_cases hk:i=k
        · subst hk;simp[hils]
        · rw[getD_set_ne Tc hk];grind
      have inv':=S.inv.set hi hlt
      have hset:∀k,k≠i->(listed.setIfInBounds i Ta).getD k Tc=listed.getD k Tc:=λk hk=>getD_set_ne Tc (Ne.symm hk)
      have hsetI:(listed.setIfInBounds i Ta).getD i Tc=Ta:=by simp[hils]
      have hops:∀t∈tmpsOf o.op.operands.toList,qg a t=qg b t:=λt ht=>S.ag t λk ok hok hq hl hd=>by
        rcases hslot0 i o ho k t (Ut.1 hok).1 (by rw[yu hok,hd]) ht with hw|hw
        grind [pO]
        grind
      have hexec:=uz hns hops
      have hsame:∀v,Same (xx ops.toList) a0 (a.put o.dst v):=λv=>S.sm.trans (Same.put a o.dst _ λt ht=>Cr (by
          grind) t ht)
      unfold wpOp
      rw[ho]
      simp only
      have hwab:UV o (yielded ops a.tmps)=UV o (yielded ops b.tmps):=X7 λt ht=>S.ag t λk ok hok hq hl hd=>by
        have hw:=Yv hgs k t (Ut.1 hok).1 (by rw[yu hok,hd]) ht
        grind [pO]
      cases hq:X6 gq ops i with
      |false=>
        have hrdyG:∀m k ok,k<m->ops[k]?=Td ok->X6 gq ops k=Tc->(∀p,Region.waitsFor .any ops k p=Ta->listed.getD p Tc=Ta)->k∈Jg gq ops done ops.size:=by
          intro m
          induction m with
          |zero=>omega
          |succ m ihm=>
            intro k ok hk hok hkh hkw
            refine pU (Ut.1 hok).1 hkh (pq.2 λp hp hw=>⟨λhph=>?_,λhph=>?_⟩)
            · have hpl:=hkw p hw
              exact(S.ch p (nh.2 ⟨by grind,hph⟩)).1 hpl
            · have hps:p<ops.size:=by have:=(Ut.1 hok).1;omega
              have hin:=ihm p ops[p] (by omega) (Vx hps) hph λq hq2=>Yw S.inv (hkw p hw) hq2
              grind [xh,pU]
        have hrdy:=hrdyG (i+1) i o (by omega) ho hq λp hw=>pO hi hw
        have hqx:=S.qx i o ho hrdy hun
        have hnot:i∉dX gq ops:=λhm=>by rw[(nh.1 hm).2]at hq;cases hq
        have hunset:∀k,(listed.setIfInBounds i Ta).getD k Tc=Tc->listed.getD k Tc=Tc:=λk hu=>by
          grind
        have hfin:wpAny P .any ops Q N (listed.setIfInBounds i Ta) (a.put o.dst (f i)) (mk B d h):=by
         refine ih _ _ f _ b e h d done todo hU' hdup' hmem' { S with inv:=inv',ag:=λs hs=>?_,sz:=by rw[size_put];exact S.sz,ad:=by rw[Zq];exact S.ad,tt:=λj hj=>(by have:j≠i:=λe=>hnot (e ▸ hj);rw[hset j this];exact S.tt j hj),ch:=λj hj=>?_,qx:=λk ok hok hk hu=>S.qx k ok hok hk (hunset k hu),kp:=λk ok hok hl hkh hk=>?_,sm:=hsame _ }
         · by_cases hd:o.dst=Td s
           · obtain⟨hv,hsn⟩:=S.qv i o s ho hrdy hd
             rw[hd,Z1 (by rw[S.sz];exact hsn),hv]
           · rw[wj hd]
             refine S.ag s λk ok hok hqk hlk=>?_
             grind
         · have:j≠i:=λe=>hnot (e ▸ hj)
           rw[hset j this];exact S.ch j hj
         · by_cases hki:k=i
           grind
           · rw[hset k hki]at hk;exact S.kp k ok hok hl hkh hk
        by_cases hw:UV o (yielded ops a.tmps)=Ta
        · rw[zA hw]
          left
          unfold Oper.wp
          rw[hexec,hqx.1 (by grind) h (by
            cases hl:ji o with
            |false=>exact .inl hl
            |true=>exact S.kp i o ho hl hq hun (by grind)) B d,Oper.upon_value]
          exact hfin
        grind
      |true=>
        have hin:i∈dX gq ops:=nh.2 ⟨hlt,hq⟩
        have hit:i∈todo:=(S.tt i hin).2 hun
        obtain⟨fu,hfu,hW0⟩:=S.wt
        have hcl:∀p q,(listed.setIfInBounds i Ta).getD p Tc=Ta->Region.waitsFor .any ops p q=Ta->(listed.setIfInBounds i Ta).getD q Tc=Ta:=λp q h1 h2=>Yw inv' h1 h2
        have hcand:oL ops todo i=Ta:=by
          unfold oL
          rw[Us]
          intro k hk
          cases hki:Nat.beq k i with
          |true=>rfl
          |false=>
            have hne:k≠i:=λe=>by rw[e]at hki;simp at hki
            cases hr:Xr (gi ops ops.size [i]) k with
            |false=>rfl
            |true=>
              exfalso
              have:=ud hcl (m:=ops.size) (S:=[i]) (λj hj=>by grind) k (Wj hr)
              rw[hset k hne]at this
              have h2:=(S.tt k (S.th k hk)).1 hk
              grind
        have hW:match ops[i]? with
            |some o=>(match xz ops e o.guard with|some c=>bif xg n c o.dst then gV P o e c h λv h'=>wI P n h' Tc ops (λe'=>mH gq ops (i::done) e' h0 h' (gt gq P n ops h0 K (fu-1) (i::done) (dY i todo) e' h')) (Jh (Jg gq ops done ops.size) (Jg gq ops (i::done) ops.size) ops.size) (putO e o.dst c v)else False|none=>False)
            |none=>False:=by
          cases fu with
          |zero=>grind
          |succ fu=>
            grind [H6]
        rw[ho]at hW
        simp only at hW
        cases hch:xz ops e o.guard with
        |none=>grind
        |some c=>
        rw[hch]at hW
        simp only at hW
        cases hd:xg n c o.dst with
        |false=>grind
        |true=>
          rw[hd,zG]at hW
          have hwv:=Z4 S.sb hch
          have key:∀(v u:Value) (d':Nat) (h':zb),(valid (qg b) c->u=v)->(¬valid (qg b) c->u=undef)->wI P n h' Tc ops (λe'=>mH gq ops (i::done) e' h0 h' (gt gq P n ops h0 K (fu-1) (i::done) (dY i todo) e' h')) (Jh (Jg gq ops done ops.size) (Jg gq ops (i::done) ops.size) ops.size) (putO e o.dst c v)->wpAny P .any ops Q N (listed.setIfInBounds i Ta) (a.put o.dst u) (mk B d' h'):=by
           intro v v2 d' h' hv1 hv0 hK
           have sb1:Sat n (putO e o.dst c v) (b.put o.dst v2):=S.sb.putO hd hv1 hv0
           generalize hbl:Jh (Jg gq ops done ops.size) (Jg gq ops (i::done) ops.size) ops.size=bl at hK
           have hbm:∀k,k∈bl↔k<ops.size/\k∈Jg gq ops (i::done) ops.size/\k∉Jg gq ops done ops.size:=λk=>by rw[<-hbl];exact DK
           have hbsort:bl.Pairwise (· < ·):=by rw[<-hbl];exact Dq _ _ _
           have hbnd:bl.Nodup:=hbsort.imp λh=>by omega
           obtain⟨f',e2,HK,sb2,hf0,hfx⟩:=sx f hbnd hK sb1
           have hbf:=Dc hng hback hnd hsl (f:=f') (l:=bl) (b:=b.put o.dst v2) sb1.size (λk hk=>((hbm k).1 hk).1) (λk hk=>(xh ((hbm k).1 hk).2.1).2.1) hbsort hfx
           have hbnh:∀k∈bl,X6 gq ops k=Tc:=λk hk=>(xh ((hbm k).1 hk).2.1).2.1
           have hlist':∀j,j∈dX gq ops->((listed.setIfInBounds i Ta).getD j Tc=Ta↔j∈i::done):=λj hj=>by
             by_cases hji:j=i
             · subst hji;grind
             · rw[hset j hji,S.ch j hj];simp[hji]
           have hjl:∀j∈i::done,(listed.setIfInBounds i Ta).getD j Tc=Ta:=λj hj=>by
             rcases Uj.1 hj with rfl|hj
             · exact hsetI
             · exact getD_set_true ((S.ch j (S.dn j hj)).2 hj)
           have hup:∀k,k∈gi ops ops.size (i::done)->(listed.setIfInBounds i Ta).getD k Tc=Ta:=λk hk=>ud hcl hjl k hk
           have hundone:i∉done:=λhm=>by rw[(S.ch i hin).2 hm]at hun;cases hun
           have hslot1:∀k ok,ops[k]?=Td ok->k∈Jg gq ops done ops.size->listed.getD k Tc=Tc->∀t∈tmpsOf ok.op.operands.toList,qg (b.put o.dst v2) t=qg b t:=λk ok hok hk hu t ht=>wj λhdo=>by
             rcases hslot0 k ok hok i t hlt (by rw[yu ho,hdo]) ht with hw|hw
             · exact hundone ((og hk (hbk k i hw) hw).1 hq)
             · rw[pO hi hw.2]at hu;cases hu
           have hslot2:∀k ok,ops[k]?=Td ok->k∈Jg gq ops done ops.size->listed.getD k Tc=Tc->∀t∈tmpsOf ok.op.operands.toList,qg (yh ops f' bl (b.put o.dst v2)) t=qg b t:=λk ok hok hk hu t ht=>by
             rw[jr λp hp hdp=>?_]
             · exact hslot1 k ok hok hk hu t ht
             · rcases hslot0 k ok hok p t ((hbm p).1 hp).1 hdp ht with hw|hw
               · exact((hbm p).1 hp).2.2 ((og hk (hbk k p hw) hw).2 (hbnh p hp))
               · have:=hbnh p hp
                 grind
           have hslot3:∀k ok,ops[k]?=Td ok->k∈Jg gq ops done ops.size->UV ok (yielded ops (yh ops f' bl (b.put o.dst v2)).tmps)=UV ok (yielded ops b.tmps):=λk ok hok hk=>X7 λt ht=>by
             have hwt:∀p,p<ops.size->w9 ops p=Td t->Region.waitsFor .any ops k p=Ta:=λp hp hd=>Yv (hgd k ok hok).2 p t hp hd ht
             rw[jr λp hp hdp=>((hbm p).1 hp).2.2 ((og hk (hbk k p (hwt p ((hbm p).1 hp).1 hdp)) (hwt p ((hbm p).1 hp).1 hdp)).2 (hbnh p hp))]
             exact wj λhdo=>hundone ((og hk (hbk k i (hwt i hlt (by rw[yu ho,hdo]))) (hwt i hlt (by rw[yu ho,hdo]))).1 hq)
           have hdist:∀k ok t,ops[k]?=Td ok->k≠i->ok.dst=Td t->o.dst≠Td t:=λk ok t hok hki hdk hdo=>by
             have:=Wi hnd k i t (Ut.1 hok).1 hlt (by rw[yu hok,hdk]) (by rw[yu ho,hdo])
             exact hki this
           have hne_i:∀k,X6 gq ops k=Tc->k≠i:=λk hk e=>by rw[e,hq]at hk;cases hk
           have hQK:gt gq P n ops h0 K (fu-1) (i::done) (dY i todo) e2 h'/\(∀k ok,ops[k]?=Td ok->ji ok=Ta->X6 gq ops k=Tc->(listed.setIfInBounds i Ta).getD k Tc=Tc->UV ok (yielded ops (yh ops f' bl (b.put o.dst v2)).tmps)=Ta->LdOK ok (yh ops f' bl (b.put o.dst v2)).eval h0 h'):=by
             unfold mH at HK
             cases hl:mZ gq ops (gi ops ops.size (i::done)) ops.size with
             |false=>
               rw[hl,zH]at HK
               exact⟨HK,λk ok hok hlo hkh hf _=>by rw[hup k (E7 hl k ok (Ut.1 hok).1 hok hlo hkh)]at hf;cases hf⟩
             |true=>
               rw[hl,zG]at HK
               obtain⟨g1,g2⟩:=Fb HK
               refine⟨g1,λk ok hok hlo hkh hf hw=>.inr (.inr λt a p hop hp=>?_)⟩
               obtain⟨t',a',p',c',g',e1,ec,eg,e2',e3,e4⟩:=g2 k ok (Ut.1 hok).1 hok hlo hkh (λhm=>by rw[hup k hm]at hf;cases hf)
               rw[hop]at e1
               injection e1 with _ e1
               subst e1
               have hvc:=(Z4 sb2 ec).1 hw
               have eb:(yh ops f' bl (b.put o.dst v2)).eval a=eG e2 c' a:=Wg sb2 hvc e2' a (by simp)
               rw[eb,e3]at hp
               injection hp with hp
               injection hp with hp
               rw[<-hp];exact e4.out (Q3 sb2 eg hvc)
           have htt:∀j,j∈dX gq ops->(j∈dY i todo↔(listed.setIfInBounds i Ta).getD j Tc=Tc):=λj hj=>by
             rw[lW]
             by_cases hji:j=i
             · subst hji;rw[hsetI];simp
             · rw[hset j hji,<-S.tt j hj];simp;omega
           refine ih _ _ f' _ (yh ops f' bl (b.put o.dst v2)) e2 h' d' (i::done) (dY i todo) hU' hdup' hmem' ⟨inv',λs hs=>?_,by rw[size_put];exact S.sz,by rw[Zq];exact S.ad,sb2,λk ok t hok hk hdk=>?_,λk ok hok hk hu=>?_,htt,hlist',(λj hj=>by
             rcases Uj.1 hj with rfl|hj
             · exact hin
             · exact S.dn j hj),(λj hj=>S.th j (lW.1 hj).1),rA S.nd,⟨fu-1,by have:=BI hit;omega,hQK.1⟩,hQK.2,hsame _⟩
           · -- slots
             have hs':∀k ok,ops[k]?=Td ok->X6 gq ops k=Tc->listed.getD k Tc=Tc->ok.dst≠Td s:=λk ok hok hqk hlk=>hs k ok hok hqk (by rw[hset k (hne_i k hqk)];exact hlk)
             have hbl:∀p∈bl,w9 ops p≠Td s:=λp hp hdp=>by
               have hps:=((hbm p).1 hp).1
               have hok:ops[p]?=Td ops[p]:=Vx hps
               have hph:=hbnh p hp
               refine hs p _ hok hph ?_ (by rw[<-yu hok];exact hdp)
               cases hlp:(listed.setIfInBounds i Ta).getD p Tc with
               |false=>rfl
               |true=>
                 exfalso
                 rw[hset p (hne_i p hph)]at hlp
                 have:∀m q,q<m->q<ops.size->X6 gq ops q=Tc->listed.getD q Tc=Ta->q∈Jg gq ops done ops.size:=by
                   intro m
                   induction m with
                   |zero=>omega
                   |succ m ihm=>
                     intro q hqm hqs hqh hql
                     refine pU hqs hqh (pq.2 λp2 hp2 hw2=>⟨λhph2=>?_,λhph2=>?_⟩)
                     · exact(S.ch p2 (nh.2 ⟨by omega,hph2⟩)).1 (Yw S.inv hql hw2)
                     · have hin2:=ihm p2 (by omega) (by omega) hph2 (Yw S.inv hql hw2)
                       obtain⟨_,g2,g3⟩:=xh hin2
                       exact pU hp2 g2 g3
                 exact((hbm p).1 hp).2.2 (this (p+1) p (by omega) hps hph hlp)
             rw[jr hbl]
             by_cases hds:o.dst=Td s
             · rw[hds]
               have hsn:s<n:=by
                 rw[hds]at hd
                 unfold xg at hd
                 simp at hd;exact hd.2
               rw[Z1 (by rw[S.sz];exact hsn),Z1 (by rw[S.sb.size];exact hsn)]
             · rw[wj hds,wj hds];exact S.ag s hs'
           · by_cases hkb:k∈bl
             · exact(hbf k ok hok hkb).1 t hdk
             · have hk0:k∈Jg gq ops done ops.size:=WB λhc=>hkb ((hbm k).2 ⟨(Ut.1 hok).1,hk,hc⟩)
               have hkh:=(xh hk0).2.1
               obtain⟨q1,q2⟩:=S.qv k ok t hok hk0 hdk
               refine⟨?_,q2⟩
               rw[jr λp hp hdp=>?_,wj (hdist k ok t hok (hne_i k hkh) hdk),q1,hf0 k hkb]
               have:=Wi hnd p k t ((hbm p).1 hp).1 (Ut.1 hok).1 hdp (by rw[yu hok,hdk])
               subst this;exact hkb hp
           · by_cases hkb:k∈bl
             · obtain⟨_,q2,q3,q4⟩:=hbf k ok hok hkb
               exact⟨λhw h'' _=>q3 hw h'' (.inl (q2 rfl)),q4⟩
             · have hk0:k∈Jg gq ops done ops.size:=WB λhc=>hkb ((hbm k).2 ⟨(Ut.1 hok).1,hk,hc⟩)
               have hu0:listed.getD k Tc=Tc:=by rw[<-hset k (hne_i k (xh hk0).2.1)];exact hu
               have hx:=S.qx k ok hok hk0 hu0
               rw[hslot3 k ok hok hk0,hf0 k hkb,uz (b:=b) (hgd k ok hok).1 (hslot2 k ok hok hk0 hu0)]
               exact⟨λhw h'' hh=>hx.1 hw h'' (LdOK.congr (λx hx=>(oe (hslot2 k ok hok hk0 hu0) x hx).symm) hh),hx.2⟩
          by_cases hv:valid (qg b) c
          · rw[zA (by grind)]
            left
            unfold Oper.wp
            rw[hexec]
            refine OH (b:=b) S.sb.defers ?_
            refine DV hW S.sb hv B d λv d' h' hK=>⟨by rw[Zq];exact S.sb.defers,λv2 hv2=>?_⟩
            have hbv:b.put o.dst v2=b.put o.dst v:=hv2.symm
            by_cases hds:∃t,o.dst=Td t
            · obtain⟨t,ht⟩:=hds
              have htn:t<n:=by
                have hd2:=hd
                rw[ht]at hd2
                unfold xg at hd2
                simp at hd2;exact hd2.2
              have:v2=v:=by
                have e1:qg (b.put o.dst v2) t=qg (b.put o.dst v) t:=by rw[hbv]
                rw[ht,Z1 (by rw[S.sb.size];exact htn),Z1 (by rw[S.sb.size];exact htn)]at e1
                exact e1
              grind
            · have hdn:o.dst=Te:=by
                cases hdx:o.dst with
                |none=>rfl
                |some t=>grind
              have e1:a.put o.dst v2=a.put o.dst v:=by rw[hdn];rfl
              grind
          · rw[za (by grind)]
            obtain⟨v,hK⟩:=Cu hW S.sb hv
            grind
theorem Cq{K:bK->zb->Prop}{Q:Exit->Act->World->Prop}(B:World)(q:iB gq ops=Ta) (H:wI P n h Ta ops (λe'=>gt gq P n ops h K (dX gq ops).length [] (dX gq ops) e' h) (Jh [] (Jg gq ops [] ops.size) ops.size) e) (A:Sat n e a)
  (hQ:∀e' a' Y h',Sat n e' a'->Same (xx ops.toList) a a'->K e' h'->Q .normal a' (mk B Y h')) (d:Nat):wpAny P .any ops Q ops.size (VL ops.size Tc) a (mk B d h):=by
 obtain⟨C,r,L,I⟩:=Fc q;have m:∀k,k∈Jh [] (Jg gq ops [] ops.size) ops.size↔k∈Jg gq ops [] ops.size:=λk=>by rw[DK];exact⟨λh=>h.2.1,λh=>⟨(xh h).1,h,by simp⟩⟩
 have c:=Dq [] (Jg gq ops [] ops.size) ops.size;generalize Jh [] (Jg gq ops [] ops.size) ops.size=bl at H m c;have z:bl.Nodup:=c.imp λh=>by omega
 obtain⟨f,U,HK,J,_,M⟩:=sx (λ_=>undef) z H A;have y:=Dc C r L I (f:=f) (l:=bl) (b:=a) A.size (λk G=>(xh ((m k).1 G)).1) (λk G=>(xh ((m k).1 G)).2.1) c M;have w:∀s,(∀i o,ops[i]?=Td o->X6 gq ops i=Tc->(VL ops.size Tc).getD i Tc=Tc->o.dst≠Td s)->qg a s=qg (yh ops f bl a) s:=λs D=>(jr λp S F=>by have N:=(xh ((m p).1 S)).1;have x:ops[p]?=Td ops[p]:=Vx N;exact D p _ x (xh ((m p).1 S)).2.1 (getD_replicate_false _ _) (by rw[<-yu x];exact F)).symm;refine LP B q hQ ops.size (U8 ops.size) _ f a (yh ops f bl a) U h d [] (dX gq ops) XP List.nodup_range (λk=>by rw[UY,getD_replicate_false];simp) ⟨⟨by simp,λj oj _ O=>(by rw[getD_replicate_false]at O;cases O),λt ht V=>by omega⟩,w,A.size,A.defers,J,λi o t E hi Z=>(y i o E ((m i).2 hi)).1 t Z,λi o E hi _=>(y i o E ((m i).2 hi)).2.2,(λj u=>by rw[getD_replicate_false];simp[u]),(λj u=>by rw[getD_replicate_false];simp),(λj u=>by cases u),(λj u=>u),GI ops,⟨_,Uc _,HK⟩,λ_ _ _ _ _ _=>λ_=>.inr (.inl (Keep.refl _ _)),Same.refl _ _⟩
def v4:List (Nat×Nat)->Nat->Option Nat
 |[],_=>Te
 |(j,m)::l,i=>bif Nat.beq i j then Td m else v4 l i
def regionF(P:Program)(n:Nat)(c:List (Nat×Nat))(id:Nat)(ops:Array Oper)(b:Bool)(K:bK->zb->Prop)(e:bK)(h:zb):Prop:=
 bif b then(match v4 c id with
  |none=>bif Region.lexB .any ops then wQ P n ops h Ta (λe'=>K (clean e') h) ops.toList e else False
  |some m=>bif iB (Nat.beq m 7000) ops then wI P n h Ta ops (λe'=>gt (Nat.beq m 7000) P n ops h K (dX (Nat.beq m 7000) ops).length [] (dX (Nat.beq m 7000) ops) e' h) (Jh [] (Jg (Nat.beq m 7000) ops [] ops.size) ops.size) e else False)
 else wR P n ops K ops.toList e h
theorem Wm(l m:List Oper):xx (l++m)=xx l++xx m:=by
 induction l with
 |nil=>rfl
 |cons o l b=>simp only[UF,xx];split <;> simp[b]
theorem C9(k:P.follows .mixedOrders=Ta){l:List (Nat×Nat)}{id:Nat}{b:Bool}{K:bK->zb->Prop} (H:regionF P n l id ops b K e h) (B:World) (d:Nat) (c:Sat n e a) {Q:Exit->Act->World->Prop}
  (f:∀e' a' i h',Sat n e' a'->Same (xx ops.toList) a a'->K e' h'->Q .normal a' (mk B i h')):(YR id ops b).wp P Q a (mk B d h):=by
 unfold regionF at H;cases b with
 |false=>exact wp_region_list (mr B _ _ _ _ _ H c f)
 |true=>
  simp only[zG]at H;split at H;cases hB:Region.lexB .any ops with
  |false=>rw[hB]at H;exact H.elim
  |true=>rw[hB]at H;refine wp_region_quiet (C:=λw=>∃d,w=mk B d h) k hB ⟨d+1,rfl⟩ ?_;refine AX B _ _ _ H c λe' a' o q p=>?_;rintro w' ⟨i,rfl⟩;exact f _ _ _ _ o.clean q p
  rename_i m _;cases hB:iB (Nat.beq m 7000) ops with
  |false=>rw[hB]at H;exact H.elim
  |true=>rw[hB]at H;exact wp_region_any k (Cq B hB H c f (d+1))
end
section
variable {n:Nat} {e:bK} {a:Act} {ms:List Nat} {P:Program} {h:zb} {R:Value -> zb -> Prop} {f:FuncId}
@[reducible] def fo:List Atom->Type->Type
 |[],X=>X
 |t::l,X=>t.den->fo l X
def lX{X:Type}:(l:List Atom)->fo l X->(List Value->X->Prop)->Prop
 |[],f,k=>k [] f
 |t::l,f,k=>∀x:t.den,lX l (f x) λvs y=>k (t.enc x::vs) y
def dW{X:Type}:(l:List Atom)->List Value->fo l X->Option X
 |[],[],f=>Td f
 |t::l,v::vs,f=>match t.dec v with
  |some x=>dW l vs (f x)
  |none=>Te
 |_,_,_=>Te
def i0{X:Type}:(l:List Atom)->(List Value->X)->fo l X
 |[],f=>f []
 |t::l,f=>λx=>i0 l λvs=>f (t.enc x::vs)
def iW{X Y:Type}:(l:List Atom)->fo l X->fo l Y->fo l (X×Y)
 |[],f,g=>(f,g)
 |_::l,f,g=>λx=>iW l (f x) (g x)
theorem pa{X:Type}:∀{l:List Atom} {vs:List Value} {f:fo l X} {x:X} {k:List Value->X->Prop},dW l vs f=Td x->lX l f k->k vs x
 |[],[],f,x,k,h,g=>by simp only[dW,Ud]at h;subst h;exact g
 |[],_::_,f,x,k,h,g=>by simp[dW]at h
 |_::_,[],f,x,k,h,g=>by simp[dW]at h
 |t::l,v::vs,f,x,k,h,g=>by simp only[dW]at h;split at h;rename_i y b;have:=pa h (g y);grind [Atom.enc_of_dec];cases h
theorem tg{X:Type}:∀{l:List Atom} {vs:List Value} {f:List Value->X} {x:X},dW l vs (i0 l f)=Td x->x=f vs
 |[],[],f,x,h=>by simp only[dW,i0,Ud]at h;exact h.symm
 |[],_::_,f,x,h=>by simp[dW]at h
 |_::_,[],f,x,h=>by simp[dW]at h
 |t::l,v::vs,f,x,h=>by simp only[dW,i0]at h;split at h;rename_i y b;have:=tg h;grind [Atom.enc_of_dec];cases h
theorem vW{X:Type}:∀{l:List Atom} {f:List Value->X} {k:List Value->X->Prop},(∀vs,k vs (f vs))->lX l (i0 l f) k
 |[],_,_,h=>h []
 |_::_,_,_,h=>λ_=>vW λ_=>h _
abbrev dN:=List (Nat×VT)
def j5:dN->List Atom
 |[]=>[]
 |(_,.one t)::J=>t::j5 J
 |(_,.agg l)::J=>l++j5 J
def Xs(σ:Nat->Option Value):dN->Option (List Value)
 |[]=>Td []
 |(i,.one _)::J=>match σ i,Xs σ J with
  |some v,some vs=>Td (v::vs)
  |_,_=>Te
 |(i,.agg l)::J=>match σ i,Xs σ J with
  |some (.agg cs),some vs=>bif Nat.beq cs.toList.length l.length then Td (cs.toList++vs)else Te
  |_,_=>Te
def Q4:dN->List Value->bK
 |[],_=>[]
 |(i,.one _)::J,v::vs=>(i,[],v)::Q4 J vs
 |(_,.one _)::_,[]=>[]
 |(i,.agg l)::J,vs=>(i,[],.agg (vs.take l.length).toArray)::Q4 J (vs.drop l.length)
def gF(e:bK)(i:Nat):Option Value:=match look e i with
 |some ([],v)=>Td v
 |_=>Te
theorem Q5(h:Sat n e a){i:Nat}{v:Value}(b:gF e i=Td v):qg a i=v:=by unfold gF at b;split at b;rename_i u c;simp only[Ud]at b;subst b;exact(h.all _ (jG c)).1 trivial;cases b
theorem yd{n:Nat}{e:bK}{a:Act}(h:Sat n e a):∀{J:dN} {vs:List Value},Xs (gF e) J=Td vs->Xs (λi=>Td (qg a i)) J=Td vs
 |[],vs,hv=>hv
 |(i,.one t)::J,vs,hv=>by simp only[Xs]at hv ⊢;split at hv;rename_i v us h1 h2;simp only[yd h h2,Q5 h h1];exact hv;cases hv
 |(i,.agg l)::J,vs,hv=>by simp only[Xs]at hv ⊢;split at hv;rename_i cs us h1 h2;simp only[yd h h2,Q5 h h1];exact hv;cases hv
theorem X8{σ:Nat->Value}:∀{J:dN} {vs:List Value},Xs (λi=>Td (σ i)) J=Td vs->∀x∈Q4 J vs,fact σ x
 |[],vs,_,x,b=>by cases b
 |(i,.one t)::J,vs,hv,x,b=>by simp only[Xs]at hv;split at hv;rename_i v us h1 h2;simp only[Ud]at h1 hv;subst hv;simp only[Q4,Uj]at b;rcases b with rfl|b;exact⟨λ_=>h1,λe=>absurd trivial e⟩;exact X8 h2 x b;cases hv
 |(i,.agg l)::J,vs,hv,x,b=>by
  simp only[Xs]at hv;split at hv;rename_i cs us h1 h2;simp only[Ud]at h1;cases hb:Nat.beq cs.toList.length l.length with
  |false=>simp_all
  |true=>rw[hb]at hv;simp only[zG,Ud]at hv;subst hv;have c:cs.toList.length=l.length:=Ux hb;simp only[Q4,Uj]at b;rcases b with rfl|b;refine⟨λ_=>?_,λe=>absurd trivial e⟩;simp_all;rw[<-c,YF]at b;exact X8 h2 x b
  cases hv
def Wn(ms:List Nat):bK->bK
 |[]=>[]
 |(i,[],v)::e=>bif Xr ms i then Wn ms e else(i,[],v)::Wn ms e
 |(_,_::_,_)::e=>Wn ms e
theorem NW{x:Nat×qp×Value}(h:x∈Wn ms e):x∈e/\x.2.1=[]/\x.1∉ms:=by
 induction e with
 |nil=>cases h
 |cons y e b=>
  obtain⟨i,c,v⟩:=y;cases c with
  |nil=>
   simp only[Wn]at h;cases hm:Xr ms i with
   |true=>simp_all
   |false=>rw[hm]at h;simp only[zH]at h;rcases Uj.1 h with rfl|h;exact⟨Uu,rfl,Je hm⟩;simp_all
  |cons g c=>simp only[Wn]at h;simp_all
theorem X9{a f:Act}(m:Sat n e a)(h:f.defers=[])(q:f.tmps.size=n)(b:Same ms a f){J:dN}{vs:List Value}
  (p:Xs (λi=>Td (qg f i)) J=Td vs):Sat n (Q4 J vs++Wn ms e) f:=by
 refine⟨h,q,λx c=>?_⟩;rcases Uv.1 c with c|c;exact X8 p x c;obtain⟨h1,h2,l⟩:=NW c;have k:=m.all x h1;refine⟨λ_=>?_,λo=>absurd (by rw[h2];trivial) o⟩;rw[b _ l];exact k.1 (by rw[h2];trivial)
def je:Code->Option Nat
 |.region id _ _=>Td id
 |.seq a b=>match je a with
  |some i=>Td i
  |none=>je b
 |.cond _ a b=>match je a with
  |some i=>Td i
  |none=>je b
 |.block _ b=>je b
 |.loop b=>je b
 |.scope b=>je b
 |_=>Te
def xj:Code->List Nat
 |.region _ ops _=>xx ops.toList
 |.seq a b=>xj a++xj b
 |.cond _ a b=>xj a++xj b
 |.block _ b=>xj b
 |.loop b=>xj b
 |.scope b=>xj b
 |_=>[]
structure Plan where
 tails:List (Nat×Nat)
 loops:List (Nat×dN)
 joins:List (Nat×dN)
def Af:List (Nat×dN)->Nat->Option dN
 |[],_=>Te
 |(j,m)::l,i=>bif Nat.beq i j then Td m else Af l i
def lw(l:List (Nat×dN)):Option Nat->Option dN
 |some i=>Af l i
 |none=>Te
abbrev Ji:=Exit->bK->zb->Prop
def gU(K:bK->zb->Prop)(Q:Ji):Ji
 |.normal,e,h=>K e h
 |x,e,h=>Q x e h
def gM(id:Nat)(Q:Ji):Ji
 |.exit i,e,h=>bif Nat.beq i id then Q .normal e h else Q (.exit i) e h
 |x,e,h=>Q x e h
def MO(Q:Ji):Ji
 |.goto _,_,_=>False
 |x,e,h=>Q x e h
def lA{X:Type}(J:dN)(F:fo (j5 J) X)(e:bK)(k:X->Prop):Prop:=
 match Xs (gF e) J with
 |some vs=>match dW (j5 J) vs F with
  |some q=>k q
  |none=>False
 |none=>False
def zN(J:dN)(rest:bK->zb->Prop)(F:(bK->zb->Prop)->Prop)(b:bK):Prop:=
 ∀K:fo (j5 J) (zb->Prop),lX (j5 J) K (λvs q=>∀h,rest (Q4 J vs++b) h->q h)->F λe h=>lA J K e λq=>q h
def v9(J:dN)(body:(bK->zb->Prop)->bK->zb->Prop)(b e:bK)(h:zb):Prop:=
 ∃(I:fo (j5 J) (zb->Prop)) (μ:fo (j5 J) (zb->Nat)),(lA J (iW (j5 J) I μ) e λp=>p.1 h) /\
  lX (j5 J) (iW (j5 J) I μ) λvs p=>∀h,p.1 h->body (λe' h'=>lA J (iW (j5 J) I μ) e' λq=>q.1 h'/\q.2 h'<p.2 h) (Q4 J vs++b) h
def W(P:Program)(n:Nat)(pl:Plan):Code->Ji->bK->zb->Prop
 |.skip,Q,e,h=>Q .normal e h
 |.ret,Q,e,h=>Q .ret e h
 |.exit id,Q,e,h=>Q (.exit id) e h
 |.label _,Q,e,h=>Q .normal e h
 |.goto l,Q,e,h=>Q (.goto l) e h
 |.region id ops draw,Q,e,h=>regionF P n pl.tails id ops draw (λe h=>Q .normal e h) e h
 |.seq x y,Q,e,h=>match lw pl.joins (je y)with
  |none=>W P n pl x (gU (λe h=>W P n pl y Q e h) Q) e h
  |some J=>zN J (λe h=>W P n pl y Q e h) (λK=>W P n pl x (gU K Q) e h) (Wn (xj x) e)
 |.cond c x y,Q,e,h=>match Xq e [] c with
  |some (.bool b)=>(b=Ta->W P n pl x Q e h)/\(b=Tc->W P n pl y Q e h)
  |_=>False
 |.block id x,Q,e,h=>W P n pl x (gM id Q) e h
 |.loop x,Q,e,h=>match lw pl.loops (je x)with
  |some J=>v9 J (λf e h=>W P n pl x (gU f Q) e h) (Wn (xj x) e) e h
  |none=>False
 |.scope x,Q,e,h=>W P n pl x (MO Q) e h
 |_,_,_,_=>False
def AD(n:Nat)(B:World)(ms:List Nat)(b:Act)(Q:Ji):Exit->Act->World->Prop:=
 λx a w=>∃e d h,w=mk B d h/\Sat n e a/\Same ms b a/\Q x e h
theorem iu{X:Type}{J:dN}{F:fo (j5 J) X}{k:X->Prop}(h:lA J F e k):∃vs q,Xs (gF e) J=Td vs/\dW (j5 J) vs F=Td q/\k q:=by unfold lA at h;grind
theorem TH(hm:P.follows .mixedOrders=Ta){pl:Plan}:∀(c:Code) (Q:Ji) (e:bK) (h:zb),W P n pl c Q e h ->
  ∀(B:World) (d:Nat) (a:Act),Sat n e a->c.wp P (AD n B (xj c) a Q) a (mk B d h):=by
 intro c;induction c with
 |skip=>exact λQ e h H B d a f=>wp_skip ⟨e,d,h,rfl,f,Same.refl _ _,H⟩
 |ret=>exact λQ e h H B d a f=>wp_ret ⟨e,d,h,rfl,f,Same.refl _ _,H⟩
 |exit id=>exact λQ e h H B d a f=>wp_exit ⟨e,d,h,rfl,f,Same.refl _ _,H⟩
 |label l=>exact λQ e h H B d a f=>wp_label ⟨e,d,h,rfl,f,Same.refl _ _,H⟩
 |goto l=>exact λQ e h H B d a f=>wp_goto ⟨e,d,h,rfl,f,Same.refl _ _,H⟩
 |region id ops an=>exact λQ e h H B d a f=>C9 hm H B d f λe' a' d' h' m t q3=>⟨e',d',h',rfl,m,t,q3⟩
 |seq x y A C=>
  intro Q e h H B d a f;simp only[W]at H;have G:∀i∈xj x,i∈xj (x.seq y):=λi hi=>Un _ hi;have S:∀i∈xj y,i∈xj (x.seq y):=λi hi=>Uw _ hi;split at H;refine wp_seq (wp_mono (A _ _ _ H B d a f) ?_);rintro ex k w1 ⟨w,r,h1,rfl,s1,s,m⟩;cases ex with
  |normal=>refine wp_mono (C _ _ _ m B r k s1) ?_;rintro ex a2 w2 ⟨u,d2,h2,rfl,s2,z,t⟩;exact⟨u,d2,h2,rfl,s2,(s.mono G).trans (z.mono S),t⟩
  |_=>exact⟨w,r,h1,rfl,s1,s.mono G,m⟩
  rename_i J hJ;have H':=H (i0 (j5 J) λvs=>λh=>W P n pl y Q (Q4 J vs++Wn (xj x) e) h) (vW λvs h L=>L);refine wp_seq (wp_mono (A _ _ _ H' B d a f) ?_);rintro ex k w1 ⟨w,r,h1,rfl,s1,s,m⟩;cases ex with
  |normal=>obtain⟨vs,q,O,L,hk⟩:=iu m;have aa:=tg L;subst aa;have U:Sat n (Q4 J vs++Wn (xj x) e) k:=X9 f s1.defers s1.size s (yd s1 O);refine wp_mono (C _ _ _ hk B r k U) ?_;rintro ex a2 w2 ⟨u,d2,h2,rfl,s2,z,t⟩;exact⟨u,d2,h2,rfl,s2,(s.mono G).trans (z.mono S),t⟩
  |_=>exact⟨w,r,h1,rfl,s1,s.mono G,m⟩
 |cond c x y A C=>intro Q e h H B d a f;simp only[W]at H;have G:∀i∈xj x,i∈xj (YJ c x y):=λi hi=>Un _ hi;have S:∀i∈xj y,i∈xj (YJ c x y):=λi hi=>Uw _ hi;split at H;rename_i b D;refine wp_cond_split (qt f (c:=[]) trivial D) (λV=>?_) (λaf=>?_);refine wp_mono (A _ _ _ (H.1 V) B d a f) ?_;rintro ex a2 w2 ⟨u,d2,h2,rfl,s2,z,t⟩;exact⟨u,d2,h2,rfl,s2,z.mono G,t⟩;refine wp_mono (C _ _ _ (H.2 af) B d a f) ?_;rintro ex a2 w2 ⟨u,d2,h2,rfl,s2,z,t⟩;exact⟨u,d2,h2,rfl,s2,z.mono S,t⟩;exact H.elim
 |block id x M=>
  intro Q e h H B d a f;refine wp_block (wp_mono (M _ _ _ H B d a f) ?_);rintro ex k w1 ⟨w,r,h1,rfl,s1,s,m⟩;cases ex with
  |exit i=>simp only[gM]at m;simp only[Exit.inBlock];by_cases D:Nat.beq i id=Ta;rw[zA (Ux D)];simp only[D,zG]at m;exact⟨w,r,h1,rfl,s1,s,m⟩;rw[za (λhe=>D (by rw[he];simp))];simp only[D,zH]at m;exact⟨w,r,h1,rfl,s1,s,m⟩
  |_=>exact⟨w,r,h1,rfl,s1,s,m⟩
 |loop x M=>
  intro Q e h H B d a f;simp only[W]at H;split at H;rename_i J hJ;obtain⟨I,μ,h0,E⟩:=H;obtain⟨ae,p0,ak,am,aj⟩:=iu h0;let F:=iW (j5 J) I μ;let at_:Act->Option ((zb->Prop)×(zb->Nat)):=λk=>(Xs (λi=>Td (qg k i)) J).bind λvs=>dW (j5 J) vs F;refine wp_loop (λk w1=>∃r h1 vs p,w1=mk B r h1/\k.defers=[]/\k.tmps.size=n/\Same (xj x) a k/\Xs (λi=>Td (qg k i)) J=Td vs/\dW (j5 J) vs F=Td p/\p.1 h1) (λk w1=>match at_ k with|some p=>p.2 w1.heap|none=>0) ⟨d,h,ae,p0,rfl,f.defers,f.size,Same.refl _ _,yd f ak,am,aj⟩ ?_;rintro k w1 ⟨r,h1,vs,p,rfl,Y,ai,o,O,hp,hI⟩;have s1:Sat n (Q4 J vs++Wn (xj x) e) k:=X9 f Y ai o O;have D:=pa hp E h1 hI;refine wp_mono (M _ _ _ D B r k s1) ?_;rintro ex a2 w2 ⟨u,d2,h2,rfl,s2,z,t⟩;cases ex with
  |normal=>
   obtain⟨ab,q,N,L,Z,ah⟩:=iu t;refine⟨⟨d2,h2,ab,q,rfl,s2.defers,s2.size,o.trans z,yd s2 N,L,Z⟩,?_⟩;have w:at_ k=Td p:=by simp only[at_,O,VM];exact hp
   have u:at_ a2=Td q:=by simp only[at_,yd s2 N,VM];exact L
   rw[w,u];exact ah
  |_=>exact⟨u,d2,h2,rfl,s2,o.trans z,t⟩
  exact H.elim
 |scope x M=>
  intro Q e h H B d a f;refine wp_scope_straight (wp_mono (M _ _ _ H B d a f) ?_);rintro ex k w1 ⟨w,r,h1,rfl,s1,s,m⟩;cases ex with
  |goto l=>exact m
  |_=>exact⟨w,r,h1,rfl,s1,s,m⟩
 |_=>exact λQ e h H=>H.elim
def fM:Nat->List Value->bK
 |_,[]=>[]
 |i,v::vs=>(i,[],v)::fM (i+1) vs
def fK(P:Program)(h:zb)(e:bK):List ResultVar->(List Value->Prop)->Prop
 |[],K=>K []
 |.tmp t::l,K=>match gF e t with
  |some v=>fK P h e l λvs=>K (v::vs)
  |none=>False
 |.cell a t::l,K=>match gF e a with
  |some p=>iE P h t p Te λv=>fK P h e l λvs=>K (v::vs)
  |none=>False
def fY:List Value->Value
 |[v]=>v
 |vs=>.tuple vs.toArray
def pH(P:Program)(rs:List ResultVar)(R:Value->zb->Prop):Ji
 |.normal,e,h=>fK P h e rs λvs=>R (fY vs) h
 |.ret,e,h=>fK P h e rs λvs=>R (fY vs) h
 |_,_,_=>False
def iO(tmps:Array Value):ResultVar->Sem Value
 |.tmp t=>pure (tmps.getD t undef)
 |.cell a t=>do loadVar t (<-asAddr (tmps.getD a undef))
theorem rh{P:Program}{n:Nat}{h:zb}{e:bK}{a:Act}(c:Sat n e a):∀{l:List ResultVar} {K:List Value->Prop},fK P h e l K->∃vs,K vs/\vs.length=l.length/\QExec P (l.mapM (iO a.tmps)) h vs
 |[],K,H=>⟨[],H,rfl,λ_ _=>by simp⟩
 |.tmp t::l,K,H=>by simp only[fK]at H;split at H;rename_i v o;obtain⟨vs,h1,h2,f⟩:=rh c H;refine⟨v::vs,h1,by simp[h2],?_⟩;rw[YG];refine QExec.bind (x:=v) ?_ (f.bind (QExec.pure _));rw[<-Q5 c o];exact QExec.pure _;exact H.elim
 |.cell x t::l,K,H=>by simp only[fK]at H;split at H;rename_i p i;obtain⟨v,q,m⟩:=yP H;obtain⟨vs,h1,h2,f⟩:=rh c q;refine⟨v::vs,h1,by simp[h2],?_⟩;rw[YG];refine QExec.bind (x:=v) ?_ (f.bind (QExec.pure _));have k:a.tmps.getD x undef=p:=Q5 c i;simp only[iO,k];have b:=m trivial;unfold XE at b;unfold iE at H;split at H;exact b;exact b;exact H.elim;exact H.elim
theorem Q6{fn:Func}(i:Sat n e a){rs:List ResultVar}(c:fn.results.toList=rs)(H:fK P h e rs λvs=>R (fY vs) h):
  ∃v,R v h/\QExec P (results fn a.tmps) h v:=by
 obtain⟨vs,h1,h2,f⟩:=rh i H;refine⟨_,h1,?_⟩;intro B d;have b:results fn a.tmps=(fn.results.mapM (iO a.tmps) >>= λvs=>XM (if h:vs.size=1 then vs[0]else .tuple vs)):=by unfold results;congr 1
 rw[b,Array.mapM_eq_mapM_toList,c,Sem.run_bind,Sem.run_map,f B d];simp only[Result.andThen_ok,Sem.run_pure]
 match vs,h2 with
 |[],_=>rfl
 |[v],_=>rfl
 |v::u::vs,_=>simp[fY]
theorem oQ(args:Array Value)(k:Nat):∀(vs:List Value) (i:Nat),(∀j v,vs[j]?=Td v->(args++VL k undef).getD (i+j) undef=v) ->
  ∀x∈fM i vs,fact (λi=>(args++VL k undef).getD i undef) x
 |[],_,_,x,b=>by cases b
 |v::vs,i,h,x,b=>by simp only[fM,Uj]at b;rcases b with rfl|b;exact⟨λ_=>h 0 v rfl,λe=>absurd trivial e⟩;exact oQ args k vs (i+1) (λj u c=>by have:=h (j+1) u (by simpa using c);grind) x b
theorem K3(t:P.follows .mixedOrders=Ta){fn:Func}{c:Code}(pl:Plan)(vs:List Value){rs:List ResultVar}(q:P.funcs[f]?=Td fn)(o:fn.body=Td c)(m:fn.results.toList=rs)(s:fn.ntmps=n)
  (p:Nat.ble vs.length n=Ta) (H:W P n pl c (pH P rs R) (fM 0 vs) h):XC P f vs.toArray h R:=by
 intro B d;subst s;refine calls_of_wp q o ?_;have x:vs.length<=fn.ntmps:=VE p;have r:Sat fn.ntmps (fM 0 vs) { tmps:=vs.toArray++VL (fn.ntmps-vs.toArray.size) undef,defers:=[] }:=by
  refine⟨rfl,by simp;omega,?_⟩;refine oQ vs.toArray _ vs 0 λj v u=>?_;have k:j<vs.length:=by rcases U1 j vs.length with h|h;exact h;simp_all
  simp only[UI,Vm];rw[V5 (by simpa using k)];simp[u]
 refine wp_mono (TH t c _ _ _ H B d _ r) ?_;rintro ex a w ⟨z,b,h1,rfl,s1,y,i⟩;cases ex with
 |normal=>obtain⟨v,l,e⟩:=Q6 s1 m i;exact⟨s1.defers,v,e B b,v,b,h1,rfl,rfl,l⟩
 |ret=>obtain⟨v,l,e⟩:=Q6 s1 m i;exact⟨s1.defers,v,e B b,v,b,h1,rfl,rfl,l⟩
 |_=>exact i.elim
def codeOf(fn:Func):Code:=match fn.body with
 |some c=>c
 |none=>.skip
def Q7(fn:Func):Bool:=match fn.body with
 |some _=>Ta
 |none=>Tc
theorem It(e:P.follows .mixedOrders=Ta)(pl:Plan)(vs:List Value){fn:Func}{rs:List ResultVar}(i:P.funcs[f]?=Td fn)(b:Q7 fn=Ta)(k:fn.results.toList=rs)(l:fn.ntmps=n)
  (m:Nat.ble vs.length n=Ta) (H:W P n pl (codeOf fn) (pH P rs R) (fM 0 vs) h):XC P f vs.toArray h R:=by
 have c:fn.body=Td (codeOf fn):=by unfold Q7 at b;unfold codeOf;split at b;omega;cases b
 grind [K3]
end
section
variable {n:Nat} {h h':zb} {e t ty:TypeId} {s:Sl} {xs news:List Value} {P:Program} {z:Value}
theorem yx(h:zb)(o:Obj):(h.push o)[h.size]?=Td o:=by simp
def fD(n:Nat)(h:zb)(a:Option Addr)(cs:List Value):Prop:=
 cs=[]\/∃b o,a=Td ⟨b,o,Te⟩/\b<n/\∀i v,cs[i]?=Td v->zc h ⟨b,o+i,Te⟩=Td v
theorem zj(b o i:Nat):(⟨b,o,Te⟩:Addr).add i=⟨b,o+i,Te⟩:=by unfold Ua;simp
theorem Dl(a:Option Addr)(sz m:Nat):de a sz 0 m=a:=by
 unfold de;split;rfl;cases a with
 |none=>rfl
 |some p=>simp[Ua]
theorem wrap64{n:Int}(h1:-9223372036854775808<=n)(h2:n<=9223372036854775807):hZ n=n:=by
 ((try unfold hZ);unfold T9);have e:(2:Int) ^ U4 .i64=18446744073709551616:=by decide
 have e':(2:Int) ^ (U4 .i64-1)=9223372036854775808:=by decide
 simp only[e,e'];have b:XT .i64=Ta:=rfl;grind
theorem TA{k:Nat}(h:k<9223372036854775807):hZ ((k:Int)+1)=((k+1:Nat):Int):=by grind [wrap64]
def Owns(h:zb)(base:Nat)(e:TypeId)(sz:Nat)(s:Sl)(xs:List Value):Prop:=
 (mk default 0 h).ownsRow base e sz (.slice s.a s.len s.cap) s.len xs
theorem Owns.nil(h:zb)(base:Nat)(e:TypeId)(sz:Nat):Owns h base e sz ⟨Te,0,0⟩ []:=World.ownsRow_nil _ _ _ _
theorem Owns.length{base:Nat}{sz:Nat}(H:Owns h base e sz s xs):xs.length=s.len*sz:=H.1
theorem Owns.arr{base:Nat}{sz:Nat}(H:Owns h base e sz s xs):fD h.size h s.a xs:=by rcases H.2 with⟨f,h0⟩|⟨g,cap,b,f,q,l,n,r,o,p⟩;have k:=H.1;rw[h0]at k;exact .inl (by simpa using k);simp only[UW]at f;have c:g<h.size:=(Ut.1 l).1;refine .inr ⟨g,0,f.1,c,λi v hi=>?_⟩;have m:h[g]?=Td (.cells b e (0,0)):=l;unfold zc;grind
theorem Owns.base_le{base:Nat}{sz:Nat}(H:Owns h base e sz s xs):∀p,s.a=Td p->base<=p.block/\p.block<h.size:=by intro p b;exact World.ownsRow.lt H p.block (by simp[Value.ownBlock,b])
theorem Owns.keep{base:Nat}{sz:Nat}(H:Owns h base e sz s xs)(k:∀p,s.a=Td p->h'[p.block]?=h[p.block]?):Owns h' base e sz s xs:=by refine⟨H.1,?_⟩;rcases H.2 with l|⟨g,cap,b,c,f,i,rest⟩;grind;simp only[UW]at c;refine .inr ⟨g,cap,b,by simp[c],f,?_,rest⟩;have:=k _ c.1;exact this.trans i
theorem Owns.keepN{base:Nat}{sz:Nat}(H:Owns h base e sz s xs)(k:Keep h.size h h'):Owns h' base e sz s xs:= H.keep λp b=>k.get _ (H.base_le p b).2
structure ElemT (P:Program) (t e:TypeId) (z:Value) (sz bytes:Nat):Prop where
 slice:P.underlying t=Td (.slice e)
 info:∃i,P.info? e=Td i/\i.zero=Td z/\i.size=sz/\i.bytes=bytes
 zero:z.cells.size=sz
 pos:0<sz
theorem C0{w:World}{i:TypeInfo}{sz bytes base:Nat}(x:P.underlying t=Td (.slice e))(hi:P.info? e=Td i)(H:i.zero=Td z)(A:i.size=sz)(B:i.bytes=bytes) {v:Value} (f:w.ownsRow base e sz v n xs) {a:Addr} {m c:Nat} (s:news.length=m*sz) (b:∀j u,news[j]?=Td u->w.cell? (a.add j)=Td u) (h1:∀u∈news,u.oneCell'=Ta) (M:n+m<=4611686018427387904) (k:(n+m)*bytes<=140737488355328) {F:Value} {w':World} (V:(Ug #[t,t] ty #[v,.slice (Td a) m c]).run P w=.ok F w'):
  ∀y l G,F=.slice (Td y) l G->(∃p N c0,v=.slice (Td p) N c0/\y.block=p.block)\/y.block=w.heap.size:=by
 subst A B;intro y l G L;rcases f.2 with⟨rfl,rfl⟩|⟨g,cap,q,rfl,O,J,Q,I,E,C⟩;by_cases U:m=0;subst U;have S:news=[]:=UK (by simpa using s);subst S;have D:(Ug #[t,t] ty #[.slice Te 0 0,.slice (Td a) 0 c]).run P w=.ok (.slice Te 0 0) w:=by simp[Ug,run_underlying x,sizeOf,typeInfo,hi,Builtin.lenOf,VY,loadCells,loadCellsFrom]
 simp_all;have D:=run_append_nil (P:=P) (ty:=ty) w t e i z x hi H a m c news s b (by omega) (by omega) (by grind);grind;by_cases h:n+m<=cap;have r:n*i.size+news.length<=q.size:=by rw[s,E,<-VU];exact UC _ h
 have D:=run_append_room (P:=P) (ty:=ty) w t e i x hi g n cap q J a m c news s b h1 h r;simp_all;have o:∀j u,xs[j]?=Td u->w.cell? ((⟨g,0,Te⟩:Addr).add j)=Td u:=f.cells (g:=g) rfl;have D:=run_append_grow (P:=P) (ty:=ty) w t e i z x hi H ⟨g,0,Te⟩ n cap xs f.1 o a m c news s b (by omega) (by omega) (growslice_fits (by omega) k);grind
theorem Jj{sz bytes:Nat}(T:ElemT P t e z sz bytes){base:Nat}(H:Owns h base e sz s xs) {src:Sl} (hs:fD n h src.a news) (hl:news.length=src.len*sz) (h1:∀u∈news,u.oneCell'=Ta) (m:(s.len+src.len)*bytes<=140737488355328) (L:s.len+src.len<=4611686018427387904) (r:base<=h.size) {K:Value->zb->Prop} (hK:∀(f:Sl) (h':zb),f.len=s.len+src.len->Owns h' base e sz f (xs++news)->(∀i,i<h.size->(∀p,s.a=Td p->i≠p.block)->h'[i]?=h[i]?)->h.size<=h'.size->(∀k,f.a=Td k->(∃p,s.a=Td p/\k.block=p.block)\/k.block=h.size)->K (.slice f.a f.len f.cap) h'):
  XRun P (Ug #[t,t] ty #[.slice s.a s.len s.cap,.slice src.a src.len src.cap]) h K:=by
 intro B d;obtain⟨i,hi,O,C,D⟩:=T.info;have key:∃y w',(Ug #[t,t] ty #[.slice s.a s.len s.cap,.slice src.a src.len src.cap]).run P (mk B d h)=.ok y w'/\w'.ownsRow base e sz y (s.len+src.len) (xs++news)/\(mk B d h).grownBy w' (Value.ownBlock (.slice s.a s.len s.cap)) /\
   ∀k l J,y=.slice (Td k) l J->(∃p,s.a=Td p/\k.block=p.block)\/k.block=h.size:=by
  have c:(mk B d h).ownsRow base e sz (.slice s.a s.len s.cap) s.len xs:=H;rcases hs with U|⟨b,o,U,V,hc⟩;subst U;have h0:src.len=0:=by rcases XI src.len with h0|h0;exact h0;have:=Nat.mul_pos h0 T.pos;grind
  rw[h0];have S:∃q,q=src.a:=⟨_,rfl⟩;obtain⟨q,Z⟩:=S;rw[<-Z];cases q with
  |none=>
   refine⟨_,mk B d h,?_,by simpa using c,⟨rfl,rfl,rfl,Uc _,λ_ _ _=>rfl⟩,λk l J A=>.inl ⟨k,by simp_all,rfl⟩⟩;have hT:=T.slice;have ab:s.len<=s.cap:=by rcases c.2 with⟨I,N⟩|⟨g,cap,aa,I,_,_,af,_⟩;omega;simp_all
   generalize s.a=sa at *;cases sa <;> simp[Ug,run_underlying hT,sizeOf,typeInfo,hi,Builtin.lenOf,VY,ab,storeCells]
  |some p=>obtain⟨y,w',E,G,x,_⟩:=run_append_own (P:=P) (w:=mk B d h) base t ty e i z sz bytes T.slice hi O C D T.zero T.pos (.slice s.a s.len s.cap) s.len xs c p 0 src.cap [] (by simp) (by simp) (by simp) (by unfold maxLen;omega) (by simp_all) r;refine⟨y,w',E,G,x,λk l J A=>?_⟩;rcases C0 T.slice hi O C D c (news:=[]) (by simp) (by simp) (by simp) (by omega) (by simp_all) E k l J A with⟨q,l0,c0,Z,V⟩|V;simp_all;exact .inr V
  rw[U];obtain⟨y,w',E,G,x,_⟩:=run_append_own (P:=P) (w:=mk B d h) base t ty e i z sz bytes T.slice hi O C D T.zero T.pos (.slice s.a s.len s.cap) s.len xs c ⟨b,o,Te⟩ src.len src.cap news hl (λj u hu=>by rw[zj];exact hc j u hu) h1 (by unfold maxLen;omega) m r;refine⟨y,w',E,G,x,λk l J A=>?_⟩;rcases C0 T.slice hi O C D c hl (λj u hu=>by rw[zj];exact hc j u hu) h1 L m E k l J A with⟨q,l0,c0,Z,M⟩|M;simp_all;exact .inr M
 obtain⟨y,w',E,G,x,r4⟩:=key;have hw:w'=mk B w'.drawn w'.heap:=by have I:=x.os;have N:=x.tape;have e3:=x.output;cases w';simp only[mk]at *;subst I;subst N;subst e3;rfl
 rw[hw]at E;have hv:∃f:Sl,y=.slice f.a f.len f.cap/\f.len=s.len+src.len:=by rcases G.2 with⟨I,N⟩|⟨g,cap,aa,I,_⟩;exact⟨⟨Te,0,0⟩,I,N.symm⟩;exact⟨⟨Td ⟨g,0,Te⟩,s.len+src.len,cap⟩,I,rfl⟩
 obtain⟨f,rfl,F⟩:=hv;refine⟨_,_,_,E,hK f w'.heap F ?_ ?_ x.size λk Y=>r4 k f.len f.cap (by rw[Y])⟩;rw[<-F]at G;exact G;intro j hj ae;refine x.block j hj λQ=>?_;cases S:s.a with
 |none=>rw[S]at Q;cases Q
 |some p=>rw[S]at Q;simp only[Value.ownBlock,Ud]at Q;grind
end
section
variable {h:zb} {m:Nat} {P:Program} {kt t et:TypeId} {z:Value}
def dx(l:List (Bt×Value))(k:Bt):Option Value:=match l with
 |[]=>Te
 |p::l=>if p.1=k then Td p.2 else dx l k
def fN(l:List (Bt×Value))(k:Bt)(v:Value):List (Bt×Value):=match l with
 |[]=>[(k,v)]
 |p::l=>if p.1=k then(k,v)::l else p::fN l k v
theorem Dz(l:List (Bt×Value))(k b:Bt)(v:Value):dx (fN l k v) b=if k=b then Td v else dx l b:=by
 induction l with
 |nil=>simp[fN,dx]
 |cons p l c=>simp only[fN];split;rename_i h;simp only[dx];simp_all;rename_i h;simp only[dx,c];grind
def MapAt(h:zb)(m:Nat)(l:List (Bt×Value)):Prop:=∃c b,h[m]?=Td (.map c b)/\c.toList.map (λe=>(e.key,e.val))=l.map λp=>(UJ p.1,p.2)
theorem MapAt.keep{h h':zb}{l:List (Bt×Value)}(H:MapAt h m l)(k:h'[m]?=h[m]?):MapAt h' m l:=by obtain⟨b,c,h1,h2⟩:=H;exact⟨b,c,k.trans h1,h2⟩
theorem MapAt.lt{l:List (Bt×Value)}(H:MapAt h m l):m<h.size:=by obtain⟨b,c,h1,h2⟩:=H;grind
theorem MapAt.new(h:zb):MapAt (h.push (.map #[] 0)) h.size []:=⟨#[],0,yx _ _,rfl⟩
structure MapT (P:Program) (t kt et:TypeId) (z:Value):Prop where
 map:P.underlying t=Td (.map kt et)
 key:P.underlying kt=Td .string
 zero:∃i,P.info? et=Td i/\i.zero=Td z
theorem pm(a b:Bt):(a==b)=decide (a=b):=by show ByteArray.beq a b=_;cases a;cases b;rw[Uy];simp[ByteArray.beq]
instance lawfulBA:LawfulBEq Bt where
 eq_of_beq:=λ {a b} h=>by rw[pm]at h;simpa using h
 rfl:=λ {a}=>by rw[pm];simp
theorem Wo(k:Bt):∀(f:List MapEntry) (l:List (Bt×Value)) (i:Nat),f.map (λe=>(e.key,e.val))=l.map (λp=>(UJ p.1,p.2)) ->
  (dx l k=Te/\VX .string (.string k) f i=Td Te)\/(∃j v e,dx l k=Td v/\f[j]?=Td e/\e.key=.string k/\e.val=v/\VX .string (.string k) f i=Td (Td (i+j,v)) /\ ∀w,(f.modify j λe=>{ e with key:=.string k,val:=w }).map (λe=>(e.key,e.val))=(fN l k w).map λp=>(UJ p.1,p.2))
 |[],l,i,h=>by
  have:l=[]:=by cases l <;> simp_all
  subst this;exact .inl ⟨rfl,rfl⟩
 |e::f,l,i,h=>by
  cases l with
  |nil=>simp at h
  |cons p l=>
   simp only[Uq,Vu,Vg]at h;obtain⟨⟨h1,h2⟩,o⟩:=h;by_cases c:p.1=k;refine .inr ⟨0,p.2,e,by simp[dx,c],rfl,by rw[h1,c],h2,?_,λw=>?_⟩;have b:(k==p.1)=Ta:=by rw[pm];simpa using c.symm
   simp[VX,YB,h1,h2,b];simp[fN,c,o];have b:(k==p.1)=Tc:=by rw[pm];simpa using λe=>c e.symm
   rcases Wo k f l (i+1) o with⟨m,n⟩|⟨j,v,e',m,n,t,q,s,r⟩;refine .inl ⟨by simp[dx,c,m],?_⟩;simp[VX,YB,h1,b,n];refine .inr ⟨j+1,v,e',by simp[dx,c,m],by simpa using n,t,q,?_,λw=>?_⟩;simp[VX,YB,h1,b,s];omega;simp[fN,c,h1,h2,r w]
theorem sj(c:P.underlying kt=Td .string)(b:Bool)(k:Bt)(h:zb):QExec P (Instr.checkKey b 10000 kt (.string k)) h ():=by intro B d;have e:=QExec.underlying (h:=h) c B d;unfold Instr.checkKey;simp_all
theorem Zt(c:P.underlying kt=Td .string)(k:Bt)(b:List MapEntry)(r:Option (Nat×Value))(h:zb)(e:VX .string (.string k) b 0=Td r):
  QExec P (Instr.findKey kt (.string k) b) h r:=by
 intro B d;have f:=QExec.underlying (h:=h) c B d;unfold Instr.findKey;simp_all
theorem Qx{b:Array MapEntry}{c:Nat}(e:h[m]?=Td (.map b c)):QExec P (getObj m) h (.map b c):=by intro B d;have:(mk B d h).heap[m]?=Td (.map b c):=e;simp[getObj,Sem.run,this]
theorem QW(b:∃i,P.info? t=Td i/\i.zero=Td z):QExec P (zeroValue t) h z:=by obtain⟨i,h1,h2⟩:=b;intro B d;simp[zeroValue,typeInfo,program,h1,h2,Sem.run]
def eX(l:List (Bt×Value))(k:Bt)(z:Value):Value:=(dx l k).getD z
theorem Wp(T:MapT P t kt et z){l:List (Bt×Value)}(H:MapAt h m l)(k:Bt)(ok:Bool):
  QExec P (XG t (.map (Td m)) (.string k) ok) h (if ok then .tuple #[eX l k z,.bool (dx l k).isSome]else eX l k z):=by
 obtain⟨b,c,h1,h2⟩:=H;intro B d;have n:=QExec.underlying (h:=h) T.map B d;have o:=Qx (P:=P) h1 B d;have q:=sj T.key b.isEmpty k h B d;unfold XG;rw[Sem.run_bind,n];simp only[Result.andThen_ok,Sem.run_bind,o,Sem.run_pure,q];rcases Wo k b.toList l 0 h2 with⟨f,i⟩|⟨j,v,e,f,i,u,s,p,_⟩;rw[Zt T.key k b.toList Te h i B d];have r:=QW (h:=h) T.zero B d;simp only[Result.andThen_ok,Sem.run_bind,r,Sem.run_pure,eX,f];simp;rw[Zt T.key k b.toList _ h p B d];simp only[Result.andThen_ok,eX,f];simp
theorem vX{l:List (Bt×Value)}{k:Bt}{v:Value}(g:dx l k=Te):fN l k v=l++[(k,v)]:=by
 induction l with
 |nil=>rfl
 |cons p l c=>simp only[dx]at g;split at g;cases g;rename_i b;simp[fN,b,c g]
theorem yZ(T:MapT P t kt et z){l:List (Bt×Value)}(H:MapAt h m l)(k:Bt)(v:Value){K:zb->Prop}
  (x:∀h':zb,MapAt h' m (fN l k v)->h'.size=h.size->(∀i,i≠m->h'[i]?=h[i]?)->K h'):XRunU P (VC t (.map (Td m)) (.string k) v) h K:=by
 have f:=H.lt;obtain⟨b,c,h1,h2⟩:=H;intro B d;have s:=QExec.underlying (h:=h) T.map B d;have w:=Qx (P:=P) h1 B d;have y:=sj T.key Tc k h B d;have n:∀o:Obj,(setObj m o).run P (mk B d h)=.ok () (mk B d (h.setIfInBounds m o)):=by intro o;have:(mk B d h).heap[m]?=Td (.map b c):=h1;simp[setObj,Sem.run,this];rfl
 unfold VC;rcases Wo k b.toList l 0 h2 with⟨r,q⟩|⟨j,G,e,r,q,C,D,A,E⟩;refine⟨d,h.setIfInBounds m (.map (b.push { key:=.string k,val:=v,born:=c }) (c+1)),?_,x _ ⟨b.push { key:=.string k,val:=v,born:=c },c+1,by simp[f],?_⟩ (by simp) (λi hi=>by grind)⟩;rw[Sem.run_bind,s];simp only[Result.andThen_ok,Sem.run_bind,w,y];rw[Zt T.key k b.toList Te h q B d];simp_all;rw[vX r];simp[h2];have u:j<b.size:=by have:=(UE.1 q).1;simpa using this
 refine⟨d,_,?_,x (h.setIfInBounds m (.map (b.modify j λe=>{ e with key:=.string k,val:=v }) c)) ⟨b.modify j λe=>{ e with key:=.string k,val:=v },c,by simp[f],?_⟩ (by simp) (λi hi=>by grind)⟩;rw[Sem.run_bind,s];simp only[Result.andThen_ok,Sem.run_bind,w,y];rw[Zt T.key k b.toList _ h A B d];simp only[Result.andThen_ok,UI];have p:((b[j]?).map (·.key)).getD (.string k)=.string k:=by
  have:b[j]?=Td e:=by simpa using q
  rw[this];exact C
 rw[p];have F:WT (.string k) (.string k)=pure (.string k):=by unfold WT;rw[zA (by show(k==k)=Ta;simp)]
 simp_all;simp_all
end
section
variable {h h':zb} {b n o:Nat} {cs:Array Value} {v:Value} {P:Program}
def Blk(h:zb)(b:Nat)(cs:Array Value):Prop:=∃T,h[b]?=Td (.cells cs T (0,0))
theorem Blk.keep(H:Blk h b cs)(k:h'[b]?=h[b]?):Blk h' b cs:=by obtain⟨T,e⟩:=H;exact⟨T,k.trans e⟩
theorem Blk.keepN(H:Blk h b cs)(k:Keep n h h')(c:b<n):Blk h' b cs:=H.keep (k.get b c)
theorem Blk.new(h:zb)(cs:Array Value)(T:TypeId):Blk (h.push (.cells cs T)) h.size cs:=⟨T,yx _ _⟩
theorem jf{h g:zb}{T:TypeId}(e:g=h.push (.cells cs T)):Keep h.size h g/\g.size=h.size+1/\Blk g h.size cs:=by subst e;exact⟨Keep.push _ _ (Uc _),Ur _,Blk.new _ _ _⟩
theorem Blk.lt(H:Blk h b cs):b<h.size:=by obtain⟨T,e⟩:=H;grind
theorem Blk.cell(H:Blk h b cs)(c:cs[o]?=Td v):zc h ⟨b,o,Te⟩=Td v:=by obtain⟨T,e⟩:=H;unfold zc;simp[e,c]
theorem Blk.cellAdd{b o k:Nat}(H:Blk h b cs)(c:cs[o+k]?=Td v):zc h ((⟨b,o,Te⟩:Addr).add k)=Td v:=by rw[zj];exact H.cell c
theorem Blk.ld{cs:List Value}(H:Blk h b cs.toArray):zd h ⟨b,0,Te⟩ 0 cs:=by
 have key:∀(l:List Value) (i:Nat),(∀j v,l[j]?=Td v->cs[i+j]?=Td v)->zd h ⟨b,0,Te⟩ i l:=by
  intro l;induction l with
  |nil=>intro i _;trivial
  |cons v l c=>intro i hi;refine⟨?_,c (i+1) λj u e=>?_⟩;rw[zj,UI];exact H.cell (by have:=hi 0 v rfl;grind);have:=hi (j+1) u (by simpa using e);grind
 simp_all
theorem Keep.setBlk(o:Obj)(c:n<=b):Keep n h (h.setIfInBounds b o):= ⟨by simp,λi hi=>by grind⟩
theorem qW(H:Blk h b cs)(B:World)(d:Nat):(mk B d h).frozen? ⟨b,o,Te⟩=Tc:=by obtain⟨T,e⟩:=H;have:(mk B d h).heap[b]?=Td (.cells cs T (0,0)):=e;simp[World.frozen?,this]
theorem Ep{T:TypeId}(e:h[b]?=Td (.cells cs T (0,0)))(l:o<cs.size)(f:v.oneCell'=Ta)(B:World)(d:Nat):
  (store ⟨b,o,Te⟩ v).run P (mk B d h)=.ok () (mk B d (h.setIfInBounds b (.cells (cs.setIfInBounds o v) T (0,0)))):=by
 have m:(mk B d h).cell? ⟨b,o,Te⟩=Td cs[o]:=Blk.cell (h:=h) ⟨T,e⟩ (by simp[l]);have k:=qW (o:=o) (⟨T,e⟩:Blk h b cs) B d;have c:(mk B d h).setCell ⟨b,o,Te⟩ v=mk B d (h.setIfInBounds b (.cells (cs.setIfInBounds o v) T (0,0))):=by unfold World.setCell mk;simp only;congr 1;have n:b<h.size:=(Ut.1 e).1;apply Array.ext_getElem?;intro i;rw[Array.getElem?_modify];by_cases hi:i=b;simp_all;grind
 cases v with
 |agg x=>simp[Value.oneCell']at f
 |tuple x=>simp[Value.oneCell']at f
 |_=>simp only[store,Sem.run,m,k,UR,if_false,c]
theorem cells_one(b:v.oneCell'=Ta):v.cells=#[v]:=by cases v <;> first|rfl|simp[Value.oneCell']at b
theorem qo{t:TypeId}(hi:qj P t=Ta)(l:jg P t=1)(H:Blk h b cs)(f:o<cs.size)(c:v.oneCell'=Ta){K:zb->Prop}
  (n:∀h':zb,Blk h' b (cs.setIfInBounds o v)->h'.size=h.size->(∀i,i≠b->h'[i]?=h[i]?)->K h'):XRunU P (Ub t (.pointer (Td ⟨b,o,Te⟩)) v) h K:=by
 obtain⟨T,e⟩:=H;have k:b<h.size:=(Ut.1 e).1;intro B d;refine⟨d,_,?_,n (h.setIfInBounds b (.cells (cs.setIfInBounds o v) T (0,0))) ⟨T,by simp[k]⟩ (by simp) λi hi=>by grind⟩;have p:=QExec.sizeOf (P:=P) (h:=h) (wh hi).choose_spec B d;unfold Ub XR;simp only[Sem.run_bind,Sem.run_pure,Result.andThen_ok];unfold storeVar;rw[Sem.run_bind,p];simp only[Result.andThen_ok];rw[l,cells_one c];simp only[List.size_toArray,Uk,UG,UI,ne_eq,not_true_eq_false,if_false];show Sem.run P (storeCells ⟨b,o,Te⟩ [v]) _=_;unfold storeCells;rw[Sem.run_bind];have m:(⟨b,o,Te⟩:Addr).add 0=⟨b,o,Te⟩:=by rw[zj];rfl
 rw[m,Ep e f c B d];rfl
theorem Y3{P:Program}{b:Nat}{T:TypeId}(B:World)(d:Nat):∀(vs:List Value) (i:Nat) (h:zb) (cs:Array Value),h[b]?=Td (.cells cs T (0,0))->i+vs.length<=cs.size->(∀v∈vs,v.oneCell'=Ta) ->
  ∃h',(storeCells ⟨b,0,Te⟩ vs i).run P (mk B d h)=.ok () (mk B d h')/\h'[b]?=Td (.cells (cs.toList.take i++vs++cs.toList.drop (i+vs.length)).toArray T (0,0))/\h'.size=h.size/\∀j,j≠b->h'[j]?=h[j]?
 |[],i,h,cs,e,_,_=>⟨h,rfl,by simpa using e,rfl,λ_ _=>rfl⟩
 |v::vs,i,h,cs,e,hl,hv=>by
  have l:b<h.size:=(Ut.1 e).1;simp only[Uk]at hl;have h1:=Ep (P:=P) e (o:=i) (by omega) (hv v Uu) B d;have e':(h.setIfInBounds b (.cells (cs.setIfInBounds i v) T (0,0)))[b]?=Td (.cells (cs.setIfInBounds i v) T (0,0)):=by simp[l]
  have c:i+1+vs.length<=(cs.setIfInBounds i v).size:=by rw[U6];omega
  obtain⟨h',n,m,f,p⟩:=Y3 (P:=P) B d vs (i+1) (h.setIfInBounds b (.cells (cs.setIfInBounds i v) T (0,0))) (cs.setIfInBounds i v) e' c λu k=>hv u (Uo _ k);refine⟨h',?_,?_,by rw[f];simp,λj q=>by grind⟩;unfold storeCells;rw[Sem.run_bind,zj,UI,h1];simp_all;rw[m];congr 3;have hi:i<cs.toList.length:=by simp;omega
  simp only[Array.toList_setIfInBounds,Uk];rw[List.take_set,List.drop_set_of_lt (by omega)];have r:(cs.toList.take (i+1)).set i v=cs.toList.take i++[v]:=by
   rw[Uh hi,List.set_append_right _ _ (by simp;omega)];have:i-(cs.toList.take i).length=0:=by simp;omega
   rw[this];rfl
  grind
theorem Owns.base{h:zb}{base b:Nat}{e:TypeId}{sz:Nat}{s:Sl}{xs:List Value}(H:Owns h base e sz s xs)(k:b<=base):Owns h b e sz s xs:=by refine⟨H.1,?_⟩;rcases H.2 with l|⟨g,cap,c,f,i,rest⟩;grind;exact .inr ⟨g,cap,c,f,by omega,rest⟩
end
end
section
variable {cs:List Value}
inductive Tr where
 |mk (kind:Int) (text:Bt) (keys:List Bt) (items:List Tr)
namespace Tr
@[reducible] def kind:Tr->Int|mk k _ _ _=>k
@[reducible] def text:Tr->Bt|mk _ s _ _=>s
@[reducible] def keys:Tr->List Bt|mk _ _ ks _=>ks
@[reducible] def items:Tr->List Tr|mk _ _ _ xs=>xs
@[simp] theorem oX(t:Tr):mk t.kind t.text t.keys t.items=t:=by cases t;rfl
instance:Inhabited Tr:=⟨mk 0 ⟨#[]⟩ [] []⟩
end Tr
inductive Ty where
 |int (k:IntKind)|bool|str|row (t:Ty)|tree|unit|pair (a b:Ty)|ptr (t:Ty)|iter|err
 deriving DecidableEq
abbrev p3:Ty:=.int .i64
@[reducible] def El:Ty->Type
 |.int _=>Int
 |.bool=>Bool
 |.str=>Bt
 |.row t=>List (El t)
 |.tree=>Tr
 |.unit=>Unit
 |.pair a b=>El a×El b
 |.ptr t=>El t
 |.iter=>Bt×Nat
 |.err=>Bool
def l6:(t:Ty)->El t
 |.int _=>(0:Int)
 |.bool=>Tc
 |.str=>(⟨#[]⟩:Bt)
 |.row _=>[]
 |.tree=>default
 |.unit=>()
 |.pair a b=>(l6 a,l6 b)
 |.ptr t=>l6 t
 |.iter=>(⟨#[]⟩,0)
 |.err=>Ta
def sz:Ty->Nat
 |.tree=>4
 |.unit=>0
 |.pair a b=>sz a+sz b
 |_=>1
abbrev Fr:=Nat->Option (Array Value)
def Fr.le(M M':Fr):Prop:=∀b cs,M b=Td cs->M' b=Td cs
theorem Fr.le.refl(M:Fr):Fr.le M M:=λ_ _ h=>h
theorem Fr.le.trans{a b c:Fr}(h:Fr.le a b)(k:Fr.le b c):Fr.le a c:=λ_ _ e=>k _ _ (h _ _ e)
def cut(cs:Array Value)(o n:Nat):List Value:=(cs.toList.drop o).take n
def RowAt(M:Fr){α:Type}(R:α->List Value->Prop)(z:Nat)(xs:List α)(v:Value):Prop:=
 ∃a c,v=.slice a xs.length c/\(xs.length<=140737488355328/\xs.length<=c)/\(xs=[]\/∃b o cs,a=Td ⟨b,o,Te⟩/\M b=Td cs/\∀i (h:i<xs.length),R xs[i] (cut cs (o+i*z) z))
inductive TrRd (M:Fr):Tr->List Value->Prop where
 |mk {k:Int} {s:Bt} {ks:List Bt} {xs:List Tr} {vk:Value} {a:Option Addr} {c b o:Nat} {cs:Array Value}
  (hk:RowAt M (λs cs=>cs=[.string s]) 1 ks vk) (hn:xs.length<=140737488355328/\xs.length<=c) (hz:xs=[]\/(a=Td ⟨b,o,Te⟩/\M b=Td cs))
  (hi:∀i (h:i<xs.length),TrRd M xs[i] (cut cs (o+i*4) 4)):TrRd M (.mk k s ks xs) [.int .i64 k,.string s,vk,.slice a xs.length c]
def Zu(s:Bt)(p:Nat):Value:=.iface 0 (.agg #[.string s,.int .i64 p])
def Rd(M:Fr):(t:Ty)->El t->List Value->Prop
 |.int k,i,cs=>cs=[.int k i]
 |.bool,b,cs=>cs=[.bool b]
 |.str,s,cs=>cs=[.string s]
 |.row t,xs,cs=>∃v,cs=[v]/\RowAt M (Rd M t) (sz t) xs v
 |.tree,t,cs=>TrRd M t cs
 |.unit,_,cs=>cs=[]
 |.pair a b,x,cs=>∃c1 c2,cs=c1++c2/\Rd M a x.1 c1/\Rd M b x.2 c2
 |.ptr t,x,cs=>∃b o c,cs=[.pointer (Td ⟨b,o,Te⟩)]/\M b=Td c/\Rd M t x (cut c o (sz t))
 |.iter,x,cs=>cs=[Zu x.1 x.2]
 |.err,b,cs=>∃v,cs=[v]/\((b=Ta/\v=.nilIface)\/(b=Tc/\∃t u,v=.iface t u))
theorem RowAt.mono{M M':Fr}(k:Fr.le M M'){α:Type}{R f:α->List Value->Prop}{z:Nat}{xs:List α}{v:Value}(H:RowAt M R z xs v)(p:∀x∈xs,∀cs,R x cs->f x cs):RowAt M' f z xs v:=by obtain⟨a,c,e,m,h⟩:=H;refine⟨a,c,e,m,h.imp id ?_⟩;rintro⟨b,o,cs,n,q,l⟩;exact⟨b,o,cs,n,k _ _ q,λi h=>p _ (Up _) _ (l i h)⟩
theorem TrRd.mono{M M':Fr}(b:Fr.le M M'){t:Tr}(H:TrRd M t cs):TrRd M' t cs:=by
 induction H with
 |mk c f i _ e=>exact .mk (c.mono b λ_ _ _ h=>h) f (i.imp id λh=>⟨h.1,b _ _ h.2⟩) e
theorem Rd.mono{M M':Fr}(c:Fr.le M M'):∀{t:Ty} {x:El t} {cs:List Value},Rd M t x cs->Rd M' t x cs
 |.int _,_,_,h=>h
 |.bool,_,_,h=>h
 |.str,_,_,h=>h
 |.row _,_,_,⟨v,e,h⟩=>⟨v,e,h.mono c λ_ _ _ h=>Rd.mono c h⟩
 |.tree,_,_,h=>TrRd.mono c h
 |.unit,_,_,h=>h
 |.pair _ _,_,_,⟨c1,c2,e,h1,h2⟩=>⟨c1,c2,e,Rd.mono c h1,Rd.mono c h2⟩
 |.ptr _,_,_,⟨b,o,cc,e,h1,h2⟩=>⟨b,o,cc,e,c _ _ h1,Rd.mono c h2⟩
 |.iter,_,_,h=>h
 |.err,_,_,h=>h
theorem Rd.len{M:Fr}:∀{t:Ty} {x:El t} {cs:List Value},Rd M t x cs->cs.length=sz t
 |.int _,_,_,h=>by rw[h];rfl
 |.bool,_,_,h=>by rw[h];rfl
 |.str,_,_,h=>by rw[h];rfl
 |.row t,_,_,⟨v,e,_⟩=>by rw[e];rfl
 |.tree,_,_,h=>by cases h;rfl
 |.unit,_,_,h=>by rw[h];rfl
 |.pair _ _,_,_,⟨c1,c2,e,h1,h2⟩=>by rw[e,Uf,Rd.len h1,Rd.len h2];rfl
 |.ptr _,_,_,⟨b,o,cc,e,_⟩=>by rw[e];rfl
 |.iter,_,_,h=>by rw[h];rfl
 |.err,_,_,⟨v,e,_⟩=>by rw[e];rfl
theorem Rd.one{M:Fr}:∀{t:Ty} {x:El t} {cs:List Value},Rd M t x cs->∀v∈cs,v.oneCell'=Ta
 |.int _,_,_,h=>by rw[h];simp[Value.oneCell']
 |.bool,_,_,h=>by rw[h];simp[Value.oneCell']
 |.str,_,_,h=>by rw[h];simp[Value.oneCell']
 |.row t,_,_,⟨v,e,a,c,e2,_⟩=>by rw[e,e2];simp[Value.oneCell']
 |.tree,_,_,h=>by
  cases h with
  |mk i _ _ _=>obtain⟨a,c,e,_⟩:=i;rw[e];simp[Value.oneCell']
 |.unit,_,_,h=>by rw[h];simp
 |.pair _ _,_,_,⟨c1,c2,e,h1,h2⟩=>by intro v f;rw[e]at f;rcases Uv.1 f with f|f;exact Rd.one h1 v f;exact Rd.one h2 v f
 |.ptr _,_,_,⟨b,o,cc,e,_⟩=>by rw[e];simp[Value.oneCell']
 |.iter,_,_,h=>by rw[h];simp[Value.oneCell',Zu]
 |.err,_,_,⟨v,e,h⟩=>by rw[e];rcases h with⟨_,rfl⟩|⟨_,t,u,rfl⟩ <;> simp[Value.oneCell']
theorem TrRd.keys{M:Fr}{t:Tr}(H:TrRd M t cs):∃e f,cs=[.int .i64 t.kind,.string t.text,e,f]/\Rd M (.row .str) t.keys [e]/\Rd M (.row .tree) t.items [f]:=by
 cases H with
 | @mk k s ks xs e a c b o cs hk hn hz hi=>exact⟨e,_,rfl,⟨e,rfl,hk⟩,⟨_,rfl,a,c,rfl,hn,hz.imp id λh=>⟨b,o,cs,h.1,h.2,hi⟩⟩⟩
theorem TrRd.of{M:Fr}{k:Int}{s:Bt}{ks:List Bt}{xs:List Tr}{l n:Value}(h1:Rd M (.row .str) ks [l])(h2:Rd M (.row .tree) xs [n]):TrRd M (.mk k s ks xs) [.int .i64 k,.string s,l,n]:=by
 obtain⟨v,e,h1⟩:=h1;obtain⟨r,e',a,c,f,m,h2⟩:=h2;cases e;cases e';subst f;rcases h2 with rfl|⟨b,o,cs,q,f,p⟩;exact .mk (b:=0) (o:=0) (cs:=#[]) h1 m (.inl rfl) λi h=>absurd h (by simp)
 exact .mk h1 m (.inr ⟨q,f⟩) p
def Bd:(t:Ty)->El t->Prop
 |.row _,xs=>xs.length<=140737488355328
 |.tree,t=>t.keys.length<=140737488355328/\t.items.length<=140737488355328
 |.pair a b,x=>Bd a x.1/\Bd b x.2
 |_,_=>True
theorem Rd.bd{M:Fr}:∀{t:Ty} {x:El t} {cs:List Value},Rd M t x cs->Bd t x
 |.int _,_,_,_=>trivial
 |.bool,_,_,_=>trivial
 |.str,_,_,_=>trivial
 |.row t,_,_,⟨v,_,a,c,_,h,_⟩=>h.1
 |.tree,_,_,h=>by
  cases h with
  |mk b f _ _=>obtain⟨a,c,e,h,_⟩:=b;exact⟨h.1,f.1⟩
 |.unit,_,_,_=>trivial
 |.pair _ _,_,_,⟨_,_,_,h1,h2⟩=>⟨Rd.bd h1,Rd.bd h2⟩
 |.ptr _,_,_,_=>trivial
 |.iter,_,_,_=>trivial
 |.err,_,_,_=>trivial
inductive AA where
 |v (x:Value)
 |d (t:Ty) (x:El t)
 |box (c o:Nat)
 |own (c:Nat)
 |oelt (c z:Nat) (i:Nat) (o:Nat)
 |elt (t:Ty) (x:El t) (o:Nat)
 |dc (t:Ty) (xs:List (El t))
inductive AG where
 |a (x:AA)
 |agg (l:List AA)
inductive AV where
 |g (x:AG)
 |tup (l:List AG)
 |nx (b:Bool) (p:Int) (c:Int)
structure Gh where
 M:Fr
 β:Nat->Nat
 σ:Nat->Sl
def All2{α β:Type}(R:α->β->Prop):List α->List β->Prop
 |[],[]=>True
 |x::xs,y::ys=>R x y/\All2 R xs ys
 |_,_=>False
def aK(s:Sl):Value:=.slice s.a s.len s.cap
abbrev iV(x : Int): Value := .int .i64 x
abbrev tA(a : Int)(b : Bt)(c d : Sl): Value := .agg #[.int .i64 a, .string b, aK c, aK d]
abbrev tL(a : Int)(b : Bt)(c d : Sl): List Value := [.int .i64 a, .string b, aK c, aK d]
abbrev tC: Array Value := #[.int .i64 0, .string ⟨#[]⟩, .slice Te 0 0, .slice Te 0 0]
abbrev tZ: Value := .agg tC
def DenA(γ:Gh):AA->Value->Prop
 |.v x,u=>u=x
 |.d t x,u=>Rd γ.M t x [u]
 |.box c o,u=>u=.pointer (Td ⟨γ.β c,o,Te⟩)
 |.own c,u=>u=aK (γ.σ c)
 |.oelt c z i o,u=>∃g,(γ.σ c).a=Td ⟨g,0,Te⟩/\u=.pointer (Td ⟨g,i*z+o,Te⟩)
 |.elt t x o,u=>∃b f cs,u=.pointer (Td ⟨b,f+o,Te⟩)/\γ.M b=Td cs/\Rd γ.M t x (cut cs f (sz t))
 |.dc t xs,u=>∃s:Sl,u=aK s/\s.cap=s.len/\Rd γ.M (.row t) xs [u]
def DenG(γ:Gh):AG->Value->Prop
 |.a x,u=>DenA γ x u
 |.agg l,u=>∃us,u=.agg us.toArray/\All2 (DenA γ) l us
def DenV(γ:Gh):AV->Value->Prop
 |.g x,u=>DenG γ x u
 |.tup l,u=>∃us,u=.tuple us.toArray/\All2 (DenG γ) l us
 |.nx b p c,u=>(b=Ta->u=.tuple #[.bool Ta,.int .i64 p,.int .i32 c])/\(b=Tc->u=.tuple #[.bool Tc])
theorem All2.length{α β:Type}{R:α->β->Prop}:∀{l:List α} {m:List β},All2 R l m->l.length=m.length
 |[],[],_=>rfl
 |[],_::_,h=>h.elim
 |_::_,[],h=>h.elim
 |_::_,_::_,h=>by simp[All2.length h.2]
theorem All2.imp{α β:Type}{R b:α->β->Prop}:∀{l:List α} {m:List β},All2 R l m->(∀x∈l,∀y,R x y->b x y)->All2 b l m
 |[],[],_,_=>trivial
 |[],_::_,h,_=>h.elim
 |_::_,[],h,_=>h.elim
 |_::_,_::_,h,k=>⟨k _ Uu _ h.1,All2.imp h.2 λx e y c=>k x (Uo _ e) y c⟩
theorem All2.append{α β:Type}{R:α->β->Prop}:∀{l b:List α} {m m':List β},All2 R l m->All2 R b m'->All2 R (l++b) (m++m')
 |[],_,[],_,_,h=>h
 |[],_,_::_,_,h,_=>h.elim
 |_::_,_,[],_,h,_=>h.elim
 |_::_,_,_::_,_,h,k=>⟨h.1,All2.append h.2 k⟩
theorem All2.take{α β:Type}{R:α->β->Prop}:∀(n:Nat) {l:List α} {m:List β},All2 R l m->All2 R (l.take n) (m.take n)
 |0,_,_,_=>by simp[All2]
 |_+1,[],[],_=>trivial
 |_+1,[],_::_,h=>h.elim
 |_+1,_::_,[],h=>h.elim
 |n+1,_::_,_::_,h=>⟨h.1,All2.take n h.2⟩
theorem All2.drop{α β:Type}{R:α->β->Prop}:∀(n:Nat) {l:List α} {m:List β},All2 R l m->All2 R (l.drop n) (m.drop n)
 |0,_,_,h=>by simpa using h
 |_+1,[],[],_=>trivial
 |_+1,[],_::_,h=>h.elim
 |_+1,_::_,[],h=>h.elim
 |n+1,_::_,_::_,h=>by simpa using All2.drop n h.2
theorem All2.get{α β:Type}{R:α->β->Prop}:∀{l:List α} {m:List β} {i:Nat} {x:α},All2 R l m->l[i]?=Td x->∃y,m[i]?=Td y/\R x y
 |[],[],_,_,_,h=>by simp at h
 |[],_::_,_,_,h,_=>h.elim
 |_::_,[],_,_,h,_=>h.elim
 |_::_,y::_,0,_,h,e=>by simp at e;subst e;exact⟨y,rfl,h.1⟩
 |_::_,_::_,i+1,_,h,e=>by simpa using All2.get h.2 (by simpa using e)
def Jk:(t:Ty)->El t->List AA
 |.int k,i=>[.v (.int k i)]
 |.bool,b=>[.v (.bool b)]
 |.str,s=>[.v (.string s)]
 |.row t,xs=>[.d (.row t) xs]
 |.tree,t=>[.v (.int .i64 t.kind),.v (.string t.text),.d (.row .str) t.keys,.d (.row .tree) t.items]
 |.unit,_=>[]
 |.pair a b,x=>Jk a x.1++Jk b x.2
 |.ptr t,x=>[.elt t x 0]
 |.iter,x=>[.d .iter x]
 |.err,x=>[.d .err x]
theorem xq{γ:Gh}:∀{t:Ty} {x:El t} {cs:List Value},Rd γ.M t x cs->All2 (DenA γ) (Jk t x) cs
 |.int _,_,_,h=>by rw[h];exact⟨rfl,trivial⟩
 |.bool,_,_,h=>by rw[h];exact⟨rfl,trivial⟩
 |.str,_,_,h=>by rw[h];exact⟨rfl,trivial⟩
 |.row t,_,_,⟨v,e,h⟩=>by rw[e];exact⟨⟨v,rfl,h⟩,trivial⟩
 |.tree,_,_,h=>by obtain⟨c,f,e,h1,h2⟩:=TrRd.keys h;rw[e];exact⟨rfl,rfl,h1,h2,trivial⟩
 |.unit,_,_,h=>by rw[h];trivial
 |.pair _ _,_,_,⟨c1,c2,e,h1,h2⟩=>by rw[e];exact(xq h1).append (xq h2)
 |.ptr t,x,_,⟨b,o,cc,e,h1,h2⟩=>by rw[e];exact⟨⟨b,o,cc,rfl,h1,h2⟩,trivial⟩
 |.iter,x,_,h=>by rw[h];exact⟨rfl,trivial⟩
 |.err,x,_,⟨v,e,h⟩=>by rw[e];exact⟨⟨v,rfl,h⟩,trivial⟩
def iQ:Ty->Bool
 |.iter=>Ta
 |.err=>Ta
 |.pair a b=>bif iQ a then Ta else iQ b
 |_=>Tc
theorem Rd.noIt{M:Fr}:∀{t:Ty} {x:El t} {cs:List Value},iQ t=Tc->Rd M t x cs->∀s p,Zu s p∉cs
 |.int _,_,_,_,h,s,p=>by rw[h];simp[Zu]
 |.bool,_,_,_,h,s,p=>by rw[h];simp[Zu]
 |.str,_,_,_,h,s,p=>by rw[h];simp[Zu]
 |.row t,_,_,_,⟨v,e,a,c,e2,_⟩,s,p=>by rw[e,e2];simp[Zu]
 |.tree,_,_,_,h,s,p=>by
  cases h with
  |mk i _ _ _=>obtain⟨a,c,e,_⟩:=i;rw[e];simp[Zu]
 |.unit,_,_,_,h,s,p=>by rw[h];simp
 |.pair a b,_,_,hi,⟨c1,c2,e,h1,h2⟩,s,p=>by
  simp only[iQ]at hi;cases ha:iQ a with
  |true=>simp_all
  |false=>rw[ha]at hi;rw[e];intro f;rcases Uv.1 f with f|f;exact Rd.noIt ha h1 s p f;exact Rd.noIt hi h2 s p f
 |.ptr _,_,_,_,⟨b,o,cc,e,_⟩,s,p=>by rw[e];simp[Zu]
 |.iter,_,_,hi,_,_,_=>by cases hi
 |.err,_,_,hi,_,_,_=>by cases hi
def fc:List AA->Bool
 |[.d t _]=>iQ t
 |[.v (.iface _ _)]=>Ta
 |_=>Tc
theorem pB{γ:Gh}{l:List AA}{us:List Value}(h:fc l=Tc)(k:All2 (DenA γ) l us)(s:Bt)(p:Nat):us≠[Zu s p]:=by
 intro e;subst e
 match l,k with
 |[x],k=>
  cases x with
  |v y=>rw[<-show Zu s p=y from k.1]at h;simp[fc,Zu]at h
  |d t y=>exact Rd.noIt (show iQ t=Tc from h) (show Rd γ.M t y [Zu s p]from k.1) s p (by simp)
  |box c o=>have:Zu s p=_:=k.1;simp[Zu]at this
  |own c=>have:Zu s p=_:=k.1;simp[Zu,aK]at this
  |oelt c z i o=>obtain⟨g,_,e⟩:=k.1;simp[Zu]at e
  |elt t y o=>obtain⟨b,f,cs,e,_⟩:=k.1;simp[Zu]at e
  |dc t xs=>obtain⟨m,e,_⟩:=k.1;simp[Zu,aK]at e
 |[],k=>exact k.elim
 |_::_::_,k=>exact k.2.elim
inductive Ch where
 |box (l:List AA)
 |row (e:TypeId) (t:Ty) (xs:List (El t))
 |fz (t:Ty) (xs:List (El t))
abbrev CS:=List (Nat×Ch)
def Jl:CS->Nat->Option Ch
 |[],_=>Te
 |(j,k)::l,i=>bif Nat.beq i j then Td k else Jl l i
theorem qf{l:CS}{i:Nat}{k:Ch}(h:Jl l i=Td k):(i,k)∈l:=by
 induction l with
 |nil=>cases h
 |cons x l b=>obtain⟨j,e⟩:=x;simp only[Jl]at h;by_cases c:Nat.beq i j=Ta;simp_all;simp_all
def Ym(t t':Ty)(x:El t):Option (El t'):=if h:t=t' then Td (h ▸ x)else Te
theorem Wq{M:Fr}{t t':Ty}{x:El t}{y:El t'}(h:Ym t t' x=Td y)(r:Rd M t x cs):Rd M t' y cs:=by unfold Ym at h;grind
def gp(cs:CS):(t:Ty)->AA->Option (El t)
 |.int k,.v (.int k' i)=>if k=k' then Td i else Te
 |.bool,.v (.bool b)=>Td b
 |.str,.v (.string s)=>Td s
 |.row t,.v (.slice Te 0 0)=>Td ([]:List (El t))
 |.row t,.d t' x=>Ym t' (.row t) x
 |.row t,.dc t' x=>Ym (.row t') (.row t) x
 |.row t,.own c=>match Jl cs c with
  |some (.fz t' xs)=>Ym (.row t') (.row t) xs
  |_=>Te
 |.ptr t,.elt t' x 0=>Ym t' t x
 |.ptr t,.d t' x=>Ym t' (.ptr t) x
 |.iter,.d t' x=>Ym t' .iter x
 |.err,.d t' x=>Ym t' .err x
 |.err,.v .nilIface=>Td Ta
 |.err,.v (.iface _ _)=>Td Tc
 |_,_=>Te
def collect(cs:CS):(t:Ty)->List AA->Option (El t×List AA)
 |.unit,l=>Td ((),l)
 |.pair a b,l=>match collect cs a l with
  |some (x,l')=>match collect cs b l' with
   |some (y,l'')=>Td ((x,y),l'')
   |none=>Te
  |none=>Te
 |.tree,k::s::ks::xs::l=>match gp cs (.int .i64) k,gp cs .str s,gp cs (.row .str) ks,gp cs (.row .tree) xs with
  |some k,Td s,Td ks,some xs=>Td (Tr.mk k s ks xs,l)
  |_,_,_,_=>Te
 |.tree,_=>Te
 |t,x::l=>match gp cs t x with
  |some y=>Td (y,l)
  |none=>Te
 |_,[]=>Te
def gj(γ:Gh)(cs:CS):Prop:=∀c t xs,(c,Ch.fz t xs)∈cs->Rd γ.M (.row t) xs [aK (γ.σ c)]
theorem wa{γ:Gh}{cs:CS}(k:gj γ cs){t:Ty}{x:AA}{y:El t}(h:gp cs t x=Td y){u:Value}(c:DenA γ x u):Rd γ.M t y [u]:=by unfold gp at h;split at h;split at h;rename_i l;simp only[Ud]at h;subst h;subst l;exact congrArg (λu=>[u]) c;cases h;simp only[Ud]at h;subst h;exact congrArg (λu=>[u]) c;simp only[Ud]at h;subst h;exact congrArg (λu=>[u]) c;simp only[Ud]at h;subst h;exact⟨u,rfl,Te,0,c,by simp,.inl rfl⟩;exact Wq h c;obtain⟨s,_,_,c⟩:=c;exact Wq h c;split at h;rename_i t' xs i;rw[show u=_ from c];exact Wq h (k _ _ _ (qf i));cases h;rename_i t t' x;obtain⟨b,f,cs',e,h1,h2⟩:=c;exact⟨b,f,cs',by rw[e];rfl,h1,by unfold Ym at h;grind⟩;exact Wq h c;exact Wq h c;exact Wq h c;simp only[Ud]at h;subst h;exact⟨u,rfl,.inl ⟨rfl,c⟩⟩;rename_i t' m;simp only[Ud]at h;subst h;exact⟨u,rfl,.inr ⟨rfl,_,_,c⟩⟩;cases h
theorem Jm{γ:Gh}{cs:CS}(e:gj γ cs):∀{t:Ty} {l f:List AA} {y:El t},collect cs t l=Td (y,f)->∀{us:List Value},All2 (DenA γ) l us->∃c1 c2,us=c1++c2/\Rd γ.M t y c1/\All2 (DenA γ) f c2
 |.unit,l,f,y,h,us,hu=>by simp only[collect,Ud,Vg]at h;obtain⟨_,rfl⟩:=h;exact⟨[],us,rfl,rfl,hu⟩
 |.pair a b,l,f,y,h,us,hu=>by simp only[collect]at h;split at h;rename_i x J h1;split at h;rename_i z L h2;simp only[Ud,Vg]at h;obtain⟨rfl,rfl⟩:=h;obtain⟨c1,c2,rfl,m,o⟩:=Jm e h1 hu;obtain⟨c3,I,rfl,i,n⟩:=Jm e h2 o;exact⟨c1++c3,I,by simp,⟨c1,c3,rfl,m,i⟩,n⟩;cases h;cases h
 |.tree,l,f,y,h,us,hu=>by
  match l,us,hu,h with
  |k::s::ks::xs::l,u1::u2::u3::u4::us,hu,h=>simp only[collect]at h;split at h;rename_i C p w r h1 h2 F A;simp only[Ud,Vg]at h;obtain⟨rfl,rfl⟩:=h;obtain⟨B,d2,q,G,E⟩:=hu;have m:=wa e h1 B;have o:=wa e h2 d2;have i:=wa e F q;have n:=wa e A G;refine⟨[u1,u2,u3,u4],us,rfl,?_,E⟩;have H:[u1]=[UT .i64 C]:=m;have D:[u2]=[UJ p]:=o;cases H;cases D;exact TrRd.of i n;cases h
  |[],_,_,h=>simp[collect]at h
  |[_],_,_,h=>simp[collect]at h
  |[_,_],_,_,h=>simp[collect]at h
  |[_,_,_],_,_,h=>simp[collect]at h
  |_::_::_::_::_,[],hu,_=>exact hu.elim
  |_::_::_::_::_,[_],hu,_=>exact hu.2.elim
  |_::_::_::_::_,[_,_],hu,_=>exact hu.2.2.elim
  |_::_::_::_::_,[_,_,_],hu,_=>exact hu.2.2.2.elim
 |.int k,x::l,f,y,h,u::us,hu=>by simp only[collect]at h;split at h;rename_i z c;simp only[Ud,Vg]at h;obtain⟨rfl,rfl⟩:=h;exact⟨[u],us,rfl,wa e c hu.1,hu.2⟩;cases h
 |.bool,x::l,f,y,h,u::us,hu=>by simp only[collect]at h;split at h;rename_i z c;simp only[Ud,Vg]at h;obtain⟨rfl,rfl⟩:=h;exact⟨[u],us,rfl,wa e c hu.1,hu.2⟩;cases h
 |.str,x::l,f,y,h,u::us,hu=>by simp only[collect]at h;split at h;rename_i z c;simp only[Ud,Vg]at h;obtain⟨rfl,rfl⟩:=h;exact⟨[u],us,rfl,wa e c hu.1,hu.2⟩;cases h
 |.row _,x::l,f,y,h,u::us,hu=>by simp only[collect]at h;split at h;rename_i z c;simp only[Ud,Vg]at h;obtain⟨rfl,rfl⟩:=h;exact⟨[u],us,rfl,wa e c hu.1,hu.2⟩;cases h
 |.ptr _,x::l,f,y,h,u::us,hu=>by simp only[collect]at h;split at h;rename_i z c;simp only[Ud,Vg]at h;obtain⟨rfl,rfl⟩:=h;exact⟨[u],us,rfl,wa e c hu.1,hu.2⟩;cases h
 |.iter,x::l,f,y,h,u::us,hu=>by simp only[collect]at h;split at h;rename_i z c;simp only[Ud,Vg]at h;obtain⟨rfl,rfl⟩:=h;exact⟨[u],us,rfl,wa e c hu.1,hu.2⟩;cases h
 |.iter,_::_,_,_,_,[],hu=>hu.elim
 |.iter,[],_,_,h,_,_=>by simp[collect]at h
 |.err,x::l,f,y,h,u::us,hu=>by simp only[collect]at h;split at h;rename_i z c;simp only[Ud,Vg]at h;obtain⟨rfl,rfl⟩:=h;exact⟨[u],us,rfl,wa e c hu.1,hu.2⟩;cases h
 |.err,_::_,_,_,_,[],hu=>hu.elim
 |.err,[],_,_,h,_,_=>by simp[collect]at h
 |.int _,_::_,_,_,_,[],hu=>hu.elim
 |.bool,_::_,_,_,_,[],hu=>hu.elim
 |.str,_::_,_,_,_,[],hu=>hu.elim
 |.row _,_::_,_,_,_,[],hu=>hu.elim
 |.ptr _,_::_,_,_,_,[],hu=>hu.elim
 |.int _,[],_,_,h,_,_=>by simp[collect]at h
 |.bool,[],_,_,h,_,_=>by simp[collect]at h
 |.str,[],_,_,h,_,_=>by simp[collect]at h
 |.row _,[],_,_,h,_,_=>by simp[collect]at h
 |.ptr _,[],_,_,h,_,_=>by simp[collect]at h
end
section
section
variable {M M':Fr} {h h':zb} {b c o n0:Nat} {γ γ':Gh} {us:List Value} {u:Value} {t:Ty} {cs C R:CS} {e:TypeId}
def AgM(M:Fr)(h:zb):Prop:=∀b c,M b=Td c->∃T m,h[b]?=Td (.cells c T m)
theorem AgM.lt(H:AgM M h){c:Array Value}(e:M b=Td c):b<h.size:=by obtain⟨T,m,e'⟩:=H b c e;grind
theorem AgM.none{M:Fr}{h:zb}(H:AgM M h){b:Nat}(f:h.size<=b):M b=Te:=by
 cases e:M b with
 |none=>rfl
 |some c=>have:=H.lt e;omega
theorem AgM.cell(H:AgM M h){c:Array Value}{v:Value}(e:M b=Td c)(f:c[o]?=Td v):zc h ⟨b,o,Option.none⟩=Td v:=by obtain⟨T,m,e'⟩:=H b c e;unfold zc;simp[e',f]
def Gx(c:Option Nat)(γ γ':Gh):Prop:=Fr.le γ.M γ'.M/\∀i,c≠Td i->γ'.β i=γ.β i/\γ'.σ i=γ.σ i
theorem Gx.refl(c:Option Nat)(γ:Gh):Gx c γ γ:=⟨Fr.le.refl _,λ_ _=>⟨rfl,rfl⟩⟩
def ij(c:Nat):AA->Bool
 |.box j _=>Nat.beq j c
 |.own j=>Nat.beq j c
 |.oelt j _ _ _=>Nat.beq j c
 |_=>Tc
def ft(c:Nat):List AA->Bool
 |[]=>Tc
 |x::l=>bif ij c x then Ta else ft c l
def gb(c:Nat):Ch->Bool
 |.box l=>ft c l
 |_=>Tc
def nY(c:Nat):AG->Bool
 |.a x=>ij c x
 |.agg l=>ft c l
def od(c:Nat):List AG->Bool
 |[]=>Tc
 |x::l=>bif nY c x then Ta else od c l
def oP(c:Nat):AV->Bool
 |.g x=>nY c x
 |.tup l=>od c l
 |.nx _ _ _=>Tc
def ir{α:Type}(f:Nat->α->Bool):Option Nat->α->Bool
 |none,_=>Tc
 |some c,x=>f c x
theorem mf{j c:Nat}(h:Nat.beq j c=Tc):Td c≠Td j:=by intro e;simp_all
theorem DenA.gx{c:Option Nat}(g:Gx c γ γ'):∀{x:AA} {u:Value},ir ij c x=Tc->DenA γ x u->DenA γ' x u
 |.v _,_,_,h=>h
 |.d _ _,_,_,h=>Rd.mono g.1 h
 |.box j o,u,hm,h=>by
  have:c≠Td j:=by cases c with|none=>simp|some c=>exact mf hm
  rw[show u=_ from h];simp only[DenA,(g.2 j this).1]
 |.own j,u,hm,h=>by
  have:c≠Td j:=by cases c with|none=>simp|some c=>exact mf hm
  rw[show u=_ from h];simp only[DenA,(g.2 j this).2]
 |.oelt j z i o,u,hm,h=>by
  have:c≠Td j:=by cases c with|none=>simp|some c=>exact mf hm
  obtain⟨b,k,l⟩:=h;exact⟨b,by rw[(g.2 j this).2];exact k,l⟩
 |.elt _ _ _,_,_,⟨b,f,cs,e,h1,h2⟩=>⟨b,f,cs,e,g.1 _ _ h1,Rd.mono g.1 h2⟩
 |.dc _ _,_,_,⟨s,k,l,h⟩=>⟨s,k,l,Rd.mono g.1 h⟩
theorem LD{l:List AA}(h:ft c l=Tc):∀x∈l,ij c x=Tc:=by
 induction l with
 |nil=>simp
 |cons y l b=>intro x e;simp only[ft]at h;grind
theorem DenL.gx{c:Option Nat}(g:Gx c γ γ'){l:List AA}(b:ir ft c l=Tc)(h:All2 (DenA γ) l us):All2 (DenA γ') l us:= h.imp λx f u e=>DenA.gx g (by cases c with|none=>rfl|some c=>exact LD b x f) e
theorem DenG.gx{c:Option Nat}(g:Gx c γ γ'){x:AG}(b:ir nY c x=Tc)(h:DenG γ x u):DenG γ' x u:=by
 cases x with
 |a x=>exact DenA.gx g (by cases c <;> exact b) h
 |agg l=>obtain⟨us,e,h⟩:=h;exact⟨us,e,DenL.gx g (by cases c <;> exact b) h⟩
theorem Pv{l:List AG}(h:od c l=Tc):∀x∈l,nY c x=Tc:=by
 induction l with
 |nil=>simp
 |cons y l b=>intro x e;simp only[od]at h;grind
theorem DenV.gx{c:Option Nat}(g:Gx c γ γ'){x:AV}(f:ir oP c x=Tc)(h:DenV γ x u):DenV γ' x u:=by
 cases x with
 |g x=>exact DenG.gx g (by cases c <;> exact f) h
 |tup l=>obtain⟨us,e,h⟩:=h;exact⟨us,e,h.imp λx k u i=>DenG.gx g (by cases c with|none=>rfl|some c=>exact Pv f x k) i⟩
 |nx b p c=>exact h
def RowC(M:Fr)(t:Ty)(xs:List (El t))(cells:List Value):Prop:=
 cells.length=xs.length*sz t/\∀i (h:i<xs.length),Rd M t xs[i] ((cells.drop (i*sz t)).take (sz t))
theorem RowC.mono(b:Fr.le M M'){xs:List (El t)}{cells:List Value}(H:RowC M t xs cells):RowC M' t xs cells:=⟨H.1,λi h=>Rd.mono b (H.2 i h)⟩
theorem RowC.nil(M:Fr)(t:Ty):RowC M t [] []:=⟨by simp,λi h=>absurd h (by simp)⟩
theorem RowC.single{x:El t}{cs:List Value}(h:Rd M t x cs):RowC M t [x] cs:=by
 have b:=h.len;refine⟨by simp[b],λi hi=>?_⟩;have:i=0:=by simpa using hi
 subst this;grind
theorem RowC.append{xs ys:List (El t)}{c1 c2:List Value}(h1:RowC M t xs c1)(h2:RowC M t ys c2):RowC M t (xs++ys) (c1++c2):=by
 refine⟨by rw[Uf,Uf,h1.1,h2.1,VU],λi hi=>?_⟩;by_cases b:i<xs.length;rw[Vt b];have h:(i+1)*sz t<=c1.length:=by rw[h1.1];exact UC _ b
 rw[VU,YM]at h;rw[List.drop_append_of_le_length (by omega),WH (by grind)];exact h1.2 i b;have c:xs.length<=i:=by omega
 rw[VP c];have f:i-xs.length<ys.length:=by rw[Uf]at hi;omega
 have:=h2.2 (i-xs.length) f;have e:(c1++c2).drop (i*sz t)=c2.drop ((i-xs.length)*sz t):=by
  rw[List.drop_append];have:c1.length<=i*sz t:=by rw[h1.1];exact UC _ c
  rw[Vr this,UX,h1.1,<-Nat.sub_mul]
 grind
theorem RowC.one{xs:List (El t)}{cells:List Value}(H:RowC M t xs cells):∀v∈cells,v.oneCell'=Ta:=by
 intro v c;obtain⟨j,b,rfl⟩:=WK c;have e:0<sz t:=by rcases XI (sz t)with h|h;rw[H.1,h,Nat.mul_zero]at b;omega;exact h
 have hi:j / sz t<xs.length:=by rw[H.1]at b;exact Nat.div_lt_of_lt_mul (by grind)
 refine Rd.one (H.2 _ hi) _ ?_;rw[List.mem_iff_getElem?];refine⟨j % sz t,?_⟩;rw[UU,zA (Nat.mod_lt _ e),Va,XJ,Nat.div_add_mod,Ul b]
theorem RowC.rd{xs:List (El t)}{cells:List Value}(H:RowC M t xs cells){cs:Array Value}(h:M b=Td cs)(k:(cs.toList.drop o).take (xs.length*sz t)=cells)(l:xs.length<=140737488355328/\xs.length<=c):
  Rd M (.row t) xs [.slice (Td ⟨b,o,Te⟩) xs.length c]:=by
 refine⟨_,rfl,_,_,rfl,l,.inr ⟨b,o,cs,rfl,h,λi hi=>?_⟩⟩;have:=H.2 i hi;rw[<-k]at this;have f:(i+1)*sz t<=xs.length*sz t:=UC _ hi;rw[VU,YM]at f;have e:(((cs.toList.drop o).take (xs.length*sz t)).drop (i*sz t)).take (sz t)=cut cs (o+i*sz t) (sz t):=by unfold cut;rw[List.drop_take,List.take_take,Vl,V9 (by omega)]
 simp_all
theorem Rd.rowC(ag:AgM M h){xs:List (El t)}(H:Rd M (.row t) xs [u]):∃s:Sl,u=aK s/\s.len=xs.length/\(xs.length<=140737488355328/\xs.length<=s.cap)/\∃cells,RowC M t xs cells/\fD h.size h s.a cells:=by
 obtain⟨v,e,a,c,rfl,n,H⟩:=H;cases e;refine⟨⟨a,xs.length,c⟩,rfl,rfl,n,?_⟩;rcases H with rfl|⟨b,o,cs,rfl,m,hi⟩;exact⟨[],RowC.nil _ _,.inl rfl⟩;have f:xs=[]\/xs.length*sz t<=(cs.toList.drop o).length:=by
  rcases XI xs.length with h0|h0;simp_all;right;have:=(hi (xs.length-1) (by omega)).len;unfold cut at this;rw[UQ,UD]at this;rw[UD];rcases XI (sz t)with p|p;grind;have e:xs.length*sz t=(xs.length-1)*sz t+sz t:=by rw[<-WO];congr 1;omega
  rw[e];omega
 rcases f with rfl|f;exact⟨[],RowC.nil _ _,.inl rfl⟩;refine⟨(cs.toList.drop o).take (xs.length*sz t),⟨by simp_all,λi k=>?_⟩,.inr ⟨b,o,rfl,ag.lt m,λi v q=>?_⟩⟩;have:=hi i k;have l:(i+1)*sz t<=xs.length*sz t:=UC _ k;rw[VU,YM]at l;unfold cut at this;rw[List.drop_take,List.take_take,Vl,V9 (by omega)];exact this;refine ag.cell m ?_;grind
def vU(o:Option Obj)(us:List Value):Prop:=((∃T,o=Td (.cells us.toArray T (0,0)))/\∀s p,us≠[Zu s p])\/(∃s p,us=[Zu s p]/\o=Td (.stringIter s p))
def DenC(n0:Nat)(γ:Gh)(h:zb)(c:Nat):Ch->Prop
 |.box l=>∃us,vU h[γ.β c]? us/\All2 (DenA γ) l us
 |.row e t xs=>∃cells,Owns h n0 e (sz t) (γ.σ c) cells/\RowC γ.M t xs cells/\xs.length<=140737488355328/\(γ.σ c).len=xs.length
 |.fz t xs=>Rd γ.M (.row t) xs [aK (γ.σ c)]
def blk(γ:Gh)(c:Nat):Ch->Option Nat
 |.box _=>Td (γ.β c)
 |.row _ _ _=>(γ.σ c).a.map (·.block)
 |.fz _ _=>Te
structure Inv (h0:zb) (W:Nat->Prop) (M0:Fr) (cs:CS) (γ:Gh) (h:zb):Prop where
 ag:AgM γ.M h
 frame:∀i,i<h0.size->¬W i->h[i]?=h0[i]?
 size:h0.size<=h.size
 old:∀b,b<h0.size->γ.M b=M0 b
 le:Fr.le M0 γ.M
 den:∀x∈cs,DenC h0.size γ h x.1 x.2
 sep:∀x∈cs,∀b,blk γ x.1 x.2=Td b->(h0.size<=b\/W b)/\γ.M b=Te
 apart:cs.Pairwise λx y=>∀b,blk γ x.1 x.2=Td b->blk γ y.1 y.2≠Td b
variable {h0 : zb} {W : Nat -> Prop} {M0 : Fr}
theorem DenC.lt{k:Ch}(H:DenC n0 γ h c k):∀b,blk γ c k=Td b->b<h.size:=by
 intro b f;cases k with
 |box l=>obtain⟨us,e,_⟩:=H;simp only[blk,Ud]at f;subst f;rcases e with⟨⟨T,e⟩,_⟩|⟨s,p,_,e⟩;grind;grind
 |row e t xs=>obtain⟨cells,h1,_⟩:=H;simp only[blk,VN]at f;obtain⟨p,i,rfl⟩:=f;exact(h1.base_le p i).2
 |fz t xs=>cases f
theorem DenC.gx{c:Option Nat}(g:Gx c γ γ'){j:Nat}{k:Ch}(r:c≠Td j)(o:ir gb c k=Tc)(H:DenC n0 γ h j k)(f:∀b,blk γ j k=Td b->h'[b]?=h[b]?):DenC n0 γ' h' j k:=by
 obtain⟨q,i⟩:=g.2 j r;cases k with
 |box l=>obtain⟨us,e,h1⟩:=H;exact⟨us,by rw[q,f _ rfl];exact e,DenL.gx g (by cases c <;> exact o) h1⟩
 |row e t xs=>obtain⟨cells,h1,h2,n,s⟩:=H;refine⟨cells,?_,h2.mono g.1,n,by grind⟩;rw[i];exact h1.keep λp m=>f _ (by simp[blk,m])
 |fz t xs=>simp only[DenC,i];exact Rd.mono g.1 H
theorem ke{c:Option Nat}(g:Gx c γ γ'){j:Nat}(k:Ch)(e:c≠Td j):blk γ' j k=blk γ j k:=by obtain⟨b,f⟩:=g.2 j e;cases k <;> simp[blk,b,f]
theorem Inv.rest{cs rest:CS}{γ γ':Gh}{h h':zb}(I:Inv h0 W M0 cs γ h)(hsub:rest.Sublist cs){c:Option Nat}(g:Gx c γ γ') (hmen:∀x∈rest,c≠Td x.1/\ir gb c x.2=Tc) (hk:∀x∈rest,∀b,blk γ x.1 x.2=Td b->h'[b]?=h[b]?/\γ'.M b=Te)
  (ag:AgM γ'.M h') (hframe:∀i,i<h0.size->¬W i->h'[i]?=h[i]?) (hsize:h.size<=h'.size) (hold:∀b,b<h0.size->γ'.M b=γ.M b):Inv h0 W M0 rest γ' h' where
 ag:=ag
 frame:=λi hi hw=>(hframe i hi hw).trans (I.frame i hi hw)
 size:=VB I.size hsize
 old:=λb hb=>(hold b hb).trans (I.old b hb)
 le:=I.le.trans g.1
 den:=λx hx=>(I.den x (hsub.subset hx)).gx g (hmen x hx).1 (hmen x hx).2 λb hb=>(hk x hx b hb).1
 sep:=λx hx b hb=>by rw[ke g _ (hmen x hx).1]at hb;exact⟨(I.sep x (hsub.subset hx) b hb).1,(hk x hx b hb).2⟩
 apart:=by refine(I.apart.sublist hsub).imp_of_mem λ {x y} hx hy h=>?_;intro b hb;rw[ke g _ (hmen x hx).1]at hb;rw[ke g _ (hmen y hy).1];exact h b hb
theorem Inv.cons{rest:CS}(I:Inv h0 W M0 rest γ h){k:Ch}(hd:DenC h0.size γ h c k)(hs:∀b,blk γ c k=Td b->(h0.size<=b\/W b)/\γ.M b=Te)
  (ha:∀b,blk γ c k=Td b->∀x∈rest,blk γ x.1 x.2≠Td b):Inv h0 W M0 ((c,k)::rest) γ h where
 ag:=I.ag
 frame:=I.frame
 size:=I.size
 old:=I.old
 le:=I.le
 den:=λx hx=>by rcases Uj.1 hx with rfl|hx;exact hd;exact I.den x hx
 sep:=λx hx=>by rcases Uj.1 hx with rfl|hx;exact hs;exact I.sep x hx
 apart:=Vn.2 ⟨λy hy b hb=>ha b hb y hy,I.apart⟩
theorem Inv.sub{cs rest:CS}(I:Inv h0 W M0 cs γ h)(hsub:rest.Sublist cs):Inv h0 W M0 rest γ h where
 ag:=I.ag
 frame:=I.frame
 size:=I.size
 old:=I.old
 le:=I.le
 den:=λx hx=>I.den x (hsub.subset hx)
 sep:=λx hx=>I.sep x (hsub.subset hx)
 apart:=I.apart.sublist hsub
theorem Inv.fz(I:Inv h0 W M0 cs γ h):gj γ cs:=λc t xs b=>I.den _ b
theorem Inv.call(I:Inv h0 W M0 cs γ h)(k:Keep h.size h h')(n:Fr.le γ.M M')(e:∀b,b<h.size->M' b=γ.M b)(ag:AgM M' h'):Inv h0 W M0 cs { γ with M:=M' } h':= I.rest (List.Sublist.refl _) (c:=Te) ⟨n,λ_ _=>⟨rfl,rfl⟩⟩ (λx _=>⟨by simp,rfl⟩) (λx m b l=>by have f:=(I.den x m).lt b l;exact⟨k.get b f,(e b f).trans (I.sep x m b l).2⟩) ag (λi hi _=>k.get i (WR hi I.size)) k.size (λb l=>e b (WR l I.size))
def jb(c:Nat):CS->CS
 |[]=>[]
 |(j,k)::l=>bif (bif Nat.beq j c then Ta else gb c k)then jb c l else(j,k)::jb c l
def Qb(c:Nat):CS->Bool
 |[]=>Ta
 |(j,k)::l=>bif (bif Nat.beq j c then Ta else gb c k)then Tc else Qb c l
def dJ(c:Nat):CS->CS
 |[]=>[]
 |(j,k)::l=>bif Nat.beq j c then dJ c l else(j,k)::dJ c l
theorem wu(c:Nat):∀l:CS,(jb c l).Sublist l
 |[]=>.slnil
 |(j,k)::l=>by
  simp only[jb];cases(bif Nat.beq j c then Ta else gb c k)with
  |true=>exact(wu c l).cons _
  |false=>exact(wu c l).cons_cons _
theorem Zb(c:Nat):∀l:CS,(dJ c l).Sublist l
 |[]=>.slnil
 |(j,k)::l=>by
  simp only[dJ];cases Nat.beq j c with
  |true=>exact(Zb c l).cons _
  |false=>exact(Zb c l).cons_cons _
theorem ul{c:Nat}:∀{l:CS} {x:Nat×Ch},x∈jb c l->Td c≠Td x.1/\gb c x.2=Tc
 |(j,k)::l,x,h=>by
  simp only[jb]at h;cases hb:(bif Nat.beq j c then Ta else gb c k)with
  |true=>rw[hb]at h;exact ul h
  |false=>
   rw[hb]at h;rcases Uj.1 h with rfl|h;cases hj:Nat.beq j c with
   |true=>simp[hj]at hb
   |false=>simp only[hj,zH]at hb;exact⟨mf hj,hb⟩
   exact ul h
theorem tO{c:Nat}:∀{l:CS},Qb c l=Ta->∀x∈l,Td c≠Td x.1/\gb c x.2=Tc
 |[],_,x,h=>by cases h
 |(j,k)::l,hn,x,h=>by
  simp only[Qb]at hn;cases hb:(bif Nat.beq j c then Ta else gb c k)with
  |true=>simp_all
  |false=>
   rw[hb]at hn;rcases Uj.1 h with rfl|h;cases hj:Nat.beq j c with
   |true=>simp[hj]at hb
   |false=>simp only[hj,zH]at hb;exact⟨mf hj,hb⟩
   exact tO hn x h
theorem Yx{c:Nat}:∀{l:CS} {x:Nat×Ch},x∈dJ c l->x∈l/\x.1≠c
 |(j,k)::l,x,h=>by
  simp only[dJ]at h;cases hb:Nat.beq j c with
  |true=>rw[hb]at h;exact⟨Uo _ (Yx h).1,(Yx h).2⟩
  |false=>rw[hb]at h;rcases Uj.1 h with rfl|h;refine⟨Uu,λe=>?_⟩;simp_all;exact⟨Uo _ (Yx h).1,(Yx h).2⟩
def ga(γ:Gh)(c b:Nat):Gh:={ γ with β:=λi=>bif Nat.beq i c then b else γ.β i }
def eL(γ:Gh)(c:Nat)(s:Sl):Gh:={ γ with σ:=λi=>bif Nat.beq i c then s else γ.σ i }
theorem jQ(γ:Gh)(c b:Nat):Gx (Td c) γ (ga γ c b):=⟨Fr.le.refl _,λi hi=>by
 have:Nat.beq i c=Tc:=by
  cases h:Nat.beq i c with
  |false=>rfl
  |true=>simp_all
 simp[ga,this]⟩
theorem Qc(γ:Gh)(c:Nat)(s:Sl):Gx (Td c) γ (eL γ c s):=⟨Fr.le.refl _,λi hi=>by
 have:Nat.beq i c=Tc:=by
  cases h:Nat.beq i c with
  |false=>rfl
  |true=>simp_all
 simp[eL,this]⟩
theorem Jn(γ:Gh)(c b:Nat):(ga γ c b).β c=b:=by simp[ga]
theorem yc(γ:Gh)(c:Nat)(s:Sl):(eL γ c s).σ c=s:=by simp[eL]
theorem iF(e:Qb c R=Ta):∀x∈jb c C++R,Td c≠Td x.1/\ir gb (Td c) x.2=Tc:=by intro x b;rcases Uv.1 b with b|b;exact ul b;exact tO e x b
theorem Inv.newBoxO(I:Inv h0 W M0 (C++R) γ h)(q:Qb c R=Ta){l:List AA}(r:All2 (DenA γ) l us)(t:ft c l=Tc){p:Obj}(o:vU (Td p) us):
  Inv h0 W M0 ((c,.box l)::jb c C++R) (ga γ c h.size) (h.push p):=by
 have n:∀x∈jb c C++R,∀b,blk γ x.1 x.2=Td b->b<h.size:=λx k b f=>(I.den x (((wu c C).append_right R).subset k)).lt b f;have s:Inv h0 W M0 (jb c C++R) (ga γ c h.size) (h.push p):=by refine I.rest ((wu c C).append_right R) (jQ γ c h.size) (iF q) (λx k b f=>?_) (λb u e=>?_) (λi hi _=>?_) (by simp) (λb f=>rfl);have:=n x k b f;exact⟨by grind,(I.sep x (((wu c C).append_right R).subset k) b f).2⟩;have:=I.ag.lt e;obtain⟨w,m,e'⟩:=I.ag b u e;grind;have:=I.size;grind
 refine s.cons ⟨us,by rw[Jn,yx];exact o,DenL.gx (jQ γ c h.size) t r⟩ (λb f=>?_) (λb f x k e=>?_);simp only[blk,Jn,Ud]at f;subst f;exact⟨.inl I.size,I.ag.none (Uc _)⟩;simp only[blk,Jn,Ud]at f;subst f;rw[ke (jQ γ c h.size) _ (iF q x k).1]at e;grind
theorem Inv.newBox(I:Inv h0 W M0 (C++R) γ h)(i:Qb c R=Ta){l:List AA}(e:All2 (DenA γ) l us)(f:ft c l=Tc)(b:fc l=Tc)(T:TypeId):
  Inv h0 W M0 ((c,.box l)::jb c C++R) (ga γ c h.size) (h.push (.cells us.toArray T)):=
 Inv.newBoxO I i e f (.inl ⟨⟨T,rfl⟩,λs p=>pB b e s p⟩)
theorem mo{α:Type}{R:α->α->Prop}(b:∀x y,R x y->R y x):∀{l:List α},l.Pairwise R->∀{x y:α},x∈l->y∈l->x≠y->R x y
 |[],_,_,_,hx,_,_=>by cases hx
 |z::l,h,x,y,hx,hy,hne=>by rw[Vn]at h;rcases Uj.1 hx with c|h1;grind;rcases Uj.1 hy with e|h2;simp_all;exact mo b h.2 h1 h2 hne
theorem Inv.setBox(I:Inv h0 W M0 (C++R) γ h){l s:List AA}(t:(c,Ch.box l)∈C)(e:vU h'[γ.β c]? us)
  (A:∀i,i≠γ.β c->h'[i]?=h[i]?) (F:h'.size=h.size) (w:All2 (DenA γ) s us) (H:∀x∈R,x.1≠c):Inv h0 W M0 ((c,.box s)::dJ c C++R) γ h':=by
 have r:=I.sep _ (Un R t) _ rfl;have q:∀x∈dJ c C++R,blk γ x.1 x.2≠Td (γ.β c):=by
  intro x k;have o:x≠(c,Ch.box l):=by rintro rfl;rcases Uv.1 k with k|k;exact(Yx k).2 rfl;grind
  have n:x∈C++R:=((Zb c C).append_right R).subset k;have u:=@mo _ (λ(x y:Nat×Ch)=>∀b,blk γ x.1 x.2=Td b->blk γ y.1 y.2≠Td b) (λx y h b f p=>h b p f) _ I.apart;intro f;exact u (Un R t) n (λe=>o e.symm) _ rfl f
 have z:Inv h0 W M0 (dJ c C++R) γ h':=by refine I.rest ((Zb c C).append_right R) (c:=Te) (Gx.refl _ _) (λx _=>⟨by simp,rfl⟩) (λx k b f=>?_) (λb B D=>?_) (λi hi E=>?_) (by omega) (λb f=>rfl);exact⟨A b λe'=>q x k (e' ▸ f),(I.sep x (((Zb c C).append_right R).subset k) b f).2⟩;obtain⟨G,m,e'⟩:=I.ag b B D;grind;grind
 refine z.cons ⟨us,e,w⟩ (λb f=>?_) (λb f x k=>?_);simp only[blk,Ud]at f;grind;simp only[blk,Ud]at f;simp_all
theorem Inv.newRow(I:Inv h0 W M0 (C++R) γ h)(D:Qb c R=Ta)(G:h.size<=h'.size){p:Option Nat}(z:∀i,i<h.size->p≠Td i->h'[i]?=h[i]?) (u:∀b,p=Td b->h0.size<=b/\γ.M b=Te/\∀x∈C++R,blk γ x.1 x.2≠Td b) {s:Sl} {xs:List (El t)} {cells:List Value} (o:Owns h' h0.size e (sz t) s cells) (l:∀q,s.a=Td q->p=Td q.block\/q.block=h.size) (r:RowC γ.M t xs cells) (H:xs.length<=140737488355328) (F:s.len=xs.length):
  Inv h0 W M0 ((c,.row e t xs)::jb c C++R) (eL γ c s) h':=by
 have f:=(wu c C).append_right R;have w:∀x∈jb c C++R,∀b,blk γ x.1 x.2=Td b->b<h.size:=λx n b l=>(I.den x (f.subset n)).lt b l;have E:Inv h0 W M0 (jb c C++R) (eL γ c s) h':=by refine I.rest f (Qc γ c s) (iF D) (λx n b l=>?_) (λb A y=>?_) (λi hi N=>?_) G (λb l=>rfl);exact⟨z b (w x n b l) λe'=>(u b e').2.2 x (f.subset n) l,(I.sep x (f.subset n) b l).2⟩;obtain⟨J,m,e'⟩:=I.ag b A y;exact⟨J,m,by rw[z b (I.ag.lt y) λL=>by have:=(u b L).2.1;rw[show γ.M b=Td A from y]at this;cases this];exact e'⟩;have:=I.size;grind
 refine E.cons ⟨cells,by rw[yc];exact o,r,H,by rw[yc];exact F⟩ (λb k=>?_) (λb k x n e'=>?_);simp only[blk,yc,VN]at k;obtain⟨q,B,rfl⟩:=k;rcases l q B with h1|h1;exact⟨.inl (u _ h1).1,(u _ h1).2.1⟩;rw[h1];exact⟨.inl I.size,I.ag.none (Uc _)⟩;simp only[blk,yc,VN]at k;obtain⟨q,B,rfl⟩:=k;rw[ke (Qc γ c s) _ (iF D x n).1]at e';grind
def iR(c:Nat):CS->CS
 |[]=>[]
 |(j,k)::l=>bif Nat.beq j c then(match k with
  |.row _ t xs=>(j,.fz t xs)::iR c l
  |k=>(j,k)::iR c l)else(j,k)::iR c l
def en(γ:Gh)(b:Nat)(cs:Array Value):Gh:={ γ with M:=λi=>bif Nat.beq i b then Td cs else γ.M i }
theorem Inv.freeze1{A C:CS}{xs:List (El t)}(I:Inv h0 W M0 (A++(c,.row e t xs)::C) γ h):∃γ',Inv h0 W M0 (A++(c,.fz t xs)::C) γ' h/\Gx Te γ γ':=by
 obtain⟨cells,w,p,Z,S⟩:=I.den (c,.row e t xs) (by simp);have N:=p.1;rcases w.2 with⟨n,h1⟩|⟨g,cap,k,n,l,O,U,L,Y,G⟩;refine⟨γ,?_,Gx.refl _ _⟩;have H:xs=[]:=UK (by omega);have V:DenC h0.size γ h c (.fz t xs):=by subst H;simp only[UW]at n;exact⟨_,rfl,Te,0,by simp[aK,n],⟨by simp,by simp⟩,.inl rfl⟩
 have m:∀x,x∈A++(c,Ch.fz t xs)::C->x∈A++(c,Ch.row e t xs)::C\/x=(c,Ch.fz t xs):=by intro x f;simp only[Uv,Uj]at f ⊢;rcases f with h|h|h;grind;exact .inr h;simp_all
 refine⟨I.ag,I.frame,I.size,I.old,I.le,λx f=>?_,λx f b i=>?_,?_⟩;grind [den];rcases m x f with h|rfl;exact I.sep x h b i;cases i;have:=I.apart;simp only[XA,Vn]at this ⊢;obtain⟨D,⟨a2,B⟩,F⟩:=this;refine⟨D,⟨λy s b i=>(by simp[blk]at i),B⟩,λx f y s b i=>?_⟩;rcases Uj.1 s with rfl|s;simp[blk];grind;simp only[UW]at n;have Q:γ.M g=Te:=(I.sep (c,.row e t xs) (by simp) g (by simp[blk,n.1])).2;have z:Fr.le γ.M (en γ g k).M:=by
  intro b J u;have:Nat.beq b g=Tc:=by
   cases i:Nat.beq b g with
   |false=>rfl
   |true=>simp_all
  simp[en,this,u]
 have gx:Gx Te γ (en γ g k):=⟨z,λ_ _=>⟨rfl,rfl⟩⟩;have P:g<h.size:=(Ut.1 O).1;have E:∀x,x∈A++C->blk γ x.1 x.2≠Td g:=by intro x f;have:=I.apart;simp only[XA,Vn]at this;obtain⟨D,⟨a2,B⟩,F⟩:=this;rcases Uv.1 f with f|f;intro i;exact F x f (c,.row e t xs) Uu g i (by simp[blk,n.1]);exact a2 x f g (by simp[blk,n.1])
 have q:∀b,b≠g->(en γ g k).M b=γ.M b:=by
  intro b i;have:Nat.beq b g=Tc:=by
   cases h:Nat.beq b g with
   |false=>rfl
   |true=>simp_all
  simp[en,this]
 have r:Inv h0 W M0 (A++C) (en γ g k) h:=by
  refine I.rest (by simp) gx (λx _=>⟨by simp,rfl⟩) (λx f b i=>?_) (λb J u=>?_) (λ_ _ _=>rfl) (Uc _) (λb i=>q b (by omega));have l:b≠g:=λe'=>E x f (e' ▸ i);refine⟨rfl,(q b l).trans (I.sep x ?_ b i).2⟩;grind;by_cases l:b=g;subst l;have:J=k:=by simp[en]at u;exact u.symm
  subst this;exact⟨_,_,O⟩;rw[q b l]at u;exact I.ag b J u
 refine⟨en γ g k,?_,gx⟩;have V:DenC h0.size (en γ g k) h c (.fz t xs):=by
  have:=(p.mono z).rd (b:=g) (o:=0) (c:=cap) (cs:=k) (by simp[en]) (by simp_all) ⟨Z,by omega⟩;show Rd _ _ _ [aK (γ.σ c)];have e3:aK (γ.σ c)=.slice (Td ⟨g,0,Te⟩) xs.length cap:=by unfold aK;rw[n.1,S,n.2.2]
  rw[e3];exact this
 have m:∀x,x∈A++(c,Ch.fz t xs)::C->x∈A++C\/x=(c,Ch.fz t xs):=by intro x f;simp only[Uv,Uj]at f ⊢;rcases f with h|h|h;grind;exact .inr h;grind
 refine⟨r.ag,r.frame,r.size,r.old,r.le,λx f=>?_,λx f b i=>?_,?_⟩;grind [den];rcases m x f with h|rfl;exact r.sep x h b i;cases i;have:=r.apart;simp only[XA,Vn]at this ⊢;obtain⟨D,B,F⟩:=this;refine⟨D,⟨λy s b i=>(by simp[blk]at i),B⟩,λx f y s b i=>?_⟩;rcases Uj.1 s with rfl|s;simp[blk];grind
theorem Inv.freeze{R:CS}{h:zb}(c:Nat):∀(C A:CS) {γ:Gh},Inv h0 W M0 (A++C++R) γ h->∃γ',Inv h0 W M0 (A++iR c C++R) γ' h/\Gx Te γ γ'
 |[],A,γ,I=>⟨γ,I,Gx.refl _ _⟩
 |(j,k)::l,A,γ,I=>by
  have go:∀(k:Ch) {γ:Gh},Inv h0 W M0 (A++(j,k)::l++R) γ h->∃γ',Inv h0 W M0 (A++(j,k)::iR c l++R) γ' h/\Gx Te γ γ':=by intro k γ I;have:=Inv.freeze c l (A++[(j,k)]) (R:=R) (γ:=γ) (by simpa using I);simpa using this
  simp only[iR];cases Nat.beq j c with
  |true=>
   cases k with
   |row e t xs=>obtain⟨o,p,b⟩:=Inv.freeze1 (A:=A) (C:=l++R) (γ:=γ) (by simpa using I);obtain⟨m,n,f⟩:=go (.fz t xs) (γ:=o) (by simpa using p);exact⟨m,n,b.1.trans f.1,λi hi=>⟨(f.2 i hi).1.trans (b.2 i hi).1,(f.2 i hi).2.trans (b.2 i hi).2⟩⟩
   |box q=>exact go _ I
   |fz t xs=>exact go _ I
  |false=>exact go _ I
end
section
variable {i n:Nat} {c:qp} {v:AV} {γ γ':Gh} {a:Act} {u:Value} {o:Oper} {g:Option Bool} {σ:Operand -> Value}
abbrev js:=List (Nat×qp×AV)
def gH:js->Nat->Option (qp×AV)
 |[],_=>Te
 |(j,c,v)::e,i=>bif Nat.beq i j then Td (c,v)else gH e i
def hG(γ:Gh)(σ:Nat->Value)(x:Nat×qp×AV):Prop:=(valid σ x.2.1->DenV γ x.2.2 (σ x.1))/\(¬valid σ x.2.1->σ x.1=undef)
structure SatA (n:Nat) (e:js) (γ:Gh) (a:Act):Prop where
 defers:a.defers=[]
 size:a.tmps.size=n
 all:∀x∈e,hG γ (qg a) x
def lP:js->Nat->js
 |[],_=>[]
 |(j,c,v)::e,i=>bif (bif Nat.beq i j then Ta else mentions c i)then lP e i else(j,c,v)::lP e i
def AO(e:js)(i:Nat)(c:qp)(v:AV):js:=(i,c,v)::lP e i
def nT(e:js):Option Nat->qp->AV->js
 |none,_,_=>e
 |some d,c,v=>AO e d c v
def ik:js->js
 |[]=>[]
 |(j,[],v)::e=>(j,[],v)::ik e
 |(_,_::_,_)::e=>ik e
def mb(c:Nat):js->js
 |[]=>[]
 |(j,ch,v)::e=>bif oP c v then mb c e else(j,ch,v)::mb c e
def pf:Option Nat->js->js
 |none,e=>e
 |some c,e=>mb c e
theorem Z6{e:js}(h:gH e i=Td (c,v)):(i,c,v)∈e:=by
 induction e with
 |nil=>cases h
 |cons x e f=>obtain⟨j,b,l⟩:=x;simp only[gH]at h;by_cases k:Nat.beq i j=Ta;simp_all;simp_all
theorem S9{e:js}{x:Nat×qp×AV}(h:x∈lP e i):x∈e/\x.1≠i/\mentions x.2.1 i=Tc:=by
 induction e with
 |nil=>cases h
 |cons y e o=>
  obtain⟨j,f,n⟩:=y;simp only[lP]at h;by_cases k:Nat.beq i j=Ta;simp_all;have c:Nat.beq i j=Tc:=Bool.eq_false_iff.2 k;simp only[c,zH]at h;by_cases l:mentions f i=Ta;simp_all;have b:mentions f i=Tc:=by simpa using l
  simp only[b,zH]at h;rcases Uj.1 h with rfl|h;refine⟨Uu,λm=>?_,b⟩;simp_all;simp_all
theorem O4{e:js}{x:Nat×qp×AV}(h:x∈ik e):x∈e/\x.2.1=[]:=by
 induction e with
 |nil=>cases h
 |cons y e i=>
  obtain⟨j,b,f⟩:=y;cases b with
  |nil=>simp only[ik]at h;grind
  |cons c cs=>simp only[ik]at h;simp_all
theorem RF{c:Option Nat}{e:js}{x:Nat×qp×AV}(h:x∈pf c e):x∈e/\ir oP c x.2.2=Tc:=by
 cases c with
 |none=>exact⟨h,rfl⟩
 |some c=>
  have key:∀e:js,x∈mb c e->x∈e/\oP c x.2.2=Tc:=by
   intro e;induction e with
   |nil=>intro h;cases h
   |cons y e b=>obtain⟨j,f,i⟩:=y;intro h;simp only[mb]at h;grind
  exact key e h
theorem SatA.sub{e e':js}(h:SatA n e γ a)(b:∀x∈e',x∈e):SatA n e' γ a:=⟨h.defers,h.size,λx c=>h.all x (b x c)⟩
theorem SatA.clean{e:js}(h:SatA n e γ a):SatA n (ik e) γ a:=h.sub λ_ b=>(O4 b).1
theorem SatA.gx{e:js}{c:Option Nat}(h:SatA n e γ a)(g:Gx c γ γ'):SatA n (pf c e) γ' a:= ⟨h.defers,h.size,λx f=>by obtain⟨h1,h2⟩:=RF f;exact⟨λb=>((h.all x h1).1 b).gx g h2,(h.all x h1).2⟩⟩
theorem SatA.gx0{e:js}(h:SatA n e γ a)(g:Gx Te γ γ'):SatA n e γ' a:=h.gx g
theorem SatA.put{e:js}(h:SatA n e γ a)(hi:i<n)(s:mentions c i=Tc)
  (t:valid (qg a) c->DenV γ v u) (r:¬valid (qg a) c->u=undef):SatA n (AO e i c v) γ (a.put (Td i) u):=by
 refine⟨by rw[Zq];exact h.defers,by rw[size_put];exact h.size,λx m=>?_⟩;have k:i<a.tmps.size:=by rw[h.size];exact hi
 rcases Uj.1 m with rfl|m;have l:=We (σ:=qg (a.put (Td i) u)) (τ:=qg a) s (λj o=>y0 o);refine⟨λf=>?_,λf=>?_⟩;simp only;rw[Z1 k];grind;exact(Z1 k).trans (r (λb=>f (l.2 b)));obtain⟨h1,h2,q⟩:=S9 m;have l:=We (σ:=qg (a.put (Td i) u)) (τ:=qg a) q (λj o=>y0 o);have p:=h.all x h1;refine⟨λf=>?_,λf=>?_⟩;rw[y0 h2];exact p.1 (l.1 f);exact(y0 h2).trans (p.2 (λb=>f (l.2 b)))
theorem SatA.putO{e:js}(h:SatA n e γ a){d:Option Nat}(f:xg n c d=Ta)
  (l:valid (qg a) c->DenV γ v u) (m:¬valid (qg a) c->u=undef):SatA n (nT e d c v) γ (a.put d u):=by
 cases d with
 |none=>exact h
 |some i=>
  simp only[xg]at f;by_cases k:mentions c i=Ta;grind;have b:mentions c i=Tc:=by simpa using k
  simp only[b,zH]at f;exact h.put (by simp_all) b l m
def tI:Value->AG
 |.agg cs=>.agg (cs.toList.map .v)
 |v=>.a (.v v)
def jZ:Value->AV
 |.tuple vs=>.tup (vs.toList.map tI)
 |v=>.g (tI v)
theorem Bh(γ:Gh)(v:Value):DenG γ (tI v) v:=by
 cases v with
 |agg cs=>
  refine⟨cs.toList,by simp,?_⟩;generalize cs.toList=l;induction l with
  |nil=>trivial
  |cons x l b=>exact⟨rfl,b⟩
 |_=>exact rfl
theorem mU(γ:Gh)(v:Value):DenV γ (jZ v) v:=by
 cases v with
 |tuple vs=>
  refine⟨vs.toList,by simp,?_⟩;generalize vs.toList=l;induction l with
  |nil=>trivial
  |cons x l b=>exact⟨Bh γ x,b⟩
 |agg cs=>exact Bh γ (.agg cs)
 |_=>exact rfl
def fO:List AA->Option (List Value)
 |[]=>Td []
 |.v x::l=>match fO l with
  |some vs=>Td (x::vs)
  |none=>Te
 |_::_=>Te
def kK:AV->Option Value
 |.g (.a (.v x))=>Td x
 |.g (.agg l)=>match fO l with
  |some vs=>Td (.agg vs.toArray)
  |none=>Te
 |_=>Te
theorem ET{γ:Gh}:∀{l:List AA} {vs us:List Value},fO l=Td vs->All2 (DenA γ) l us->us=vs
 |[],vs,[],h,_=>by simp only[fO,Ud]at h;exact h
 |[],_,_::_,_,h=>h.elim
 |.v x::l,vs,u::us,h,hd=>by simp only[fO]at h;split at h;rename_i c b;simp only[Ud]at h;subst h;rw[show u=x from hd.1,ET b hd.2];cases h
 |.v _::_,_,[],_,h=>h.elim
 |.d _ _::_,_,_,h,_=>by simp[fO]at h
 |.box _ _::_,_,_,h,_=>by simp[fO]at h
 |.own _::_,_,_,h,_=>by simp[fO]at h
 |.oelt _ _ _ _::_,_,_,h,_=>by simp[fO]at h
 |.elt _ _ _::_,_,_,h,_=>by simp[fO]at h
 |.dc _ _::_,_,_,h,_=>by simp[fO]at h
theorem uu{x:AV}{v u:Value}(h:kK x=Td v)(b:DenV γ x u):u=v:=by unfold kK at h;split at h;simp only[Ud]at h;subst h;exact b;rename_i l;split at h;rename_i vs c;simp only[Ud]at h;subst h;obtain⟨us,rfl,h2⟩:=b;rw[ET c h2];cases h;cases h
def eH(e:js)(c:qp):Operand->Option AV
 |.tmp t=>match gH e t with
  |some (cs,v)=>bif fQ cs c then Td v else Te
  |none=>Te
 |.const v=>Td (jZ v)
 |.global g=>Td (.g (.a (.v (.pointer (Td ⟨g,0,Te⟩)))))
 |.func f=>Td (.g (.a (.v (.func (.func f) #[] #[]))))
theorem Zv{e:js}(h:SatA n e γ a)(l:valid (qg a) c){x:Operand}(b:eH e c x=Td v):DenV γ v (a.eval x):=by
 cases x with
 |tmp t=>simp only[eH]at b;split at b;rename_i cs u k;by_cases i:fQ cs c=Ta;simp only[i,zG,Ud]at b;subst b;exact(h.all _ (Z6 k)).1 (Jc i l);grind;cases b
 |const u=>simp only[eH,Ud]at b;subst b;exact mU γ u
 |global g=>simp only[eH,Ud]at b;subst b;exact rfl
 |func f=>simp only[eH,Ud]at b;subst b;exact rfl
def jX:AV->Option Bool
 |.g (.a (.v (.bool b)))=>Td b
 |_=>Te
theorem uO{b:Bool}(h:jX v=Td b)(c:DenV γ v u):u=.bool b:=by unfold jX at h;split at h;simp only[Ud]at h;subst h;exact c;cases h
def mR(ops:Array Oper)(e:js):Option (Nat×Bool)->Option qp
 |none=>Td []
 |some (j,p)=>match w9 ops j with
  |some g=>match gH e g with
   |some (cg,v)=>match jX v with
    |some _=>Td ((g,p)::cg)
    |none=>Te
   |none=>Te
  |none=>Te
def mD(e:js):qp->Option Bool
 |[]=>Td Ta
 |(g,p)::c=>match gH e g with
  |some (cg,v)=>match jX v with
   |some b=>bif Zr cg c then(match mD e c with
    |some f=>Td (f&&(bif p then b else !b))
    |none=>Te)else Te
   |none=>Te
  |none=>Te
theorem vQ{n:Nat}{e:js}{γ:Gh}{a:Act}(h:SatA n e γ a):∀{c:qp} {b:Bool},mD e c=Td b->(b=Ta↔valid (qg a) c)
 |[],b,hb=>by simp only[mD,Ud]at hb;simp[<-hb,valid]
 |(g,p)::c,b,hb=>by
  simp only[mD]at hb;split at hb;rename_i t v r;split at hb;rename_i q k;by_cases o:Zr t c=Ta;simp only[o,zG]at hb;split at hb;rename_i l i;simp only[Ud]at hb;have s:=vQ h i;have m:=h.all _ (Z6 r);rw[Jb o]at m;by_cases f:valid (qg a) c;have h1:qg a g=.bool q:=uO k (m.1 f);have h2:=s.2 f;subst hb;simp only[valid,h1,f,h2,Vo,and_true,Value.bool.injEq];grind;have h1:l=Tc:=by cases l with|false=>rfl|true=>simp_all
  subst hb;simp[valid,f,h1];cases hb;grind;cases hb;cases hb
theorem Bw{ops:Array Oper}{e:js}(h:SatA n e γ a)(f:mR ops e o.guard=Td c):
  UV o (yielded ops a.tmps)=Ta↔valid (qg a) c:=by
 unfold UV;cases hg:o.guard with
 |none=>rw[hg]at f;simp only[mR,Ud]at f;simp[<-f,valid]
 |some s=>
  obtain⟨j,p⟩:=s;rw[hg]at f;simp only[mR]at f;split at f;rename_i g i;split at f;rename_i t v q;split at f;rename_i b u;simp only[Ud]at f;subst f;have k:((ops[j]?).bind (·.dst))=Td g:=by simp only[w9]at i;split at i;simp_all;cases i
  have m:=h.all _ (Z6 q);have r:yielded ops a.tmps j=Td p↔qg a g=.bool p:=by
   unfold yielded qg;rw[k];simp only[VM];cases ht:a.tmps[g]? with
   |none=>simp[Vm,ht,undef]
   |some v=>cases v <;> simp[Vm,ht]
  simp only[beq_iff_eq,r,valid];constructor;intro h1;refine⟨h1,?_⟩;by_cases l:valid (qg a) t;exact l;have:=m.2 l;simp only at this;rw[h1]at this;exact absurd this.symm AP;simp_all;cases f;cases f;cases f
def kI(e:js):qp->Option (Option Bool)
 |[]=>Td Te
 |c=>match mD e c with
  |some b=>Td (Td b)
  |none=>Te
theorem Fp{e:js}(i:SatA n e γ a)(h:kI e c=Td g)(k:valid (qg a) c):da g:=by unfold kI at h;split at h;simp only[Ud]at h;subst h;trivial;split at h;rename_i b f;simp only[Ud]at h;subst h;exact(vQ i f).2 k;cases h
theorem yL{e:js}(k:SatA n e γ a)(h:kI e c=Td g)(f:¬valid (qg a) c):g=Td Tc:=by
 unfold kI at h;split at h;exact absurd trivial f;split at h;rename_i b i;simp only[Ud]at h;subst h;cases b with
 |false=>rfl
 |true=>exact absurd ((vQ k i).1 rfl) f
 cases h
def nH(ρ:Operand->Option AV)(x:Operand):Value:=match ρ x with
 |some av=>match kK av with
  |some v=>v
  |none=>undef
 |none=>undef
def jF(ρ:Operand->Option AV):List Operand->Bool
 |[]=>Ta
 |x::l=>match ρ x with
  |some av=>match kK av with
   |some _=>jF ρ l
   |none=>Tc
  |none=>Tc
theorem Hf{ρ:Operand->Option AV}(h:∀x av,ρ x=Td av->DenV γ av (σ x)){l:List Operand}(c:jF ρ l=Ta):∀x∈l,σ x=nH ρ x:=by
 induction l with
 |nil=>simp
 |cons y l i=>intro x f;simp only[jF]at c;split at c;rename_i av e;split at c;rename_i v b;rcases Uj.1 f with rfl|f;rw[uu b (h _ _ e)];simp[nH,e,b];grind;cases c;cases c
theorem TJ{ρ:Operand->Option AV}(f:∀x av,ρ x=Td av->DenV γ av (σ x))(c:Wh o.op=Ta)(e:jF ρ o.op.operands.toList=Ta):
  execOp σ o=execOp (nH ρ) o:=
 execOp_congr o (λcs b h=>by rw[h]at c;cases c) λx i=>Hf f e x (by simpa using i)
end
section
variable {o n f k:Nat} {h:zb} {u:Value} {us:List Value} {cs:CS} {γ:Gh} {t ty:TypeId} {P:Program} {s:Option Nat}
variable {h0 : zb} {W : Nat -> Prop} {M0 : Fr}
def takeN(l:List AA)(o n:Nat):Option (List AA):=bif Nat.beq ((l.drop o).take n).length n then Td ((l.drop o).take n)else Te
theorem pw{l r:List AA}(h:takeN l o n=Td r):r=(l.drop o).take n/\r.length=n:=by
 unfold takeN at h;cases hb:Nat.beq ((l.drop o).take n).length n with
 |false=>simp_all
 |true=>rw[hb]at h;simp_all
theorem yY{h:zb}{p:Addr}:∀{us:List Value} {i:Nat},(∀j v,us[j]?=Td v->zc h (p.add (i+j))=Td v)->zd h p i us
 |[],_,_=>trivial
 |v::us,i,H=>⟨by have:=H 0 v rfl;omega,yY λj u b=>by have:=H (j+1) u (by simpa using b);grind⟩
def Behind(h:zb)(u:Value)(us:List Value):Prop:=∃b o,u=.pointer (Td ⟨b,o,Te⟩)/\∀j v,us[j]?=Td v->zc h ⟨b,o+j,Te⟩=Td v
theorem Behind.ld(H:Behind h u us):∃p:Addr,u=.pointer (Td p)/\zd h p 0 us/\∀v,us=[v]->zc h p=Td v:=by obtain⟨b,o,e,f⟩:=H;refine⟨_,e,yY λj v c=>?_,λv c=>?_⟩;rw[zj,UI];exact f j v c;have:=f 0 v (by rw[c];rfl);omega
theorem HY{cs:Array Value}{f n j:Nat}{v:Value}(h:(cut cs f n)[j]?=Td v):cs[f+j]?=Td v:=by unfold cut at h;grind
def nI(cs:CS)(n:Nat):AA->Option (List AA)
 |.box c o=>match Jl cs c with
  |some (.box l)=>bif fc l then Te else takeN l o n
  |_=>Te
 |.elt t x o=>takeN (Jk t x) o n
 |_=>Te
theorem TX(I:Inv h0 W M0 cs γ h){y:AA}{r:List AA}(k:nI cs n y=Td r)(w:DenA γ y u):
  ∃us,Behind h u us/\us.length=n/\All2 (DenA γ) r us:=by
 unfold nI at k;split at k
 ·rename_i c o;split at k
  ·rename_i l z;cases hit:fc l with
   |true=>simp_all
   |false=>
   rw[hit]at k;obtain⟨rfl,q⟩:=pw k;obtain⟨us,e,h2⟩:=I.den _ (qf z);rcases e with⟨⟨T,e⟩,_⟩|⟨s,p,e,_⟩;case inr=>grind [pB]
   have m:=(h2.drop o).take n;refine⟨(us.drop o).take n,⟨_,_,w,λj v i=>?_⟩,by rw[<-m.length];exact q,m⟩;rw[UU]at i;split at i;rw[Va]at i;unfold zc;simp_all;cases i
  cases k
 rename_i t x o;obtain⟨rfl,q⟩:=pw k;obtain⟨b,f,C,e,B,A⟩:=w;have m:=((xq (γ:=γ) A).drop o).take n;refine⟨_,⟨_,_,e,λj v i=>?_⟩,by rw[<-m.length];exact q,m⟩;rw[UU]at i;split at i;rw[Va]at i;have:=HY i;exact I.ag.cell B (by grind);cases i;cases k
theorem Ox(I:Inv h0 W M0 cs γ h){c:Nat}{e:TypeId}{t:Ty}{xs:List (El t)}(G:Jl cs c=Td (.row e t xs)){i:Nat}{y:El t}(z:xs[i]?=Td y){r:List AA}(E:takeN (Jk t y) o n=Td r)(B:DenA γ (.oelt c (sz t) i o) u):∃us,Behind h u us/\us.length=n/\All2 (DenA γ) r us:=by
 obtain⟨rfl,F⟩:=pw E;obtain⟨g,C,rfl⟩:=B;obtain⟨cells,f,l,_,D⟩:=I.den _ (qf G);simp only at D f;rcases f.2 with⟨m,h1⟩|⟨g',cap,s,m,_,p,_,_,_,k⟩;simp_all;simp only[UW]at m;rw[C]at m;have w:g=g':=by have:=m.1;simp only[Ud,Addr.mk.injEq]at this;exact this.1
 subst w;have hi:i<xs.length:=(UE.1 z).1;have q:xs[i]=y:=(UE.1 z).2;have x:=l.2 i hi;rw[q]at x;have A:=((xq (γ:=γ) x).drop o).take n;refine⟨_,⟨_,_,rfl,λj v b=>?_⟩,by rw[<-A.length];exact F,A⟩;rw[UU]at b;split at b;rw[Va,UU]at b;split at b;rw[Va,<-k,UU]at b;split at b;have H:h[g]?=Td (.cells s e (0,0)):=p;unfold zc;grind;cases b;cases b;cases b
def gL:Option Nat->List AA->Option AG
 |none,[x]=>Td (.a x)
 |some _,l=>Td (.agg l)
 |_,_=>Te
def fL(P:Program)(t:TypeId):Option (Option Nat):=match fB P t with
 |some (.one _)=>Td Te
 |some (.agg l)=>Td (Td l.length)
 |none=>Te
def gk:Option Nat->Nat
 |none=>1
 |some n=>n
theorem ti(c:fL P t=Td s)(o:Behind h u us)(m:us.length=gk s){r:List AA}(b:All2 (DenA γ) r us){ag:AG}(i:gL s r=Td ag):
  ∃v,DenG γ ag v/\QExec P (XE t u) h v:=by
 obtain⟨p,e,n,h1⟩:=o.ld;subst e;have f:∀v,QExec P (loadVar t p) h v->QExec P (XE t (.pointer (Td p))) h v:=λv q B d=>by unfold XE XR;simp only[Sem.run_bind,Sem.run_pure,Result.andThen_ok];exact q B d
 unfold fL at c;split at c;rename_i a k;simp only[Ud]at c;subst c
 match us,m,r,b with
 |[v],_,[x],b=>simp only[gL,Ud]at i;subst i;exact⟨v,b.1,f v (kQ k (h1 v rfl))⟩
 |[v],_,[],b=>exact b.elim
 |[v],_,_::_::_,b=>exact b.2.elim
 rename_i l k;simp only[Ud]at c;subst c;simp only[gL,Ud]at i;subst i;exact⟨.agg us.toArray,⟨us,rfl,b⟩,f _ (mu k m n)⟩;cases c
def kD(P:Program)(cs:CS)(t:TypeId)(b:AA)(g:Option Bool)(K:AV->Prop):Prop:=
 match fL P t with
 |some s=>match b with
  |.oelt c z i o=>match Jl cs c with
   |some (.row e ty xs)=>bif Nat.beq z (sz ty)then(∃y:El ty,req g (xs[i]?=Td y)/\match takeN (Jk ty y) o (gk s)with
    |some r=>match gL s r with
     |some ag=>K (.g ag)
     |none=>False
    |none=>False)else False
   |_=>False
  |b=>match nI cs (gk s) b with
   |some r=>match gL s r with
    |some ag=>K (.g ag)
    |none=>False
   |none=>False
 |none=>False
theorem Bf{p:AA}{g:Option Bool}{K:AV->Prop}(H:kD P cs t p g K):
  ∃av,K av/\(da g->∀γ h u,Inv h0 W M0 cs γ h->DenA γ p u->∃v,DenV γ av v/\QExec P (XE t u) h v):=by
 unfold kD at H;split at H;rename_i s m;split at H;rename_i c z i o;split at H;rename_i e ty xs w;cases hz:Nat.beq z (sz ty)with
 |false=>simp_all
 |true=>rw[hz]at H;obtain⟨y,q,H⟩:=H;split at H;rename_i r k;split at H;rename_i ag f;refine⟨_,H,λn γ h u I b=>?_⟩;rw[Ux hz]at b;obtain⟨us,h1,h2,l⟩:=Ox I w (q.out n) k b;exact ti m h1 h2 l f;exact H.elim;exact H.elim
 exact H.elim;split at H;rename_i r k;split at H;rename_i ag f;refine⟨_,H,λn γ h u I b=>?_⟩;obtain⟨us,h1,h2,l⟩:=TX I k b;exact ti m h1 h2 l f;exact H.elim;exact H.elim;exact H.elim
def lx(P:Program)(t:TypeId)(f:Nat):Option (Nat×TypeId):=match P.underlying t with
 |some (.struct fs)=>match fs[f]? with
  |some b=>match P.info? b.type with
   |some i=>bif Nat.beq i.size 0 then Te else Td (b.offset,b.type)
   |none=>Te
  |none=>Te
 |_=>Te
def ni(k:Nat):AA->Option AA
 |.box c o=>Td (.box c (o+k))
 |.elt t x o=>Td (.elt t x (o+k))
 |.oelt c z i o=>Td (.oelt c z i (o+k))
 |_=>Te
theorem OA(c:lx P t f=Td (k,ty))(b o:Nat):QExec P (Instr.fieldAt t (.pointer (Td ⟨b,o,Te⟩)) f) h (.pointer (Td ⟨b,o+k,Te⟩)):=by
 unfold lx at c;split at c;rename_i s p;split at c;rename_i q m;split at c;rename_i i hi;cases hz:Nat.beq i.size 0 with
 |true=>simp_all
 |false=>
  rw[hz]at c;simp only[zH,Ud,Vg]at c;obtain⟨rfl,rfl⟩:=c;intro B d;have n:=QExec.underlying (h:=h) p B d;have r:=QExec.sizeOf (h:=h) hi B d;have l:¬(jg P q.type=0):=by unfold jg;rw[hi];intro e;simp only at e;rw[e]at hz;simp at hz
  unfold Instr.fieldAt XR fieldPlace;simp only[Sem.run_bind,n,Result.andThen_ok,m,Sem.run_pure,r,l,if_false,zj]
 cases c;cases c;cases c
theorem Dm{l c:AA}(h:ni k l=Td c)(i:DenA γ l u):∃b o,u=.pointer (Td ⟨b,o,Te⟩)/\DenA γ c (.pointer (Td ⟨b,o+k,Te⟩)):=by unfold ni at h;split at h;simp only[Ud]at h;subst h;exact⟨_,_,i,rfl⟩;simp only[Ud]at h;subst h;obtain⟨b,f,cs,e,h1,h2⟩:=i;exact⟨_,_,e,b,f,cs,by grind,h1,h2⟩;simp only[Ud]at h;subst h;obtain⟨g,m,n⟩:=i;exact⟨_,_,n,g,m,by grind⟩;cases h
def ng(P:Program)(ty:TypeId)(l:List AA)(k:Nat):Option AG:=match fL P ty with
 |some s=>match takeN l k (gk s)with
  |some r=>gL s r
  |none=>Te
 |none=>Te
theorem wA(c:fL P t=Td s)(h:zb):QExec P (isAgg t) h s.isSome:=by
 unfold fL at c;split at c;rename_i a b;simp only[Ud]at c;subst c;unfold fB at b;split at b;grind;grind;rename_i d i p f;intro B e;have k:=QExec.underlying (h:=h) f B e;unfold isAgg;simp_all;cases b;rename_i l b;simp only[Ud]at c;subst c;unfold fB at b;have f:(∃o,P.underlying t=Td (.struct o))\/∃n e,P.underlying t=Td (.array n e):=by split at b;simp_all;simp_all;simp at b;cases b
 intro B e;rcases f with⟨o,f⟩|⟨m,e',f⟩;have k:=QExec.underlying (h:=h) f B e;unfold isAgg;simp_all;have k:=QExec.underlying (h:=h) f B e;unfold isAgg;simp_all;cases c
theorem KJ(b:fL P t=Td (Td n)):jg P t=n/\∃i,P.info? t=Td i:=by
 unfold fL at b;split at b;cases b
 ·rename_i l c;simp only[Ud]at b;subst b;unfold fB at c;have key:∀x:Option (List Atom),(match x with
    |some l=>bif Nat.beq l.length (jg P t)then Td (VT.agg l)else Te
    |none=>Te)=Td (.agg l)->jg P t=l.length:=by
   intro x e;split at e;rename_i f;cases hb:Nat.beq f.length (jg P t)with
   |false=>simp_all
   |true=>simp_all
   cases e
  split at c;exact⟨key _ c,info_of_underlying (by assumption)⟩;exact⟨key _ c,info_of_underlying (by assumption)⟩;simp at c;cases c
 cases b
theorem uG{l:List AA}{ag:AG}(b:ng P ty l k=Td ag)(o:All2 (DenA γ) l us)(h:zb):∃v,DenG γ ag v/\QExec P (part ty us.toArray k) h v:=by
 unfold ng at b;split at b;rename_i s m;split at b;rename_i r t;obtain⟨rfl,u⟩:=pw t;have c:=(o.drop k).take (gk s);have e:((us.drop k).take (gk s)).length=gk s:=by rw[<-c.length];exact u
 cases s with
 |none=>
  generalize f:(us.drop k).take (gk Te)=q at *
  match q,e,f with
  |[v],_,f=>
   generalize p:(l.drop k).take (gk Te)=r' at *
   match r',c with
   |[x],c=>
    simp only[gL,Ud]at b;subst b;refine⟨v,c.1,λB d=>?_⟩;have w:=wA m h B d;have z:us[k]?=Td v:=by
     have:((us.drop k).take 1)[0]?=Td v:=by rw[show(us.drop k).take 1=[v]from f];rfl
     rw[UU,zA (by omega),Va]at this;simpa using this
    unfold part;simp_all
   |[],c=>exact c.elim
   |_::_::_,c=>exact c.2.elim
 |some n=>simp only[gL,Ud]at b;subst b;refine⟨.agg ((us.drop k).take n).toArray,⟨_,rfl,c⟩,λB d=>?_⟩;have w:=wA m h B d;obtain⟨y,i,hi⟩:=KJ m;have A:=QExec.sizeOf (h:=h) hi B d;unfold part;simp_all
 cases b;cases b
end
section
variable {cs:CS} {γ:Gh} {h:zb} {u:Value} {t el:TypeId} {a:Option Addr} {n:Int} {av:AV} {P:Program} {cap:Nat} {g:Option Bool} {σ:Operand -> Value} {b:Bool} {o:Oper}
variable {h0 : zb} {W : Nat -> Prop} {M0 : Fr}
def rowOf(cs:CS):AA->Option ((t:Ty)×List (El t))
 |.d (.row t) xs=>Td ⟨t,xs⟩
 |.dc t xs=>Td ⟨t,xs⟩
 |.own c=>match Jl cs c with
  |some (.fz t xs)=>Td ⟨t,xs⟩
  |_=>Te
 |_=>Te
theorem mK(I:Inv h0 W M0 cs γ h){e:AA}{r:(t:Ty)×List (El t)}(b:rowOf cs e=Td r)(c:DenA γ e u):Rd γ.M (.row r.1) r.2 [u]:=by unfold rowOf at b;split at b;simp only[Ud]at b;subst b;exact c;simp only[Ud]at b;subst b;obtain⟨s,_,_,h⟩:=c;exact h;split at b;rename_i t xs f;simp only[Ud]at b;subst b;rw[show u=_ from c];exact I.den _ (qf f);cases b;cases b
theorem Rd.sub{M:Fr}{t:Ty}{xs:List (El t)}{n c:Nat}(H:Rd M (.row t) xs [.slice a n c]){l r m:Nat}(h1:l<=r)(h2:r<=xs.length)(z:r<=m)(x:m<=c):
  Rd M (.row t) ((xs.take r).drop l) [.slice (de a (sz t) l m) (r-l) (m-l)]:=by
 obtain⟨v,e,a',w,k,A,H⟩:=H;cases e;simp only[UW]at k;obtain⟨rfl,rfl,rfl⟩:=k;have f:((xs.take r).drop l).length=r-l:=by simp;omega
 refine⟨_,rfl,de a (sz t) l m,m-l,by rw[f],⟨by omega,by omega⟩,?_⟩;by_cases y:r=l;simp_all;rcases H with u|⟨b,o,cs,s,p,hi⟩;simp_all;right;have h:¬(m=l):=by omega
 refine⟨b,o+l*sz t,cs,?_,p,λi q=>?_⟩;unfold de;rw[za h,s];simp[zj];grind
def nq:AV->Option Int
 |.g (.a (.v (.int _ n)))=>Td n
 |_=>Te
theorem D8(h:nq av=Td n)(b:DenV γ av u):∃k,u=.int k n:=by unfold nq at h;split at h;simp only[Ud]at h;subst h;exact⟨_,b⟩;cases h
def j4(P:Program)(t:TypeId):Option TypeId:=match P.underlying t with
 |some (.slice el)=>bif qj P el then Td el else Te
 |_=>Te
theorem oq(h:j4 P t=Td el):P.underlying t=Td (.slice el)/\qj P el=Ta:=by unfold j4 at h;grind
def uj(P:Program)(cs:CS)(t:TypeId)(b:AA)(n:Int)(g:Option Bool)(K:AV->Prop):Prop:=
 match j4 P t with
 |some el=>match rowOf cs b with
  |some r=>bif Nat.beq (jg P el) (sz r.1)then ∃y:El r.1,req g (0<=n/\r.2[n.toNat]?=Td y)/\K (.g (.a (.elt r.1 y 0)))else False
  |none=>match b with
   |.own c=>match Jl cs c with
    |some (.row e ty xs)=>bif Nat.beq (jg P el) (sz ty)then req g (0<=n/\n.toNat<xs.length)/\K (.g (.a (.oelt c (sz ty) n.toNat 0)))else False
    |_=>False
   |_=>False
 |none=>False
theorem DZ(e:P.underlying t=Td (.slice el))(l:qj P el=Ta){a:Addr}{len cap:Nat}{k:IntKind}(h1:0<=n)(h2:n<(len:Int))(h:zb):
  QExec P (YL t (.slice (Td a) len cap) (.int k n)) h (.pointer (Td (a.add (n.toNat*jg P el)))):=by
 have:=Z5 (P:=P) (t:=t) (x:=.slice (Td a) len cap) (i:=.int k n) (g:=Te) (K:=λv=>v=.pointer (Td (a.add (n.toNat*jg P el)))) (λf c=>by simp_all[wh]) (by unfold l9;rw[e];exact⟨a,⟨rfl,h1,h2⟩,rfl⟩);obtain⟨v,rfl,b⟩:=this;exact b trivial h
theorem Oy{F:AA}{K:AV->Prop}(H:uj P cs t F n g K):
  ∃av,K av/\(da g->∀γ h u k,Inv h0 W M0 cs γ h->DenA γ F u->∃v,DenV γ av v/\QExec P (YL t u (.int k n)) h v):=by
 unfold uj at H;split at H;rename_i el x;obtain⟨E,D⟩:=oq x;split at H;rename_i r S;cases hz:Nat.beq (jg P el) (sz r.1)with
 |false=>simp_all
 |true=>rw[hz]at H;obtain⟨y,A,z⟩:=H;refine⟨_,z,λs γ h u k I q=>?_⟩;obtain⟨i,m⟩:=A.out s;have l:=Ux hz;obtain⟨v,e,a,c,N,hn,H⟩:=mK I S q;cases e;subst N;have hi:n.toNat<r.2.length:=(UE.1 m).1;have U:r.2[n.toNat]=y:=(UE.1 m).2;rcases H with Z|⟨b,o,J,V,L,w⟩;simp_all;subst V;refine⟨_,?_,DZ E D i (by omega) h⟩;have:=w n.toNat hi;rw[U]at this;rw[zj,l];exact⟨b,o+n.toNat*sz r.1,J,rfl,L,this⟩
 split at H;rename_i c _;split at H;rename_i e ty xs Y;cases hz:Nat.beq (jg P el) (sz ty)with
 |false=>simp_all
 |true=>rw[hz]at H;obtain⟨A,z⟩:=H;refine⟨_,z,λs γ h u k I q=>?_⟩;obtain⟨i,hi⟩:=A.out s;have l:=Ux hz;obtain⟨cells,f,G,_,Q⟩:=I.den _ (qf Y);simp only at Q f;rcases f.2 with⟨p,h1⟩|⟨g',cap,O,p,_,M,_,_,_,B⟩;omega;simp only[UW]at p;have C:u=aK (γ.σ c):=q;subst C;unfold aK;rw[p.1];refine⟨_,?_,DZ E D i (by omega) h⟩;rw[zj,l,UI];exact⟨g',p.1,rfl⟩
 exact H.elim;exact H.elim;exact H.elim
def lS(ρ:Operand->Option AV)(d:Int):Option Operand->Option Int
 |none=>Td d
 |some x=>match ρ x with
  |some av=>nq av
  |none=>Te
theorem Jo{ρ:Operand->Option AV}(c:∀x av,ρ x=Td av->DenV γ av (σ x)){d n:Int}{x:Option Operand}(h:lS ρ d x=Td n):y5 (x.map σ) d=Td n:=by unfold lS at h;split at h;exact h;rename_i y;split at h;rename_i av b;obtain⟨k,e⟩:=D8 h (c _ _ b);simp[y5,e];cases h
def vH(P:Program)(cs:CS)(ρ:Operand->Option AV)(t:TypeId)(b:AA)(lo hi mx:Option Operand)(g:Option Bool)(K:AV->Prop):Prop:=
 match j4 P t with
 |some el=>match rowOf cs b with
  |some r=>bif Nat.beq (jg P el) (sz r.1)then(match lS ρ 0 lo,lS ρ (r.2.length:Int) hi with
   |some l,some h=>match mx with
    |none=>req g (0<=l/\l<=h/\h<=(r.2.length:Int))/\K (.g (.a (.d (.row r.1) ((r.2.take h.toNat).drop l.toNat))))
    |some m=>match lS ρ 0 (Td m),hi with
     |some m,some _=>req g (0<=l/\l<=h/\h<=(r.2.length:Int)/\m=h)/\K (.g (.a (.dc r.1 ((r.2.take h.toNat).drop l.toNat))))
     |_,_=>False
   |_,_=>False)else False
  |none=>False
 |none=>False
theorem Ak(e:P.underlying t=Td (.slice el))(q:qj P el=Ta){len cap:Nat}{lo hi mx:Option Value}{l r m:Int}(b:y5 lo 0=Td l)(c:y5 hi (len:Int)=Td r)(i:y5 mx (cap:Int)=Td m) (h0:mx=Te\/∃v,hi=Td v) (h1:0<=l) (h2:l<=r) (f:r<=m) (o:m<=(cap:Int)) (h:zb):
  QExec P (YA t (.slice a len cap) lo hi mx) h (.slice (de a (jg P el) l.toNat m.toNat) (r.toNat-l.toNat) (m.toNat-l.toNat)):=by
 have:=Yu (P:=P) (t:=t) (x:=.slice a len cap) (lo:=lo) (hi:=hi) (mx:=mx) (g:=Te) (K:=λv=>v=.slice (de a (jg P el) l.toNat m.toNat) (r.toNat-l.toNat) (m.toNat-l.toNat)) (λp n=>by simp_all[wh]) (by unfold np;rw[e];simp only[b,c,i];exact⟨h0,⟨h1,h2,f,o⟩,trivial⟩);obtain⟨v,rfl,k⟩:=this;exact k trivial h
theorem Kn{ρ:Operand->Option AV}{F:AA}{lo hi mx:Option Operand}{K:AV->Prop}(H:vH P cs ρ t F lo hi mx g K):
  ∃av,K av/\(da g->∀γ h u σ,Inv h0 W M0 cs γ h->(∀x av,ρ x=Td av->DenV γ av (σ x))->DenA γ F u->∃v,DenV γ av v/\QExec P (YA t u (lo.map σ) (hi.map σ) (mx.map σ)) h v):=by
 unfold vH at H;split at H;rename_i el s;obtain⟨E,B⟩:=oq s;split at H;rename_i r D;cases hz:Nat.beq (jg P el) (sz r.1)with
 |false=>simp_all
 |true=>
  rw[hz]at H;have o:=Ux hz;simp only[zG]at H;split at H;rename_i l N C n;split at H;obtain⟨A,w⟩:=H;refine⟨_,w,λq γ h u σ I k p=>?_⟩;obtain⟨h1,h2,J⟩:=A.out q;have f:=mK I D p;have b:=f;obtain⟨v,e,a,c,y,L,_⟩:=b;cases e;subst y;refine⟨_,?_,Ak E B (Jo k C) (Jo k n) (m:=(c:Int)) rfl (.inl rfl) h1 h2 (by omega) (Int.le_refl _) h⟩;rw[o];exact f.sub (by omega) (by omega) (by omega) (by omega);rename_i m;split at H;rename_i m' O M;obtain⟨A,w⟩:=H;refine⟨_,w,λq γ h u σ I k p=>?_⟩;obtain⟨h1,h2,J,G⟩:=A.out q;subst G;have f:=mK I D p;have b:=f;obtain⟨v,e,a,c,y,L,_⟩:=b;cases e;subst y;have i:=Jo k M;have z:y5 ((Td m).map σ) (c:Int)=Td m':=by unfold y5 at i ⊢;simp only[XK]at i ⊢;split at i <;> simp_all
  refine⟨_,?_,Ak E B (Jo k C) (Jo k n) z (.inr ⟨_,rfl⟩) h1 h2 (Int.le_refl _) (by omega) h⟩;rw[o];refine⟨⟨_,_,_⟩,rfl,rfl,f.sub (by omega) (by omega) (by omega) (by omega)⟩;exact H.elim;exact H.elim
 exact H.elim;exact H.elim
def qJ(cs:CS):AA->Option Nat
 |.d (.row _) xs=>Td xs.length
 |.dc _ xs=>Td xs.length
 |.own c=>match Jl cs c with
  |some (.fz _ xs)=>Td xs.length
  |some (.row _ _ xs)=>Td xs.length
  |_=>Te
 |_=>Te
theorem MH(I:Inv h0 W M0 cs γ h){l:AA}{n:Nat}(b:qJ cs l=Td n)(f:DenA γ l u):∃a c,u=.slice a n c:=by
 have key:∀{t:Ty} {xs:List (El t)},Rd γ.M (.row t) xs [u]->∃a c,u=.slice a xs.length c:=by rintro t xs ⟨v,e,a,c,m,_⟩;cases e;exact⟨a,c,m⟩
 unfold qJ at b;split at b;simp only[Ud]at b;subst b;exact key f;simp only[Ud]at b;subst b;obtain⟨s,_,_,f⟩:=f;exact key f;split at b;rename_i c t xs i;simp only[Ud]at b;subst b;rw[show u=_ from f]at key ⊢;exact key (I.den _ (qf i));rename_i c e t xs i;simp only[Ud]at b;subst b;obtain⟨cells,_,_,_,k⟩:=I.den _ (qf i);simp only at k;rw[show u=_ from f];exact⟨_,_,by unfold aK;rw[k]⟩;cases b;cases b
def Fj:AA->List AA
 |.v x=>x.cells.toList.map .v
 |x=>[x]
def lU:AV->Option (List AA)
 |.g (.a x)=>Td (Fj x)
 |.g (.agg l)=>Td l
 |_=>Te
theorem Hw(h:u.oneCell'=Ta):u.cells.toList=[u]:=by cases u <;> first|rfl|simp[Value.oneCell']at h
theorem Jp(γ:Gh):∀l:List Value,All2 (DenA γ) (l.map .v) l
 |[]=>trivial
 |_::l=>⟨rfl,Jp γ l⟩
theorem No{x:AA}(k:DenA γ x u):All2 (DenA γ) (Fj x) u.cells.toList:=by
 have key:u.oneCell'=Ta->All2 (DenA γ) [x] u.cells.toList:=λh=>by rw[Hw h];exact⟨k,trivial⟩
 cases x with
 |v y=>rw[show u=y from k];exact Jp γ _
 |d t y=>exact key (Rd.one (show Rd γ.M t y [u]from k) u (by simp))
 |box c o=>exact key (by rw[show u=_ from k];rfl)
 |own c=>exact key (by rw[show u=_ from k];rfl)
 |oelt c z i o=>obtain⟨g,_,e⟩:=k;exact key (by rw[e];rfl)
 |elt t y o=>obtain⟨b,f,cs,e,_⟩:=k;exact key (by rw[e];rfl)
 |dc t xs=>obtain⟨s,e,_⟩:=k;exact key (by rw[e];rfl)
theorem tu{l:List AA}(h:lU av=Td l)(b:DenV γ av u):All2 (DenA γ) l u.cells.toList:=by unfold lU at h;split at h;simp only[Ud]at h;subst h;exact No b;simp only[Ud]at h;subst h;obtain⟨us,rfl,h2⟩:=b;simpa[Value.cells]using h2;cases h
def jH(b:Nat->Option (Nat×Nat))(cells:List AA):List (Nat×AV)->Option (List AA)
 |[]=>Td cells
 |(i,av)::rest=>match b i,lU av with
  |some (off,size),some l=>bif Nat.beq l.length size then(bif Nat.ble (off+l.length) cells.length then jH b (cells.take off++l++cells.drop (off+l.length)) rest else Te)else Te
  |_,_=>Te
theorem MP(vs:List Value):∀(k off:Nat) (cs:Array Value),off+k+vs.length<=cs.size ->
  ((vs.zipIdx k).foldl (λcs (x:Value×Nat)=>cs.setIfInBounds (off+x.2) x.1) cs).toList=cs.toList.take (off+k)++vs++cs.toList.drop (off+k+vs.length):=by
 induction vs with
 |nil=>simp
 |cons v vs b=>
  intro k off cs h;simp only[Uk]at h;rw[List.zipIdx_cons,List.foldl_cons];refine(b (k+1) off (cs.setIfInBounds (off+k) v) (by grind)).trans ?_;simp only[Array.toList_setIfInBounds,Uk];have hi:off+k<cs.toList.length:=by simp;omega
  rw[<-Nat.add_assoc,List.drop_set_of_lt (by omega)];have c:(cs.toList.set (off+k) v).take (off+k+1)=cs.toList.take (off+k)++[v]:=by
   rw[List.take_set,Uh hi,List.set_append_right _ _ (by simp;omega)];have:off+k-(cs.toList.take (off+k)).length=0:=by simp;omega
   rw[this];rfl
  grind
theorem uE{b:Nat->Option (Nat×Nat)}{γ:Gh}:∀{c:List (Nat×AV)} {cells r:List AA} {us:List Value} {ps:List (Nat×Value)},jH b cells c=Td r->All2 (DenA γ) cells us->All2 (λ(x:Nat×AV) (y:Nat×Value)=>x.1=y.1/\DenV γ x.2 y.2) c ps ->
  ∃n:List Value,Instr.fill b us.toArray ps=Td n.toArray/\All2 (DenA γ) r n
 |[],cells,r,us,[],h,hc,_=>by simp only[jH,Ud]at h;subst h;exact⟨us,rfl,hc⟩
 |[],_,_,_,_::_,_,_,e=>e.elim
 |_::_,_,_,_,[],_,_,e=>e.elim
 |(i,av)::rest,cells,r,us,(j,v)::ps,h,hc,e=>by
  obtain⟨⟨f,t⟩,e⟩:=e;simp only at f t;subst f;simp only[jH]at h;split at h;rename_i off size l q w;cases hb:Nat.beq l.length size with
  |false=>simp_all
  |true=>
   rw[hb]at h;simp only[zG]at h;cases hb2:Nat.ble (off+l.length) cells.length with
   |false=>simp_all
   |true=>
    rw[hb2]at h;simp only[zG]at h;have m:=tu w t;have p:=m.length;have A:=hc.length;have h1:=Ux hb;have h2:=VE hb2;have s:v.cells.size=size:=by rw[<-h1,p];simp
    have k:All2 (DenA γ) (cells.take off++l++cells.drop (off+l.length)) (us.take off++v.cells.toList++us.drop (off+l.length)):=((hc.take off).append m).append (hc.drop _);obtain⟨n,z,u⟩:=uE h k e;refine⟨n,?_,u⟩;simp only[Instr.fill,q];have o:¬((decide (v.cells.size≠size)||decide (off+v.cells.size>us.toArray.size))=Ta):=by rw[s];simp;omega
    rw[za o];rw[<-z];congr 1;apply Array.ext';have:=MP v.cells.toList 0 off us.toArray (by simp;omega);grind [Array.toList_zipIdx,trans]
  cases h
def mI(P:Program):List Field->Bool
 |[]=>Ta
 |f::l=>bif qj P f.type then mI P l else Tc
theorem wT{P:Program}{h:zb}:∀{l:List Field},mI P l=Ta->QExec P (l.mapM λf=>do pure (f.offset,<-Go.sizeOf f.type)) h (l.map λf=>(f.offset,jg P f.type))
 |[],_=>λ_ _=>rfl
 |f::l,H=>by
  simp only[mI]at H;cases ho:qj P f.type with
  |false=>simp_all
  |true=>rw[ho]at H;obtain⟨i,hi⟩:=wh ho;rw[YG];exact QExec.bind (QExec.bind (QExec.sizeOf hi) (QExec.pure _)) (QExec.bind (wT H) (QExec.pure _))
def placeOf(P:Program)(b:Array Field)(i:Nat):Option (Nat×Nat):=match b[i]? with
 |some f=>Td (f.offset,jg P f.type)
 |none=>Te
def iI(ρ:Operand->Option AV):List (Nat×Operand)->Option (List (Nat×AV))
 |[]=>Td []
 |(i,x)::l=>match ρ x,iI ρ l with
  |some av,some r=>Td ((i,av)::r)
  |_,_=>Te
theorem vh{γ:Gh}{ρ:Operand->Option AV}{σ:Operand->Value}(b:∀x av,ρ x=Td av->DenV γ av (σ x)):∀{l:List (Nat×Operand)} {r:List (Nat×AV)},iI ρ l=Td r ->
  All2 (λ(x:Nat×AV) (y:Nat×Value)=>x.1=y.1/\DenV γ x.2 y.2) r (l.map λx=>(x.1,σ x.2))
 |[],r,h=>by simp only[iI,Ud]at h;subst h;trivial
 |(i,x)::l,r,h=>by simp only[iI]at h;split at h;rename_i av c h1 h2;simp only[Ud]at h;subst h;exact⟨⟨rfl,b _ _ h1⟩,vh b h2⟩;cases h
def zeroOf(P:Program)(t:TypeId):Option Value:=match P.info? t with
 |some i=>i.zero
 |none=>Te
theorem qR{z:Value}(h:zeroOf P t=Td z)(b:zb):QExec P (zeroValue t) b z:=by unfold zeroOf at h;split at h;rename_i i hi;intro B d;simp[zeroValue,typeInfo,program,hi,Sem.run,h];cases h
def vB(P:Program)(t:TypeId)(b:List (Nat×AV)):Option (List AA):=match P.underlying t,zeroOf P t with
 |some (.struct fs),some z=>bif mI P fs.toList then jH (placeOf P fs) (z.cells.toList.map .v) b else Te
 |_,_=>Te
theorem Gw{b:List (Nat×AV)}{r:List AA}(h:vB P t b=Td r){ps:List (Nat×Value)}(n:All2 (λ(x:Nat×AV) (y:Nat×Value)=>x.1=y.1/\DenV γ x.2 y.2) b ps)(c:zb):
  ∃k:List Value,QExec P (Instr.build t ps.toArray) c (.agg k.toArray)/\All2 (DenA γ) r k:=by
 unfold vB at h;split at h;rename_i e z o s;cases hof:mI P e.toList with
 |false=>simp_all
 |true=>
  rw[hof]at h;simp only[zG]at h;obtain⟨k,u,q⟩:=uE h (Jp γ _) n;refine⟨k,?_,q⟩;intro B d;have p:=QExec.underlying (h:=c) o B d;have l:=qR s c B d;have m:=wT (P:=P) (h:=c) hof B d;unfold Instr.build;rw[Sem.run_bind,l];simp only[Result.andThen_ok];rw[Sem.run_bind,p];simp only[Result.andThen_ok];rw[Sem.run_bind,Array.mapM_eq_mapM_toList,Sem.run_map,m];simp only[Result.andThen_ok];have w:(λi=>((e.toList.map λf=>(f.offset,jg P f.type)).toArray)[i]?)=placeOf P e:=by funext i;unfold placeOf;cases hi:e[i]? <;> simp[hi]
  simp_all
 cases h
def uD(P:Program)(t:TypeId)(a b:Value):Option Bool:=match P.underlying t,a,b with
 |some (.int _),.int k x,.int k' y=>if k=k' then Td (x==y)else Te
 |some .string,.string x,.string y=>Td (x.toList==y.toList)
 |some .bool,.bool x,.bool y=>Td (x==y)
 |_,_,_=>Te
def i8(P:Program)(xs ys:List AA):List Field->Option Bool
 |[]=>Td Ta
 | f :: fs => if f.name = "_" then none else match ng P f.type xs f.offset, ng P f.type ys f.offset with
  |some (.a (.v a)),Td (.a (.v b))=>match uD P f.type a b,i8 P xs ys fs with
   |some p,some q=>Td (p&&q)
   |_,_=>Te
  |_,_=>Te
def vY(P:Program)(o:Oper)(ρ:Operand->Option AV):Option Bool:=match o.op with
 |.binOp .eql t x y _=>match ρ x,ρ y with
  |some (.g (.agg xs)),Td (.g (.agg ys))=>match P.underlying t with
   |some (.struct _)=>bif P.stoodInHeld t then Te else bif P.eqGuardType P.depth t then Te else i8 P xs ys (P.fieldsOf t).toList
   |_=>Te
  |_,_=>Te
 |.binOp .neq t x y _=>match ρ x,ρ y with
  |some (.g (.agg xs)),Td (.g (.agg ys))=>match P.underlying t with
   |some (.struct _)=>bif P.stoodInHeld t then Te else bif P.eqGuardType P.depth t then Te else(match i8 P xs ys (P.fieldsOf t).toList with
    |some b=>Td (!b)
    |none=>Te)
   |_=>Te
  |_,_=>Te
 |_=>Te
theorem FV{a b:Value}{r:Bool}(h:uD P t a b=Td r)(d:Nat)(w:World):(Op.equalIn (d+1) t a b).run P w=.ok r w:=by unfold uD at h;grind [Ud,run_equalIn_int,run_equalIn_string,run_equalIn_bool']
theorem EO{P:Program}{γ:Gh}{xs ys:List AA}{us vs:List Value}(o:All2 (DenA γ) xs us)(n:All2 (DenA γ) ys vs)(d:Nat)(h:zb):∀(c:List Field) (b:Bool),i8 P xs ys c=Td b->QExec P (Op.eqFields (d+1) us.toArray vs.toArray c) h b
 |[],b,hb=>by simp only[i8,Ud]at hb;subst hb;exact QExec.pure _
 |f::c,b,hb=>by
  unfold i8 at hb;split at hb;cases hb;rename_i z;split at hb;rename_i a s l i;split at hb;rename_i p q x t;simp only[Ud]at hb;subst hb;obtain⟨u,C,r⟩:=uG l o h;obtain⟨y,w,A⟩:=uG i n h;have m:u=a:=C;have e:y=s:=w;subst m;subst e;intro B k;unfold Op.eqFields;rw[zA (by exact z)];rw[Sem.run_bind,r B k];simp only[Result.andThen_ok];rw[Sem.run_bind,A B k];simp only[Result.andThen_ok];rw[Sem.run_bind,FV x d];simp only[Result.andThen_ok];cases p with
  |false=>rfl
  |true=>simpa using EO o n d h c q t B k
  cases hb;cases hb
theorem GX{ρ:Operand->Option AV}(H:vY P o ρ=Td b)(l:∀x av,ρ x=Td av->DenV γ av (σ x))(h:zb):QExec P (execOp σ o) h (.value (.bool b)):=by
 have key:∀{t:TypeId} {xs ys:List AA} {us vs:List Value} {k:Array Field} {b:Bool},P.underlying t=Td (.struct k)->P.stoodInHeld t=Tc->All2 (DenA γ) xs us->All2 (DenA γ) ys vs->i8 P xs ys (P.fieldsOf t).toList=Td b->QExec P (Op.equalIn 10000 t (.agg us.toArray) (.agg vs.toArray)) h b:=by
  intro t xs ys us vs k b e c i f w B d;have u:P.underlying t=Td (.struct (P.fieldsOf t)):=by rw[e];simp[Program.fieldsOf,e]
  rw[run_equalIn_struct _ 9999 t us.toArray vs.toArray u c];exact EO i f 9998 h _ b w B d
 unfold vY at H;split at H;rename_i t x y z m;split at H;rename_i xs ys i f;split at H;rename_i k e;cases c:P.stoodInHeld t with
 |true=>simp_all
 |false=>
  cases hg:P.eqGuardType P.depth t with
  |true=>simp_all
  |false=>rw[c,hg]at H;obtain⟨us,q,r⟩:=l _ _ i;obtain⟨vs,s,d2⟩:=l _ _ f;have n:=key e c r d2 H;simp only[execOp,m,q,s];refine QExec.val λB d=>?_;rw[Sem.run_bind,run_eqGuard_agg _ _ _ _ _ _ _ hg];simp only[Result.andThen_ok];rw[run_eql_struct,n B d];rfl
 cases H;cases H;rename_i t x y z m;split at H;rename_i xs ys i f;split at H;rename_i k e;cases c:P.stoodInHeld t with
 |true=>simp_all
 |false=>
  cases hg:P.eqGuardType P.depth t with
  |true=>simp_all
  |false=>rw[c,hg]at H;simp only[zH]at H;split at H;rename_i A p;simp only[Ud]at H;subst H;obtain⟨us,q,r⟩:=l _ _ i;obtain⟨vs,s,d2⟩:=l _ _ f;have n:=key e c r d2 p;simp only[execOp,m,q,s];refine QExec.val λB d=>?_;rw[Sem.run_bind,run_eqGuard_agg _ _ _ _ _ _ _ hg];simp only[Result.andThen_ok];rw[run_neq_struct,n B d];rfl;cases H
 cases H;cases H;cases H
def uo(P:Program)(o:Oper)(ρ:Operand->Option AV)(g:Option Bool)(cs:CS)(K:AV->Prop):Prop:=
 bif (bif hC o then(bif gW P o then(bif Wh o.op then jF ρ o.op.operands.toList else Tc)else Tc)else Tc)then X4 P o (nH ρ) g #[] (λv=>K (jZ v))else
 match o.op with
 |.move x=>match ρ x with
  |some av=>K av
  |none=>False
 |.assign x=>match ρ x with
  |some av=>K av
  |none=>False
 |.extract x i=>match ρ x with
  |some (.tup l)=>match l[i]? with
   |some ag=>K (.g ag)
   |none=>False
  |some (.nx b p c)=>match i with
   |0=>K (.g (.a (.v (.bool b))))
   |1=>req g (b=Ta)/\K (.g (.a (.v (.int .i64 p))))
   |2=>req g (b=Ta)/\K (.g (.a (.v (.int .i32 c))))
   |_=>False
  |_=>False
 |.field t x f=>match ρ x,lx P t f with
  |some (.g (.agg l)),Td (k,ty)=>match ng P ty l k with
   |some ag=>K (.g ag)
   |none=>False
  |_,_=>False
 |.fieldAddr t x f=>match ρ x,lx P t f with
  |some (.g (.a aa)),Td (k,_)=>match ni k aa with
   |some h=>K (.g (.a h))
   |none=>False
  |_,_=>False
 |.load t x=>match ρ x with
  |some (.g (.a aa))=>kD P cs t aa g K
  |_=>False
 |.indexAddr t x i=>match ρ x,ρ i with
  |some (.g (.a aa)),some iv=>match nq iv with
   |some n=>uj P cs t aa n g K
   |none=>False
  |_,_=>False
 |.slice t x lo hi mx=>match ρ x with
  |some (.g (.a aa))=>vH P cs ρ t aa lo hi mx g K
  |_=>False
 |.nilCheck x=>match ρ x with
  |some (.g (.a aa))=>match ni 0 aa with
   |some _=>K (.g (.a aa))
   |none=>False
  |_=>False
 |.build t e=>match iI ρ e.toList with
  |some ps=>match vB P t ps with
   |some r=>K (.g (.agg r))
   |none=>False
  |none=>False
 |.call c=>match c.callee with
  |.builtin .len=>match c.args.toList,c.argTypes.toList with
   |[x],[t]=>match ρ x,P.underlying t with
    |some (.g (.a (.v (.string s)))),Td .string=>K (.g (.a (.v (.int .i64 (s.size:Int)))))
    |some (.g (.a (.v (.slice _ n _)))),Td (.slice _)=>K (.g (.a (.v (.int .i64 (n:Int)))))
    |some (.g (.a aa)),Td (.slice _)=>match qJ cs aa with
     |some n=>K (.g (.a (.v (.int .i64 (n:Int)))))
     |none=>False
    |_,_=>False
   |_,_=>False
  |_=>False
 |_=>False
theorem TW{ρ:Operand->Option AV}{K:AV->Prop}(H:uo P o ρ g cs K):
  ∃av,K av/\(da g->∀γ h σ,Inv h0 W M0 cs γ h->(∀x av,ρ x=Td av->DenV γ av (σ x))->∃v,DenV γ av v/\QExec P (execOp σ o) h (.value v)):=by
 unfold uo at H;cases hb:(bif hC o then(bif gW P o then(bif Wh o.op then jF ρ o.op.operands.toList else Tc)else Tc)else Tc)with
 |true=>
  rw[hb]at H;cases hfam:hC o with
  |false=>simp_all
  |true=>
   cases y:gW P o with
   |false=>simp_all
   |true=>
    cases hns:Wh o.op with
    |false=>simp_all
    |true=>rw[hfam,y,hns]at hb;simp only[zG]at hb H;obtain⟨v,h1,h2⟩:=v6 hfam H;refine⟨_,h1,λA γ h σ I q=>⟨v,mU γ v,?_⟩⟩;rw[TJ q hns hb];exact h2 A h ⟨by simp,λi hi=>absurd hi (by simp)⟩
 |false=>
  rw[hb]at H;simp only[zH]at H;have val:∀{s:Sem Value} {h:zb} {v:Value},QExec P s h v->QExec P (s >>= λx=>(XM (XQ x):Sem Next)) h (.value v):=λy=>QExec.val y;split at H;rename_i x w;split at H;rename_i av m;exact⟨av,H,λ_ γ h σ I q=>⟨_,q _ _ m,by simp only[execOp,w];exact QExec.pure _⟩⟩;exact H.elim;rename_i x w;split at H;rename_i av m;exact⟨av,H,λ_ γ h σ I q=>⟨_,q _ _ m,by simp only[execOp,w];exact QExec.pure _⟩⟩;exact H.elim;rename_i x i w;split at H;rename_i l m;split at H;rename_i ag G;refine⟨_,H,λ_ γ h σ I q=>?_⟩;obtain⟨us,e,h2⟩:=q _ _ m;obtain⟨u,E,z⟩:=h2.get G;refine⟨u,z,?_⟩;simp only[execOp,w,e];refine val λB d=>?_;unfold Instr.extract;simp[E];exact H.elim;rename_i b p c m;split at H;refine⟨_,H,λ_ γ h σ I q=>⟨_,rfl,?_⟩⟩;obtain⟨Q,e2⟩:=q _ _ m;simp only[execOp,w];refine val λB d=>?_;cases b with
  |true=>rw[Q rfl];rfl
  |false=>rw[e2 rfl];rfl
  refine⟨_,H.2,λA γ h σ I q=>⟨_,rfl,?_⟩⟩;obtain⟨Q,_⟩:=q _ _ m;simp only[execOp,w,Q (H.1.out A)];exact val λB d=>rfl;refine⟨_,H.2,λA γ h σ I q=>⟨_,rfl,?_⟩⟩;obtain⟨Q,_⟩:=q _ _ m;simp only[execOp,w,Q (H.1.out A)];exact val λB d=>rfl;exact H.elim;exact H.elim;rename_i t x f w;split at H;rename_i l k ty m C;split at H;rename_i ag G;refine⟨_,H,λ_ γ h σ I q=>?_⟩;obtain⟨us,e,h2⟩:=q _ _ m;obtain⟨v,z,y⟩:=uG G h2 h;refine⟨v,z,?_⟩;simp only[execOp,w,e];refine val λB d=>?_;unfold lx at C;split at C;rename_i fs E;split at C;rename_i fl U;split at C;rename_i i hi;cases hz:Nat.beq i.size 0 with
  |true=>simp_all
  |false=>rw[hz]at C;simp only[zH,Ud,Vg]at C;obtain⟨rfl,rfl⟩:=C;have S:=QExec.underlying (h:=h) E B d;unfold Instr.field;rw[Sem.run_bind,S];simp only[Result.andThen_ok,U,asAgg,Sem.run_bind,Sem.run_pure];exact y B d
  cases C;cases C;cases C;exact H.elim;exact H.elim;rename_i t x f w;split at H;rename_i O k ty m C;split at H;rename_i ae L;refine⟨_,H,λ_ γ h σ I q=>?_⟩;obtain⟨b,o',e,z⟩:=Dm L (q _ _ m);refine⟨_,z,?_⟩;simp only[execOp,w];simp_all[OA];exact H.elim;exact H.elim;rename_i t x w;split at H;rename_i O m;obtain⟨av,h1,h2⟩:=Bf (h0:=h0) (W:=W) (M0:=M0) H;refine⟨av,h1,λA γ h σ I q=>?_⟩;obtain⟨v,z,y⟩:=h2 A γ h _ I (q _ _ m);refine⟨v,z,?_⟩;simp only[execOp,w];exact val y;exact H.elim;rename_i t x i w;split at H;rename_i O iv m V;split at H;rename_i n Y;obtain⟨av,h1,h2⟩:=Oy (h0:=h0) (W:=W) (M0:=M0) H;refine⟨av,h1,λA γ h σ I q=>?_⟩;obtain⟨k,e⟩:=D8 Y (q _ _ V);obtain⟨v,z,y⟩:=h2 A γ h _ k I (q _ _ m);refine⟨v,z,?_⟩;simp only[execOp,w];simp_all;exact H.elim;exact H.elim;rename_i t x lo hi mx w;split at H;rename_i O m;obtain⟨av,h1,h2⟩:=Kn (h0:=h0) (W:=W) (M0:=M0) H;refine⟨av,h1,λA γ h σ I q=>?_⟩;obtain⟨v,z,y⟩:=h2 A γ h _ σ I q (q _ _ m);refine⟨v,z,?_⟩;simp only[execOp,w];exact val y;exact H.elim;rename_i x w;split at H;rename_i O m;split at H;rename_i ae L;refine⟨_,H,λ_ γ h σ I q=>?_⟩;obtain⟨b,o',e,z⟩:=Dm L (q _ _ m);have ab:=q _ _ m;refine⟨σ x,ab,?_⟩;simp only[execOp,w];rw[e];exact QExec.pure _;exact H.elim;exact H.elim;rename_i t D w;split at H;rename_i ps Z;split at H;rename_i r hr;refine⟨_,H,λ_ γ h σ I q=>?_⟩;obtain⟨ws,y,z⟩:=Gw hr (vh q Z) h;refine⟨.agg ws.toArray,⟨ws,rfl,z⟩,?_⟩;simp only[execOp,w];have e:(D.map λx=>(x.1,σ x.2))=(D.toList.map λx=>(x.1,σ x.2)).toArray:=by rw[<-Array.toList_map]
  simp_all;exact H.elim;exact H.elim;rename_i c w;split at H;rename_i hc;split at H;rename_i x t J N;have F:c.args=#[x]:=by have:=congrArg List.toArray J;simp at this;exact this
  have M:c.argTypes=#[t]:=by have:=congrArg List.toArray N;simp at this;exact this
  have key:∀(σ:Operand->Value) (h:zb) (n:Int),(QExec P (WF #[t] o.type #[σ x]) h (.int .i64 n))->QExec P (execOp σ o) h (.value (.int .i64 n)):=by
   intro σ h n y;have e:execOp σ o=(WF c.argTypes o.type (c.args.map σ) >>= λx=>(XM (XQ x):Sem Next)):=by simp only[execOp,w,resolve,hc];rfl
   rw[e,F,M];refine val ?_;simpa using y
  split at H;rename_i s m E;refine⟨_,H,λ_ γ h σ I q=>⟨_,rfl,key σ h _ λB d=>?_⟩⟩;have y:=QExec.underlying (h:=h) E B d;have e:σ x=.string s:=q _ _ m;unfold WF;simp only[List.getElem?_toArray,List.getElem?_cons_zero,e,Sem.run_bind,y,Result.andThen_ok,Sem.run_pure];rfl;rename_i a n cp el m E;refine⟨_,H,λ_ γ h σ I q=>⟨_,rfl,key σ h _ λB d=>?_⟩⟩;have y:=QExec.underlying (h:=h) E B d;have e:σ x=.slice a n cp:=q _ _ m;unfold WF;simp only[List.getElem?_toArray,List.getElem?_cons_zero,e,Sem.run_bind,y,Result.andThen_ok,Sem.run_pure];rfl;rename_i O el _ _ m E;split at H;rename_i n Y;refine⟨_,H,λ_ γ h σ I q=>⟨_,rfl,key σ h _ λB d=>?_⟩⟩;have y:=QExec.underlying (h:=h) E B d;obtain⟨a,cp,e⟩:=MH I Y (q _ _ m);unfold WF;simp only[List.getElem?_toArray,List.getElem?_cons_zero,e,Sem.run_bind,y,Result.andThen_ok,Sem.run_pure];rfl;exact H.elim;exact H.elim;exact H.elim;exact H.elim;exact H.elim
def sG(P:Program)(o:Oper)(ρ:Operand->Option AV):Option Bool:=match o.op with
 |.binOp op t x (.const .nilIface) _=>match ρ x,ρ (.const .nilIface),P.underlying t with
  |some (.g (.a (.d .err b))),Td (.g (.a (.v .nilIface))),Td (.interface _)=>match op with
   |.eql=>Td b
   |.neq=>Td (!b)
   |_=>Te
  |_,_,_=>Te
 |_=>Te
theorem LR{ρ:Operand->Option AV}(H:sG P o ρ=Td b)(p:∀x av,ρ x=Td av->DenV γ av (σ x))(h:zb):QExec P (execOp σ o) h (.value (.bool b)):=by
 have key:∀{t:TypeId} {ms:Array (String×TypeId)} {b:Bool} {u:Value},P.underlying t=Td (.interface ms)->((b=Ta/\u=.nilIface)\/(b=Tc/\∃t l,u=.iface t l))->QExec P (YP t u .nilIface) h b:=by intro t ms b u m i B d;have q:=QExec.underlying (h:=h) m B d;unfold YP Op.maxDepth;rcases i with⟨rfl,rfl⟩|⟨rfl,t',l,rfl⟩;unfold Op.equalIn;rw[Sem.run_bind,q];rfl;unfold Op.equalIn;rw[Sem.run_bind,q];rfl
 unfold sG at H;split at H;rename_i c t x C r;split at H;rename_i b0 ms y s m;have z:σ (.const .nilIface)=.nilIface:=p _ _ s;obtain⟨u,e,i⟩:=(show Rd γ.M .err b0 [σ x]from p _ _ y);have A:u=σ x:=by simpa using e.symm
 subst A;have n:=key m i;have w:∀c,QExec P (eqGuard c t x (.const .nilIface) (σ x) .nilIface) h ():=by intro c B d;unfold eqGuard;rcases i with⟨_,k⟩|⟨_,t',l,k⟩;simp_all;simp_all
 have f:∀c,(binOp c t (σ x) .nilIface=match c with | .eql=>(do pure (.bool (<-YP t (σ x) .nilIface))) | .neq=>(do pure (.bool (!(<-YP t (σ x) .nilIface))))|_=>binOp c t (σ x) .nilIface):=by intro c;rcases i with⟨_,k⟩|⟨_,t',l,k⟩;rw[k];cases c <;> rfl;rw[k];cases c <;> rfl
 simp only[execOp,r,z];refine QExec.val ((w c).bind ?_);split at H;simp only[Ud]at H;subst H;rw[f];exact n.bind (QExec.pure _);simp only[Ud]at H;subst H;rw[f];exact n.bind (QExec.pure _);cases H;cases H;cases H
def DO(o:Oper)(ρ:Operand->Option AV):Option (TypeId×Nat×Nat):=match o.op with
 |.load t x=>match ρ x with
  |some (.g (.a (.v (.pointer (Td ⟨b,off,Te⟩)))))=>Td (t,b,off)
  |_=>Te
 |_=>Te
def ls(gl:Fr)(b off:Nat)(v:Value):Prop:=∃cs,gl b=Td cs/\cs[off]?=Td v
def kn(gl:Fr)(b:Nat)(g:Option Bool):List Atom->Nat->(List AA->Prop)->Prop
 |[],_,K=>K []
 |.int k::l,o,K=>∃x:Int,req g (ls gl b o (.int k x))/\kn gl b g l (o+1) λr=>K (.v (.int k x)::r)
 |.str::l,o,K=>∃x:Bt,req g (ls gl b o (.string x))/\kn gl b g l (o+1) λr=>K (.v (.string x)::r)
 |.bool::l,o,K=>∃x:Bool,req g (ls gl b o (.bool x))/\kn gl b g l (o+1) λr=>K (.v (.bool x)::r)
 |_::_,_,_=>False
theorem Z7{gl:Fr}{b:Nat}{g:Option Bool}:∀{l:List Atom} {o:Nat} {K:List AA->Prop},kn gl b g l o K->∃vs:List Value,vs.length=l.length/\K (vs.map .v)/\(da g->∀(j:Nat) (v:Value),vs[j]?=Td v->ls gl b (o+j) v)
 |[],o,K,H=>⟨[],rfl,H,λ_ j v h=>by simp at h⟩
 |.int k::l,o,K,⟨x,h1,h2⟩=>by
  obtain⟨vs,e,i,m⟩:=Z7 h2;refine⟨.int k x::vs,by simp[e],i,λf j v c=>?_⟩;cases j with
  |zero=>simp at c;subst c;exact h1.out f
  |succ j=>grind
 |.str::l,o,K,⟨x,h1,h2⟩=>by
  obtain⟨vs,e,i,m⟩:=Z7 h2;refine⟨.string x::vs,by simp[e],i,λf j v c=>?_⟩;cases j with
  |zero=>simp at c;subst c;exact h1.out f
  |succ j=>grind
 |.bool::l,o,K,⟨x,h1,h2⟩=>by
  obtain⟨vs,e,i,m⟩:=Z7 h2;refine⟨.bool x::vs,by simp[e],i,λf j v c=>?_⟩;cases j with
  |zero=>simp at c;subst c;exact h1.out f
  |succ j=>grind
 |.sl::_,_,_,H=>H.elim
 |.mp::_,_,_,H=>H.elim
 |.ptr::_,_,_,H=>H.elim
 |.raw::_,_,_,H=>H.elim
def Bu(P:Program)(gl:Fr)(t:TypeId)(b off:Nat)(g:Option Bool)(K:AV->Prop):Prop:=match fB P t with
 |some (.one a)=>kn gl b g [a] off λr=>match r with
  |[x]=>K (.g (.a x))
  |_=>False
 |some (.agg l)=>kn gl b g l off λr=>K (.g (.agg r))
 |none=>False
def DU(P:Program)(o:Oper)(ρ:Operand->Option AV):Option (Nat×Nat×Int×Nat×Nat):=match o.op with
 |.indexAddr t x i=>match ρ x,ρ i,P.underlying t with
  |some (.g (.a (.v (.pointer (Td ⟨b,off,Te⟩))))),Td (.g (.a (.v (.int _ n)))),Td (.array len el)=>bif qj P el then Td (b,off,n,len,jg P el)else Te
  |_,_,_=>Te
 |_=>Te
def qA(P:Program)(gl:Fr)(o:Oper)(ρ:Operand->Option AV)(g:Option Bool)(cs:CS)(K:AV->Prop):Prop:=match vY P o ρ with
 |some b=>K (.g (.a (.v (.bool b))))
 |none=>match sG P o ρ with
  |some b=>K (.g (.a (.v (.bool b))))
  |none=>match DO o ρ with
   |some (t,b,off)=>Bu P gl t b off g K
   |none=>match DU P o ρ with
    |some (b,off,n,len,z)=>req g (0<=n/\n<(len:Int))/\K (.g (.a (.v (.pointer (Td ⟨b,off+n.toNat*z,Te⟩)))))
    |none=>uo P o ρ g cs K
theorem oy{gl:Fr}(M:Fr.le gl M0){ρ:Operand->Option AV}{K:AV->Prop}(H:qA P gl o ρ g cs K):
  ∃av,K av/\(da g->∀γ h σ,Inv h0 W M0 cs γ h->(∀x av,ρ x=Td av->DenV γ av (σ x))->∃v,DenV γ av v/\QExec P (execOp σ o) h (.value v)):=by
 unfold qA at H;split at H;rename_i b A;exact⟨_,H,λ_ γ h σ _ f=>⟨_,rfl,GX A f h⟩⟩;split at H;rename_i b A;exact⟨_,H,λ_ γ h σ _ f=>⟨_,rfl,LR A f h⟩⟩;split at H;rename_i t b off e;unfold DO at e;split at e;rename_i t' x E;split at e;rename_i p c G;simp only[Ud,Vg]at e;obtain⟨rfl,rfl,rfl⟩:=e;have key:∀{s:Option Nat} {vs:List Value} {ag:AG},fL P t'=Td s->vs.length=gk s->gL s (vs.map .v)=Td ag->(da g->∀(j:Nat) (v:Value),vs[j]?=Td v->ls gl p (c+j) v)->da g->∀γ h σ,Inv h0 W M0 cs γ h->(∀x av,ρ x=Td av->DenV γ av (σ x))->∃u,DenV γ (.g ag) u/\QExec P (execOp σ o) h (.value u):=by intro s vs ag Y Z V hc e γ h σ I f;have F:σ x=.pointer (Td ⟨p,c,Te⟩):=f _ _ G;obtain⟨u,O,C⟩:=ti (γ:=γ) Y (u:=σ x) (us:=vs) ⟨_,_,F,λj w U=>by obtain⟨cc,q,m⟩:=hc e j w U;exact I.ag.cell (I.le _ _ (M _ _ q)) m⟩ Z (Jp γ vs) V;exact⟨u,O,by simp only[execOp,E];exact QExec.val C⟩
 unfold Bu at H;split at H;rename_i a J;obtain⟨vs,q,m,r⟩:=Z7 H
 match vs,q,m,r with
 |[v],q,m,r=>exact⟨_,m,key (s:=Te) (by unfold fL;rw[J]) rfl rfl r⟩
 rename_i l J;obtain⟨vs,q,m,r⟩:=Z7 H;exact⟨_,m,key (s:=Td l.length) (by unfold fL;rw[J]) q rfl r⟩;exact H.elim;cases e;cases e;split at H;rename_i b off n len z e;unfold DU at e;split at e;rename_i t x i E;split at e;rename_i p c k y N el G hi F;cases hok:qj P el with
 |false=>simp_all
 |true=>rw[hok]at e;simp only[zG,Ud,Vg]at e;obtain⟨rfl,rfl,rfl,rfl,rfl⟩:=e;refine⟨_,H.2,λD γ h σ I f=>⟨_,rfl,?_⟩⟩;have B:σ x=.pointer (Td ⟨p,c,Te⟩):=f _ _ G;have L:σ i=.int k y:=f _ _ hi;obtain⟨h1,h2⟩:=H.1.out D;obtain⟨v,rfl,C⟩:=Z5 (P:=P) (t:=t) (x:=.pointer (Td ⟨p,c,Te⟩)) (i:=.int k y) (g:=Te) (K:=λv=>v=.pointer (Td (Ua ⟨p,c,Te⟩ (y.toNat*jg P el)))) (λS Q=>by simp_all[wh]) (by unfold l9;rw[F];exact⟨_,⟨rfl,h1,h2⟩,rfl⟩);have:=C trivial h;rw[zj]at this;simp only[execOp,E,B,L];exact QExec.val this
 cases e;cases e;exact TW H
end
end
end Go.X
