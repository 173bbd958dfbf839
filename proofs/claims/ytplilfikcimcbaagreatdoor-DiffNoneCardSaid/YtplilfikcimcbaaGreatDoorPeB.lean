/- A part of the proof: nothing is stated here for its own sake. -/
import Derived.Test.YtplilfikcimcbaaGreatDoorPeA
import Derived.Deep.AppendSrc
import Derived.ProofKit
import Derived.OpenShut
import Derived.ShutString
import Derived.SizedLaws
import Derived.LaidSub
import Derived.Lib.LaidU8
import Derived.Test.YtplilfikcimcbaaGreatDoorProg
import Derived.Shelf.Strings.Trim
import Derived.Shelf.Small.Bits
import Derived.Shelf.Small.Wraps
import Derived.Shelf.Strings.BuilderRune
import Derived.Shelf.Utf8.AppendRune
import Derived.Shelf.Utf8.AppendRunePlain
import Derived.Shelf.Strconv.Itoa3
import Derived.Shelf.Strconv.AtoiErr
import Derived.Shelf.Strconv.ErrVarAll
import Derived.Shelf.Strconv.ErrVarParseInt
import Derived.Shelf.Pu.ParseUintPublic10
import Derived.Shelf.Sort.Plain
import Derived.Shelf.Unicode.Decode
import Derived.Shelf.Strings.IndexAnyAll
import Derived.Shelf.Strings.Repeat
import Derived.Shelf.Unicode.DecodeLast
import Derived.Shelf.Strings.BuilderCap
import Derived.Shelf.Slices.Turned
import Derived.Shelf.Slices.Clone
import Derived.Shelf.Slices.In.SortNone
import Derived.Shelf.SlicesE.Clone
import Derived.Shelf.Utf8.RuneCount
import Derived.Shelf.Strings.Shaped
import Derived.Shelf.Strings.SplitShaped
import Derived.Shelf.Strings.RuneCount
import Derived.Shelf.Slices.Cells
import Derived.Shelf.Slices.Empties
import Derived.Shelf.Unicode.ValidAny
open _root_.Go.Addr renaming add->Ue
open _root_.Array renaming getD_eq_getD_getElem?->Vh,getElem?_append_left->VU,getElem?_eq_getElem->Vn,getElem?_eq_some_iff->Uu,getElem?_toList->U2,replicate->VZ,size->Uw,size_push->Uh,toList->VW
open _root_.BitVec renaming ofInt->Vp
open _root_.Bool renaming and_eq_true->Uq,and_true->XV,eq_iff_iff->UR,false_eq_true->Vm,or_eq_true->WU,true_and->Vz
open _root_.Go.Builtin renaming append_->Us,firstCells->VQ
open _root_.Go.Code renaming cond->XS,region->YA
open _root_.Go.Deferred renaming ofValue->XG
open _root_.Go.Instr renaming next->WE,range->XQ,storeAt->Uj,sureAddr->WZ
open _root_.Int renaming toNat_natCast->Ui
open _root_.Go.IntKind renaming bits->U7,signed->XZ,wrap->Ud
open _root_.List renaming all_append->WV,all_cons->WC,all_eq_true->UI,append_assoc->UK,append_eq_nil_iff->WB,append_nil->Vg,cons_append->U8,drop_drop->XB,drop_eq_getElem_cons->U6,drop_eq_nil_of_le->VV,drop_zero->WH,eq_nil_of_length_eq_zero->UN,exists_cons_of_ne_nil->VI,ext_getElem?->U1,flatMap_cons->Vq,getD_eq_getElem?_getD->Ux,getElem?_drop->Vd,getElem?_eq_getElem->Ul,getElem?_eq_none->U5,getElem?_eq_some_iff->UV,getElem?_map->Vk,getElem?_take->UU,getElem_map->VM,getElem_mem->Ur,length->Vi,length_append->Uk,length_cons->Uz,length_drop->Vu,length_map->Um,length_nil->Vb,length_pos_iff->Vt,length_replicate->V2,length_singleton->Vs,length_take->Ve,mapM_cons->XR,map_cons->UJ,mem_append->Uo,mem_append_left->Uv,mem_append_right->UH,mem_cons->Up,mem_cons_of_mem->UG,mem_cons_self->UF,mem_flatMap->Vy,mem_map->UD,mem_of_mem_take->XD,mem_range->UT,nil_append->Vw,pairwise_append->WN,pairwise_cons->VB,range->UO,replicate->Vx,take_append_drop->Vr,take_length->UE,take_of_length_le->Vv,take_succ_cons->WO,take_succ_eq_append_getElem->Un
open _root_.List.cons renaming injEq->VY
open _root_.Nat renaming add_mul->VH,add_zero->XH,blt_eq->XT,eq_of_beq_eq_true->UC,eq_zero_or_pos->WR,le_of_ble_eq_true->VE,le_refl->Uf,le_trans->Vj,lt_of_lt_of_le->VP,lt_or_ge->Va,mul_comm->WS,mul_le_mul_right->UM,mul_one->U4,not_lt_zero->VJ,one_mul->XW,zero_add->Uy,zero_le->UB
open _root_.Go.Next renaming value->WY
open _root_.Go.Op renaming bytesLess->V9
open _root_.Option renaming bind_some->VK,map_eq_some_iff->VL
open _root_.Option.some renaming inj->UQ,injEq->Ug
open _root_.Prod.mk renaming injEq->Vl
open _root_.Pure renaming pure->WW
open _root_.Go.Proofs.Tryz renaming prog->US,underlying5->XI
open _root_.UInt8 renaming ofNat->V0
open _root_.Go.Utf8 renaming decode->YB
open _root_.Go.Value renaming int->Vo,string->UA
open _root_.Go.Value.slice renaming injEq->UY
set_option linter.unusedVariables false
set_option maxRecDepth 100000
namespace Go.X
end Go.X
namespace Go.Proofs
end Go.Proofs
open Go Go.X Go.Proofs
open _root_.Bool renaming true->Ta,false->Tc
open _root_.Option renaming some->Td,none->Te
section
namespace Go.X
section
variable {M gl:Fr} {u:Value} {P:Program} {f:FuncId} {γ:Gh} {cs C R:CS} {o:Oper} {σ:Operand -> Value} {h:zc} {tr:TypeId}
variable {h0 : zc} {W : Nat -> Prop} {M0 : Fr}
def Wo:Ty->Bool
 |.tree=>Ta
 |.unit=>Ta
 |.pair _ _=>Ta
 |_=>Tc
def RdV(M:Fr)(t:Ty)(x:El t)(u:Value):Prop:=if Wo t=Ta then ∃cs:List Value,u=.agg cs.toArray/\Rd M t x cs else Rd M t x [u]
theorem RdV.mono{M M':Fr}(c:Fr.le M M'){t:Ty}{x:El t}(h:RdV M t x u):RdV M' t x u:=by unfold RdV at *;by_cases b:Wo t=Ta;rw[zA b]at *;grind [Rd.mono];rw[zv b]at *;exact Rd.mono c h
structure Arg where
 t:Ty
 x:El t
def Wp(M:Fr)(l:List Arg)(vs:List Value):Prop:=All2 (λ(a:Arg) u=>RdV M a.t a.x u) l vs
@[reducible] def hG:List Ty->Type
 |[]=>Unit
 |[t]=>El t
 |t::t'::l=>El t×hG (t'::l)
def AN:(l:List Ty)->hG l
 |[]=>()
 |[t]=>oR t
 |t::t'::l=>(oR t,AN (t'::l))
def tJ(M:Fr):(l:List Ty)->hG l->List Value->Prop
 |[],_,us=>us=[]
 |[t],x,us=>∃u,us=[u]/\RdV M t x u
 |t::t'::l,x,us=>∃u b,us=u::b/\RdV M t x.1 u/\tJ M (t'::l) x.2 b
def Q5(M:Fr)(l:List Ty)(x:hG l)(v:Value):Prop:=∃us,tJ M l x us/\v=kE us
def PC(P:Program)(gl:Fr)(f:FuncId)(args:List Arg)(c:List Ty)(R:hG c->Prop):Prop:=
 ∀(h:zc) (M:Fr) (vs:List Value),Fr.le gl M->AgM M h->Wp M args vs->XC P f vs.toArray h λv h'=>
  Keep h.size h h'/\∃M' r,Fr.le M M'/\(∀b,b<h.size->M' b=M b)/\AgM M' h'/\Q5 M' c r v/\R r
theorem PC.mono{args:List Arg}{b:List Ty}{R c:hG b->Prop}(H:PC P gl f args b R)(o:∀r,R r->c r):PC P gl f args b c:= λh M vs h1 i j=>(H h M vs h1 i j).mono λv h' ⟨k,M',r,l,p,m,n,e⟩=>⟨k,M',r,l,p,m,n,o r e⟩
theorem RdV.bd{t:Ty}{x:El t}(h:RdV M t x u):Bd t x:=by unfold RdV at h;split at h;obtain⟨cs,_,h⟩:=h;exact h.bd;exact h.bd
theorem PC.bd{args:List Arg}{e:List Ty}{R:hG e->Prop}(H:(∀a∈args,Bd a.t a.x)->PC P gl f args e R):PC P gl f args e R:=by
 intro h M vs h1 j c;refine H ?_ h M vs h1 j c;clear H h1 j;induction args generalizing vs with
 |nil=>simp
 |cons a args k=>
  cases vs with
  |nil=>exact c.elim
  |cons u us=>intro b i;rcases Up.1 i with rfl|i;exact RdV.bd c.1;exact k us c.2 b i
def qT(t:Ty)(x:El t):AG:=bif Wo t then .agg (Yf t x)else(match Yf t x with
 |[y]=>.a y
 |l=>.agg l)
theorem x5{t:Ty}{x:El t}(h:RdV γ.M t x u):DenG γ (qT t x) u:=by
 unfold RdV at h;unfold qT;split at h;rename_i c;rw[c];obtain⟨cs,e,h⟩:=h;exact⟨cs,e,wo h⟩;rename_i c;have f:Wo t=Tc:=by simpa using c
 rw[f];simp only[zL];have b:=wo (γ:=γ) h
 match hx:Yf t x,b with
 |[y],b=>exact b.1
 |[],b=>exact b.elim
 |_::_::_,b=>exact b.2.elim
def r9:(l:List Ty)->hG l->List AG
 |[],_=>[]
 |[t],x=>[qT t x]
 |t::t'::l,x=>qT t x.1::r9 (t'::l) x.2
theorem CF{γ:Gh}:∀{l:List Ty} {x:hG l} {us:List Value},tJ γ.M l x us->All2 (DenG γ) (r9 l x) us
 |[],_,_,h=>by rw[h];trivial
 |[_],_,_,⟨u,e,h⟩=>by rw[e];exact⟨x5 h,trivial⟩
 |_::_::_,_,_,⟨u,us,e,h,h'⟩=>by rw[e];exact⟨x5 h,CF h'⟩
def oX(l:List Ty)(x:hG l):AV:=match r9 l x with
 |[g]=>.g g
 |gs=>.tup gs
theorem Rr{l:List Ty}{x:hG l}{v:Value}(h:Q5 γ.M l x v):DenV γ (oX l x) v:=by
 obtain⟨us,h,rfl⟩:=h;have b:=CF (γ:=γ) h;unfold oX;generalize r9 l x=gs at *
 match gs,us,b with
 |[],[],_=>exact⟨[],rfl,trivial⟩
 |[g],[u],b=>exact b.1
 |g::g'::gs,u::u'::us,b=>exact⟨_,rfl,b⟩
 |[],_::_,b=>exact b.elim
 |_::_,[],b=>exact b.elim
 |[_],_::_::_,b=>exact b.2.elim
 |_::_::_,[_],b=>exact b.2.elim
def q7(P:Program)(tr:TypeId):Nat->TypeId->Option Ty
 |0,_=>Te
 |n+1,t=>bif Nat.beq t tr then Td .tree else match P.underlying t with
  |some (.int k)=>Td (.int k)
  |some .bool=>Td .bool
  |some .string=>Td .str
  |some (.slice e)=>match q7 P tr n e with
   |some x=>Td (.row x)
   |none=>Te
  |some (.struct fs)=>tysOf P (λt=>q7 P tr n t) fs.toList
  |some (.interface _)=>Td .err
  |_=>Te
where tysOf (P:Program) (f:TypeId->Option Ty):List Field->Option Ty
 |[]=>Td .unit
 |[x]=>f x.type
 |x::y::l=>match f x.type,tysOf P f (y::l)with
  |some a,some b=>Td (.pair a b)
  |_,_=>Te
def uf(P:Program)(tr:TypeId):List TypeId->Option (List Ty)
 |[]=>Td []
 |t::l=>match q7 P tr 8 t,uf P tr l with
  |some a,some b=>Td (a::b)
  |_,_=>Te
def Eh:AA->List Nat
 |.own c=>[c]
 |_=>[]
def oE:List AA->List Nat
 |[]=>[]
 |x::l=>Eh x++oE l
def MJ:AV->List Nat
 |.g (.a x)=>Eh x
 |.g (.agg l)=>oE l
 |_=>[]
def Wq:List AV->List Nat
 |[]=>[]
 |v::l=>MJ v++Wq l
def frzL:List Nat->CS->CS
 |[],C=>C
 |c::l,C=>frzL l (mU c C)
theorem Inv.frzL{C R:CS}{γ:Gh}{h:zc}:∀(l:List Nat) {C:CS} {γ:Gh},Inv h0 W M0 (C++R) γ h->∃γ',Inv h0 W M0 (frzL l C++R) γ' h/\Gx Te γ γ'
 |[],C,γ,I=>⟨γ,I,Gx.refl _ _⟩
 |c::l,C,γ,I=>by obtain⟨j,f,g1⟩:=Inv.freeze c C [] I;obtain⟨b,e,g2⟩:=Inv.frzL (C:=C) (γ:=γ) l f;exact⟨b,e,g1.1.trans g2.1,λi hi=>⟨(g2.2 i hi).1.trans (g1.2 i hi).1,(g2.2 i hi).2.trans (g1.2 i hi).2⟩⟩
def qX(cs:CS)(t:Ty):AV->Option (El t)
 |.g (.agg l)=>bif Wo t then(match collect cs t l with
  |some (y,[])=>Td y
  |_=>Te)else Te
 |.g (.a x)=>bif Wo t then Te else kY cs t x
 |_=>Te
theorem uL(c:lu γ cs){t:Ty}{av:AV}{y:El t}(h:qX cs t av=Td y)(b:DenV γ av u):RdV γ.M t y u:=by
 unfold qX at h;unfold RdV;split at h;rename_i l;cases ha:Wo t with
 |false=>simp_all
 |true=>
  rw[ha]at h;simp only[zK]at h;split at h;rename_i m j;simp only[Ug]at h;subst h;obtain⟨us,e,f⟩:=b;obtain⟨c1,c2,rfl,k,i⟩:=Yh c j f;cases c2 with
  |nil=>simp_all
  |cons _ _=>exact i.elim
  cases h
 rename_i x;cases ha:Wo t with
 |true=>simp_all
 |false=>rw[ha]at h;simp only[Vm,if_false];exact ji c h b
 cases h
def jq(cs:CS):List Ty->List AV->Option (List Arg)
 |[],[]=>Td []
 |t::ts,v::vs=>match qX cs t v,jq cs ts vs with
  |some x,some l=>Td (⟨t,x⟩::l)
  |_,_=>Te
 |_,_=>Te
theorem Q1{γ:Gh}{cs:CS}(b:lu γ cs):∀{ts:List Ty} {vs:List AV} {l:List Arg},jq cs ts vs=Td l->∀{us:List Value},All2 (DenV γ) vs us->Wp γ.M l us
 |[],[],l,h,[],_=>by simp only[jq,Ug]at h;subst h;trivial
 |[],[],_,_,_::_,hd=>hd.elim
 |t::ts,v::vs,l,h,[],hd=>hd.elim
 |t::ts,v::vs,l,h,u::us,hd=>by simp only[jq]at h;split at h;rename_i x e h1 c;simp only[Ug]at h;subst h;exact⟨uL b h1 hd.1,Q1 b c hd.2⟩;cases h
 |[],_::_,_,h,_,_=>by simp[jq]at h
 |_::_,[],_,h,_,_=>by simp[jq]at h
def oc(ρ:Operand->Option AV):List Operand->Option (List AV)
 |[]=>Td []
 |x::l=>match ρ x,oc ρ l with
  |some v,some vs=>Td (v::vs)
  |_,_=>Te
theorem vL{γ:Gh}{ρ:Operand->Option AV}{σ:Operand->Value}(b:∀x av,ρ x=Td av->DenV γ av (σ x)):∀{l:List Operand} {vs:List AV},oc ρ l=Td vs->All2 (DenV γ) vs (l.map σ)
 |[],vs,h=>by simp only[oc,Ug]at h;subst h;trivial
 |x::l,vs,h=>by simp only[oc]at h;split at h;rename_i v e h1 c;simp only[Ug]at h;subst h;exact⟨b _ _ h1,vL b c⟩;cases h
def ExA(P:Program)(s:Sem Next)(h:zc)(Post:Value->zc->Prop):Prop:=∀B d,
 (∃v b h',s.run P (mk B d h)=.ok (.value v) (mk B b h')/\Post v h') \/
 (∃b h',s.run P (mk B d h)=.ok .skip (mk B b h')/\Post undef h') \/
 (∃f args,s.run P (mk B d h)=.ok (.enter f args) (mk B d h)/\XC P f args h Post)
theorem ExA.upon{Post:Value->zc->Prop}(H:ExA P (execOp σ o) h Post)(B:World)(d:Nat){a:Act}{next:Act->World->Prop}{Q:Exit->Act->World->Prop}
  (i:∀v c h',Post v h'->next (a.put o.dst v) (mk B c h')):o.upon P a next Q ((execOp σ o).run P (mk B d h)):=by
 rcases H B d with⟨v,c,h',e,b⟩|⟨c,h',e,b⟩|⟨f,args,e,j⟩;exact upon_value e (i _ _ _ b);exact upon_skip e (i _ _ _ b);rw[e];refine(j B d).mono ?_;simp_all
def jQ(h0:zc)(W:Nat->Prop)(M0:Fr)(R:CS)(γ:Gh)(K:AV->CS->Option Nat->Prop)(v:Value)(h':zc):Prop:=
 ∃av b c γ',K av b c/\DenV γ' av v/\Inv h0 W M0 (b++R) γ' h'/\Gx c γ γ'
theorem xT(b:Fr.le gl M0){ρ:Operand->Option AV}{K:AV->CS->Option Nat->Prop}(H:qA P gl o ρ Te (C++R) λav=>K av C Te)(I:Inv h0 W M0 (C++R) γ h)
  (f:∀x av,ρ x=Td av->DenV γ av (σ x)):ExA P (execOp σ o) h (jQ h0 W M0 R γ K):=by
 obtain⟨av,h1,i⟩:=sY (h0:=h0) (W:=W) (M0:=M0) b H;obtain⟨v,c,e⟩:=i trivial γ h σ I f;exact λB d=>.inl ⟨v,d,h,e B d,av,C,Te,γ,h1,c,I,Gx.refl _ _⟩
def sB:Operand->Option FuncId
 |.func f=>Td f
 |_=>Te
def CJ(P:Program)(tr:TypeId)(f:FuncId):Option (List Ty×List Ty):=match P.funcs[f]? with
 |some fn=>match uf P tr fn.params.toList,uf P tr fn.resultTypes.toList with
  |some a,some b=>Td (a,b)
  |_,_=>Te
 |none=>Te
def vM(P:Program)(gl:Fr)(tr:TypeId)(o:Oper)(ρ:Operand->Option AV)(C R:CS)(K:AV->CS->Prop):Prop:=
 match o.op with
 |.call c=>match c.callee with
  |.value x=>match sB x with
   |some f=>bif zk P f then(match CJ P tr f,oc ρ c.args.toList with
    |some (ts,rt),some vs=>match jq (frzL (Wq vs) C++R) ts vs with
     |some args=>PC P gl f args rt λr=>K (oX rt r) (frzL (Wq vs) C)
     |none=>False
    |_,_=>False)else False
   |none=>False
  |_=>False
 |_=>False
def vO(P:Program)(gl:Fr)(tr:TypeId)(o:Oper)(ρ:Operand->Option AV)(b:Bool)(cs:CS)(K:AV->Prop):Prop:=
 match o.op with
 |.call c=>match c.callee with
  |.value x=>match sB x with
   |some f=>bif zk P f then(match CJ P tr f,oc ρ c.args.toList with
    |some (ts,rt),some vs=>match jq cs ts vs with
     |some args=>∃J:hG rt->Prop,(b=Ta->PC P gl f args rt J)/\∀r,(b=Ta->J r)->K (oX rt r)
     |none=>False
    |_,_=>False)else False
   |none=>False
  |_=>False
 |_=>False
theorem BA{x:Operand}(h:sB x=Td f):x=.func f:=by unfold sB at h;grind
theorem Fw{c:Call}(e:o.op=.call c)(i:c.callee=.value (.func f))(b:zk P f=Ta)(h:σ (.func f)=.func (.func f) #[] #[])(w:World):
  (execOp σ o).run P w=.ok (.enter f (c.args.map σ)) w:=by
 simp only[execOp,e,resolve,i,h,XG,Sem.run_bind,Sem.run_pure,Result.andThen_ok,invoke];rw[Wd b];simp
theorem CO(c:Fr.le gl M0){args:List Arg}{b:List Ty}{i:hG b->Prop}(H:PC P gl f args b i)(I:Inv h0 W M0 cs γ h){us:List Value}(m:Wp γ.M args us):
  XC P f us.toArray h λv h'=>∃r γ',i r/\DenV γ' (oX b r) v/\Inv h0 W M0 cs γ' h'/\Gx Te γ γ'/\Keep h.size h h':=
 (H h γ.M us (c.trans I.le) I.ag m).mono λv h' ⟨k,M',r,e,o,l,n,j⟩=>
  ⟨r,{ γ with M:=M' },j,Rr (γ:={ γ with M:=M' }) n,I.call k e o l,⟨e,λ_ _=>⟨rfl,rfl⟩⟩,k⟩
theorem PK(l:Fr.le gl M0){ρ:Operand->Option AV}{K:AV->CS->Option Nat->Prop}(H:vM P gl tr o ρ C R λav n=>K av n Te)(I:Inv h0 W M0 (C++R) γ h)
  (E:∀f,σ (.func f)=.func (.func f) #[] #[]) (D:∀x av,ρ x=Td av->DenV γ av (σ x)):ExA P (execOp σ o) h (jQ h0 W M0 R γ K):=by
 unfold vM at H;split at H;rename_i c w;split at H;rename_i x A;split at H;rename_i f t;cases hcal:zk P f with
 |false=>simp_all
 |true=>
  rw[hcal]at H;simp only[zK]at H;split at H;rename_i ts G vs L k;split at H;rename_i args b;intro B d;have e:=BA t;subst e;obtain⟨J,m,g1⟩:=Inv.frzL (C:=C) (γ:=γ) (Wq vs) I;have F:=Q1 m.fz b ((vL D k).imp λv _ u y=>y.gx g1 rfl);refine .inr (.inr ⟨f,c.args.map σ,Fw w A hcal (E f) _,?_⟩);have q:c.args.map σ=(c.args.toList.map σ).toArray:=by rw[<-Array.toList_map]
  rw[q];refine(CO l H m F).mono ?_;rintro v h' ⟨r,γ',h1,p,z,j,_⟩;exact⟨_,_,Te,γ',h1,p,z,g1.1.trans j.1,λi hi=>⟨(j.2 i hi).1.trans (g1.2 i hi).1,(j.2 i hi).2.trans (g1.2 i hi).2⟩⟩;exact H.elim;exact H.elim
 exact H.elim;exact H.elim;exact H.elim
theorem Em{ρ:Operand->Option AV}{b:Bool}{K:AV->Prop}(H:vO P gl tr o ρ b cs K):(b=Tc->∃av,K av) /\
  (b=Ta->Fr.le gl M0->∀γ h σ,Inv h0 W M0 cs γ h->(∀f,σ (.func f)=.func (.func f) #[] #[])->(∀x av,ρ x=Td av->DenV γ av (σ x))->∃f args,(∀w,(execOp σ o).run P w=.ok (.enter f args) w) /\ XC P f args h λv h'=>∃av γ',K av/\DenV γ' av v/\Inv h0 W M0 cs γ' h'/\Gx Te γ γ'/\Keep h.size h h'):=by
 unfold vO at H;split at H;rename_i c p;split at H;rename_i x t;split at H;rename_i f m;cases hcal:zk P f with
 |false=>simp_all
 |true=>
  rw[hcal]at H;simp only[zK]at H;split at H;rename_i ts n vs z j;split at H;rename_i args i;obtain⟨J,h1,q⟩:=H;refine⟨λl=>⟨_,q (AN n) (λh=>by simp_all)⟩,λl k γ h σ I y u=>?_⟩;have e:=BA m;subst e;refine⟨f,c.args.map σ,λw=>Fw p t hcal (y f) w,?_⟩;have r:c.args.map σ=(c.args.toList.map σ).toArray:=by rw[<-Array.toList_map]
  rw[r];refine(CO k (h1 l) I (Q1 I.fz i (vL u j))).mono ?_;grind;exact H.elim;exact H.elim
 exact H.elim;exact H.elim;exact H.elim
end
section
variable {P:Program} {t:TypeId} {o:Oper} {d:Nat} {C R:CS} {γ:Gh} {h:zc} {σ:Operand -> Value} {av:AV}
variable {h0 : zc} {W : Nat -> Prop} {M0 : Fr}
def xP(P:Program)(t:TypeId)(d:Nat)(C R:CS)(K:AV->CS->Option Nat->Prop):Prop:=match zeroOf P t with
 |some z=>bif Zo d R then(bif jJ (z.cells.toList.map .v)then False else K (.g (.a (.box d 0))) ((d,.box (z.cells.toList.map .v))::ym d C) (Td d))else False
 |none=>False
theorem Bj(c:Nat):∀l:List Value,jX c (l.map .v)=Tc
 |[]=>rfl
 |_::l=>by simp only[UJ,jX,mE,zL,Bj c l]
theorem Ap(t:TypeId)(v:Value)(B:World)(d:Nat)(h:zc):(newVar t v).run P (mk B d h)=.ok ⟨h.size,0,Te⟩ (mk B d (h.push (.cells v.cells t))):=rfl
theorem NS(b:o.op=.alloc t){K:AV->CS->Option Nat->Prop}(H:xP P t d C R K)(I:Inv h0 W M0 (C++R) γ h):ExA P (execOp σ o) h (jQ h0 W M0 R γ K):=by
 unfold xP at H;split at H
 ·rename_i z hz;cases hR:Zo d R with
  |false=>simp_all
  |true=>
   rw[hR]at H;cases hit:jJ (z.cells.toList.map .v)with
   |true=>simp_all
   |false=>
   rw[hit]at H;intro B e;refine .inl ⟨.pointer (Td ⟨h.size,0,Te⟩),e,h.push (.cells z.cells t),?_,_,_,_,lG γ d h.size,H,?_,?_,oD _ _ _⟩;have f:=vZ hz h B e;simp only[execOp,b];refine i9 ?_;unfold Instr.alloc;simp_all[Sem.run_bind,Result.andThen_ok,Ap];simp only[DenV,DenG,DenA,Yi];have:=I.newBox (c:=d) hR (Yk γ z.cells.toList) (Bj d _) hit t;omega
 exact H.elim
def uO(t:TypeId)(d:Nat)(l:List AA)(C R:CS)(K:AV->CS->Option Nat->Prop):Prop:=
 bif Zo d R then(bif jX d l then False else(bif jJ l then False else K (.g (.a (.box d 0))) ((d,.box l)::ym d C) (Td d)))else False
theorem Rv{x:Operand}(b:o.op=.box t x){l:List AA}{K:AV->CS->Option Nat->Prop}(H:uO t d l C R K)(I:Inv h0 W M0 (C++R) γ h)
  (f:All2 (DenA γ) l (σ x).cells.toList):ExA P (execOp σ o) h (jQ h0 W M0 R γ K):=by
 unfold uO at H;cases hR:Zo d R with
 |false=>simp_all
 |true=>
  rw[hR]at H;cases hm:jX d l with
  |true=>simp_all
  |false=>
   rw[hm]at H;cases hit:jJ l with
   |true=>simp_all
   |false=>
   rw[hit]at H;intro B e;refine .inl ⟨.pointer (Td ⟨h.size,0,Te⟩),e,h.push (.cells (σ x).cells t),?_,_,_,_,lG γ d h.size,H,?_,?_,oD _ _ _⟩;simp only[execOp,b];refine i9 ?_;unfold Instr.box;rw[Sem.run_bind,Ap];rfl;simp only[DenV,DenG,DenA,Yi];have:=I.newBox (c:=d) hR f hm hit t;omega
def uZ:AA->Bool
 |.v x=>x.oneCell'
 |_=>Ta
def pK:List AA->Bool
 |[]=>Ta
 |x::l=>bif uZ x then pK l else Tc
theorem Ro{x:AA}{u:Value}(h:uZ x=Ta)(j:DenA γ x u):u.oneCell'=Ta:=by
 cases x with
 |v y=>rw[show u=y from j];exact h
 |d t y=>exact Rd.one (show Rd γ.M t y [u]from j) u (by simp)
 |box c o=>rw[show u=_ from j];rfl
 |own c=>rw[show u=_ from j];rfl
 |oelt c z i o=>obtain⟨g,_,e⟩:=j;rw[e];rfl
 |elt t y o=>obtain⟨b,f,cs,e,_⟩:=j;rw[e];rfl
 |dc t xs=>obtain⟨s,e,_⟩:=j;rw[e];rfl
theorem Gq{γ:Gh}:∀{l:List AA} {us:List Value},pK l=Ta->All2 (DenA γ) l us->∀u∈us,u.oneCell'=Ta
 |[],[],_,_,u,b=>by cases b
 |[],_::_,_,h,_,_=>h.elim
 |_::_,[],_,h,_,_=>h.elim
 |x::l,v::us,h,hd,u,b=>by
  simp only[pK]at h;cases hx:uZ x with
  |false=>simp_all
  |true=>rw[hx]at h;rcases Up.1 b with rfl|b;exact Ro hx hd.1;exact Gq h hd.2 u b
def kw(c:Nat):CS->Bool
 |[]=>Ta
 |(j,_)::l=>bif Nat.beq j c then Tc else kw c l
theorem Xm{c:Nat}:∀{l:CS},kw c l=Ta->∀x∈l,x.1≠c
 |[],_,x,b=>by cases b
 |(j,k)::l,h,x,b=>by
  simp only[kw]at h;cases hb:Nat.beq j c with
  |true=>simp_all
  |false=>rw[hb]at h;rcases Up.1 b with rfl|b;intro e;simp_all;exact Xm h x b
theorem xR{P:Program}{g o:Nat}:∀(vs:List Value) (i:Nat) (w:World),(storeCells ⟨g,o,Te⟩ vs i).run P w=(storeCells ⟨g,0,Te⟩ vs (o+i)).run P w
 |[],i,w=>rfl
 |v::vs,i,w=>by unfold storeCells;rw[Sem.run_bind,Sem.run_bind,zh,zh,Uy];congr 1;funext a w';exact xR vs (i+1) w'
theorem Qc{n:Nat}(hi:qo P t=Ta)(i:je P t=n){b o:Nat}{cs:Array Value}{T:TypeId}(e:h[b]?=Td (.cells cs T (0,0))){v:Value}(l:v.cells.size=n)(m:o+n<=cs.size)(h1:∀u∈v.cells.toList,u.oneCell'=Ta)(B:World)(d:Nat):
  ∃h',(Uj t (.pointer (Td ⟨b,o,Te⟩)) v).run P (mk B d h)=.ok () (mk B d h')/\h'[b]?=Td (.cells (cs.toList.take o++v.cells.toList++cs.toList.drop (o+n)).toArray T (0,0))/\h'.size=h.size/\∀j,j≠b->h'[j]?=h[j]?:=by
 obtain⟨h',f,p,c,k⟩:=Q0 (P:=P) B d v.cells.toList (o+0) h cs e (by simp;omega) h1;refine⟨h',?_,by grind,c,k⟩;have hz:=QExec.sizeOf (P:=P) (h:=h) (jl hi).choose_spec B d;unfold Uj WZ;simp only[Sem.run_bind,Sem.run_pure,Result.andThen_ok];unfold storeVar;rw[Sem.run_bind,hz];simp only[Result.andThen_ok];rw[i,l];simp only[ne_eq,not_true_eq_false,if_false];rw[xR];exact f
theorem Z1{α:Type}{L vs:List α}{p:Nat}(h:p+vs.length<=L.length)(q:Nat):(L.take p++vs++L.drop (p+vs.length))[q]?=if q<p then L[q]? else if q<p+vs.length then vs[q-p]? else L[q]?:=by grind
theorem RowC.set{M:Fr}{t:Ty}{xs:List (El t)}{cells:List Value}(H:RowC M t xs cells){i:Nat}(hi:i<xs.length){y:El t}{o:Nat}{vs:List Value}(n:o+vs.length<=sz t) (p:Rd M t y ((((cells.drop (i*sz t)).take (sz t)).take o)++vs++(((cells.drop (i*sz t)).take (sz t)).drop (o+vs.length)))):
  RowC M t (xs.set i y) (cells.take (i*sz t+o)++vs++cells.drop (i*sz t+o+vs.length)):=by
 have c:(i+1)*sz t<=cells.length:=by rw[H.1];exact UM _ hi
 rw[VH,XW]at c;have m:((cells.drop (i*sz t)).take (sz t)).length=sz t:=by rw[Ve,Vu];omega
 refine⟨?_,λj h=>?_⟩;rw[List.length_set,<-H.1];grind;rw[List.length_set]at h;by_cases b:i=j;subst b;rw[List.getElem_set_self];have e:(((cells.take (i*sz t+o)++vs++cells.drop (i*sz t+o+vs.length)).drop (i*sz t)).take (sz t))=(((cells.drop (i*sz t)).take (sz t)).take o)++vs++(((cells.drop (i*sz t)).take (sz t)).drop (o+vs.length)):=by apply U1;intro k;rw[Z1 (by omega),UU,UU,Vd,Vd,Z1 (by omega)];by_cases f:k<sz t;grind;grind
 grind;rw[List.getElem_set_ne b];have e:(((cells.take (i*sz t+o)++vs++cells.drop (i*sz t+o+vs.length)).drop (j*sz t)).take (sz t))=(cells.drop (j*sz t)).take (sz t):=by
  apply U1;intro k;rw[UU,UU,Vd,Vd,Z1 (by omega)];by_cases f:k<sz t;simp only[f,if_true];rcases Va j i with h1|h1;have:(j+1)*sz t<=i*sz t:=UM _ h1;grind;have l:i+1<=j:=by omega
  have:(i+1)*sz t<=j*sz t:=UM _ l;grind;grind
 rw[e];exact H.2 j h
theorem Inv.setRow{h h':zc}(I:Inv h0 W M0 (C++R) γ h){c:Nat}{e:TypeId}{t:Ty}{xs k:List (El t)}(w:(c,Ch.row e t xs)∈C){g:Nat}(l:(γ.σ c).a.map (·.block)=Td g)
  (E:∀i,i≠g->h'[i]?=h[i]?) (H:h'.size=h.size) (z:DenC h0.size γ h' c (.row e t k)) (L:∀x∈R,x.1≠c):Inv h0 W M0 ((c,.row e t k)::io c C++R) γ h':=by
 have u:=I.sep _ (Uv R w) g l;have p:∀x∈io c C++R,blk γ x.1 x.2≠Td g:=by
  intro x j;have o:x≠(c,Ch.row e t xs):=by rintro rfl;rcases Uo.1 j with j|j;exact(Qw j).2 rfl;grind
  have n:x∈C++R:=((w5 c C).append_right R).subset j;have B:=@pJ _ (λ(x y:Nat×Ch)=>∀b,blk γ x.1 x.2=Td b->blk γ y.1 y.2≠Td b) (λx y h b f q=>h b q f) _ I.apart;intro f;exact B (Uv R w) n (λe=>o e.symm) _ l f
 have D:Inv h0 W M0 (io c C++R) γ h':=by refine I.rest ((w5 c C).append_right R) (c:=Te) (Gx.refl _ _) (λx _=>⟨by simp,rfl⟩) (λx j b f=>?_) (λb A F=>?_) (λi hi G=>?_) (by omega) (λb f=>rfl);exact⟨E b λr=>p x j (r ▸ f),(I.sep x (((w5 c C).append_right R).subset j) b f).2⟩;obtain⟨J,m,r⟩:=I.ag b A F;grind;grind
 refine D.cons z (λb f=>?_) (λb f x j=>?_);simp only[blk,l,Ug]at f;grind;simp only[blk,l,Ug]at f;simp_all
def vj(P:Program)(t:TypeId)(f:AA)(b:List AA)(C R:CS)(K:AV->CS->Option Nat->Prop):Prop:=
 bif qo P t then(bif Nat.beq b.length (je P t)then(bif pK b then(match f with
 |.box c o=>match Yg C c with
  |some (.box l)=>bif kw c R then(bif (bif jJ l then Ta else jJ (l.take o++b++l.drop (o+b.length)))then False else(bif Nat.ble (o+b.length) l.length then K (oQ undef) ((c,.box (l.take o++b++l.drop (o+b.length)))::io c C) Te else False))else False
  |_=>False
 |.oelt c z i o=>match Yg (frzL (oE b) C) c with
  |some (.row e ty xs)=>bif kw c R then(bif Nat.beq z (sz ty)then(bif Nat.ble (o+b.length) (sz ty)then ∃y:El ty,xs[i]?=Td y/\(match collect (frzL (oE b) C++R) ty ((Yf ty y).take o++b++(Yf ty y).drop (o+b.length))with
   |some (y',[])=>K (oQ undef) ((c,.row e ty (xs.set i y'))::io c (frzL (oE b) C)) Te
   |_=>False)else False)else False)else False
  |_=>False
 |_=>False)else False)else False)else False
theorem Ku{a x:Operand}(ho:o.op=.store t a x){aa:AA}{f:List AA}{K:AV->CS->Option Nat->Prop}(H:vj P t aa f C R K)(I:Inv h0 W M0 (C++R) γ h)
  (A:All2 (DenA γ) f (σ x).cells.toList) (ha:DenA γ aa (σ a)):ExA P (execOp σ o) h (jQ h0 W M0 R γ K):=by
 unfold vj at H;cases hi:qo P t with
 |false=>grind
 |true=>
  rw[hi]at H;cases hn:Nat.beq f.length (je P t)with
  |false=>simp_all
  |true=>
   rw[hn]at H;cases hok:pK f with
   |false=>simp_all
   |true=>
    rw[hok]at H;have M:f.length=je P t:=UC hn;have r:(σ x).cells.size=je P t:=by rw[<-M,A.length];simp
    have h1:=Gq hok A;simp only[zK]at H;split at H
    ·rename_i c off;split at H
     ·rename_i l Y;cases hR:kw c R with
      |false=>simp_all
      |true=>
       rw[hR]at H;cases hit:jJ l with
       |true=>simp_all
       |false=>
       rw[hit]at H;cases hit2:jJ (l.take off++f++l.drop (off+f.length))with
       |true=>simp_all
       |false=>
       rw[hit2]at H;simp only[zK,zL]at H;cases hble:Nat.ble (off+f.length) l.length with
       |false=>grind
       |true=>
        rw[hble]at H;have ai:=VE hble;obtain⟨us,e,O⟩:=I.den _ (Uv R (qf Y));rcases e with⟨⟨T,e⟩,_⟩|⟨s,p,e,_⟩;case inr=>grind [tI]
        have ax:=O.length;intro B d;obtain⟨h',r1,r2,r3,r4⟩:=Qc (P:=P) hi rfl e (o:=off) r (by simp;omega) h1 B d;refine .inr (.inl ⟨d,h',?_,_,_,_,γ,H,Wl _ _,?_,Gx.refl _ _⟩);simp only[execOp,ho];rw[show σ a=_ from ha];exact ou r1;refine I.setBox (qf Y) (us:=us.take off++(σ x).cells.toList++us.drop (off+f.length)) (.inl ⟨⟨T,?_⟩,λs p=>tI hit2 (((O.take off).append A).append (O.drop _)) s p⟩) r4 r3 ?_ (Xm hR);rw[r2,M];exact((O.take off).append A).append (O.drop _)
     exact H.elim
    rename_i c z i off;split at H;rename_i e ty xs Y;cases hR:kw c R with
    |false=>simp_all
    |true=>
     rw[hR]at H;cases hz:Nat.beq z (sz ty)with
     |false=>simp_all
     |true=>
      rw[hz]at H;cases hble:Nat.ble (off+f.length) (sz ty)with
      |false=>grind
      |true=>
       rw[hble]at H;simp only[zK]at H;obtain⟨y,hy,H⟩:=H;split at H;rename_i y' Q;have ai:=VE hble;obtain⟨γ1,I1,g1⟩:=Inv.frzL (C:=C) (γ:=γ) (oE f) I;have D:=ha.gx g1 rfl;have ac:=DenL.gx (c:=Te) g1 rfl A;rw[UC hz]at D;obtain⟨g,hg,ah⟩:=D;have n:=qf Y;obtain⟨cells,q,b,m,j⟩:=I1.den _ (Uv R n);simp only at q b m j;have w:i<xs.length:=(UV.1 hy).1;have aj:xs[i]=y:=(UV.1 hy).2;rcases q.2 with⟨hv,au⟩|⟨g',cap,J,hv,ak,ae,al,G,af,u⟩;omega;simp only[UY]at hv;have am:g'=g:=by have:=hv.1;rw[hg]at this;simp only[Ug,Addr.mk.injEq]at this;exact this.1.symm
       subst am;have E:cells.length=xs.length*sz ty:=b.1;have F:(i+1)*sz ty<=xs.length*sz ty:=UM _ w;rw[VH,XW]at F;have Z:xs.length*sz ty<=cap*sz ty:=UM _ (by omega);have an:(σ x).cells.toList.length=f.length:=A.length.symm;intro B d;obtain⟨h',r1,r2,r3,r4⟩:=Qc (P:=P) hi rfl ae (o:=i*sz ty+off) r (by rw[af];omega) h1 B d;refine .inr (.inl ⟨d,h',?_,_,_,_,γ1,H,Wl _ _,?_,g1⟩);simp only[execOp,ho];rw[ah];exact ou r1;refine I1.setRow n (g:=g') (by rw[hg];rfl) r4 r3 ?_ (Xm hR);have hE:=b.2 i w;rw[aj]at hE;have S:=wo (γ:=γ1) hE;have V:=((S.take off).append ac).append (S.drop (off+f.length));obtain⟨c1,c2,e1,r5,r6⟩:=Yh I1.fz Q V;cases c2 with
       |cons _ _=>exact r6.elim
       |nil=>
        rw[Vg]at e1;rw[<-e1]at r5;have N:=b.set w (o:=off) (vs:=(σ x).cells.toList) (by omega) (by rw[an];exact r5);refine⟨_,⟨?_,.inr ⟨g',cap,_,by simp[hv],ak,r2,al,G,?_,?_⟩⟩,N,by grind,by grind⟩;grind;grind;apply U1;intro k;have U:(σ x).cells.toList.length=je P t:=by simpa using r
        rw[UU,<-U];simp only;rw[Z1 (L:=cells) (by omega)];have ar:cells=J.toList.take (xs.length*sz ty):=by rw[<-u,j]
        rw[Z1 (L:=J.toList) (by grind),ar,j];grind
       exact H.elim
    exact H.elim;exact H.elim
def iE(s:Bt)(p:Nat):Bool:=Nat.blt p s.size
def iw(s:Bt)(p:Nat):Nat:=bif Nat.blt p s.size then p+(YB s p).2 else p
def jL(s:Bt)(p:Nat):Int:=((YB s p).1:Int)
def uR(P:Program)(t:TypeId)(av:AV)(d:Nat)(C R:CS)(K:AV->CS->Option Nat->Prop):Prop:=match av,P.underlying t with
 |.g (.a (.v (.string s))),Td .string=>bif Zo d R then K (.g (.a (.box d 0))) ((d,.box [.d .iter (s,0)])::ym d C) (Td d)else False
 |_,_=>False
theorem IF{x:Operand}(f:o.op=.range t x){K:AV->CS->Option Nat->Prop}(H:uR P t av d C R K)(I:Inv h0 W M0 (C++R) γ h)
  (b:DenV γ av (σ x)):ExA P (execOp σ o) h (jQ h0 W M0 R γ K):=by
 unfold uR at H;split at H;rename_i s j;cases hR:Zo d R with
 |false=>simp_all
 |true=>rw[hR]at H;intro B e;refine .inl ⟨.pointer (Td ⟨h.size,0,Te⟩),e,h.push (.stringIter s 0),?_,_,_,_,lG γ d h.size,H,?_,?_,oD _ _ _⟩;simp only[execOp,f,show σ x=.string s from b];refine i9 ?_;have i:=QExec.underlying (h:=h) j B e;unfold XQ;rw[Sem.run_bind,i];rfl;simp only[DenV,DenG,DenA,Yi];exact Inv.newBoxO (c:=d) I hR (l:=[.d .iter (s,0)]) (us:=[xy s 0]) ⟨rfl,trivial⟩ rfl (.inr ⟨s,0,rfl,rfl⟩)
 exact H.elim
def vc(av:AV)(C R:CS)(K:AV->CS->Option Nat->Prop):Prop:=match av with
 |.g (.a (.box c 0))=>match Yg C c with
  |some (.box [.d .iter x])=>bif kw c R then K (.nx (iE x.1 x.2) (x.2:Int) (jL x.1 x.2)) ((c,.box [.d .iter (x.1,iw x.1 x.2)])::io c C) Te else False
  |_=>False
 |_=>False
theorem Pn{x:Operand}(t:o.op=.next x Ta){K:AV->CS->Option Nat->Prop}(H:vc av C R K)(I:Inv h0 W M0 (C++R) γ h)
  (E:DenV γ av (σ x)):ExA P (execOp σ o) h (jQ h0 W M0 R γ K):=by
 unfold vc at H;split at H;rename_i c;split at H;rename_i y f;cases hR:kw c R with
 |false=>simp_all
 |true=>
  rw[hR]at H;simp only[zK]at H;obtain⟨us,ob,k⟩:=I.den _ (Uv R (qf f));have m:us=[xy y.1 y.2]:=by
   match us,k with
   |[u],k=>have F:Rd γ.M .iter y [u]:=k.1;simpa[Rd]using F
  subst m;have b:h[γ.β c]?=Td (.stringIter y.1 y.2):=by
   rcases ob with⟨_,e⟩|⟨s,p,D,J⟩;grind;have L:y.1=s/\y.2=p:=by simp only[xy,VY,Value.iface.injEq,Value.agg.injEq,Array.mk.injEq,Value.string.injEq,Value.int.injEq,and_true,true_and]at D;exact⟨D.1,by omega⟩
   grind
  have j:γ.β c<h.size:=(Uu.1 b).1;intro B d;have r:∀(w:World),w.heap[γ.β c]?=Td (.stringIter y.1 y.2)->(getObj (γ.β c)).run P w=.ok (.stringIter y.1 y.2) w:=λw e=>by simp[getObj,Sem.run,e]
  have G:∀(w:World) (q:Obj),w.heap[γ.β c]?=Td (.stringIter y.1 y.2)->(setObj (γ.β c) q).run P w=.ok () { w with heap:=w.heap.setIfInBounds (γ.β c) q }:=λw q e=>by simp[setObj,Sem.run,e]
  have z:σ x=.pointer (Td ⟨γ.β c,0,Te⟩):=E;by_cases l:y.2<y.1.size;have n:iE y.1 y.2=Ta:=by simpa[iE,XT]using l
  have A:iw y.1 y.2=y.2+(YB y.1 y.2).2:=by unfold iw;rw[show Nat.blt y.2 y.1.size=Ta from n];rfl
  refine .inl ⟨.tuple #[.bool Ta,.int .i64 y.2,.int .i32 (jL y.1 y.2)],d,h.setIfInBounds (γ.β c) (.stringIter y.1 (iw y.1 y.2)),?_,_,_,_,γ,H,⟨λ_=>rfl,λf=>by simp_all⟩,?_,Gx.refl _ _⟩;simp only[execOp,t,z];refine i9 ?_;unfold WE;simp only;rw[Sem.run_bind,r _ b];simp only[Result.andThen_ok,l,if_true];rw[Sem.run_bind,G _ _ b,A];rfl;refine I.setBox (qf f) (us:=[xy y.1 (iw y.1 y.2)]) (.inr ⟨_,_,rfl,by simp[j]⟩) (λi hi=>by grind) (by simp) ⟨rfl,trivial⟩ (Xm hR);have n:iE y.1 y.2=Tc:=by
   cases h:iE y.1 y.2 with
   |false=>rfl
   |true=>exact absurd (by simpa[iE,XT]using h) l
  have A:iw y.1 y.2=y.2:=by unfold iw;rw[show Nat.blt y.2 y.1.size=Tc from n];rfl
  refine .inl ⟨.tuple #[.bool Tc],d,h,?_,_,_,_,γ,H,⟨λf=>(by simp_all),λ_=>rfl⟩,?_,Gx.refl _ _⟩;simp only[execOp,t,z];refine i9 ?_;unfold WE;simp only;rw[Sem.run_bind,r _ b];simp;omega;refine I.setBox (qf f) (us:=[xy y.1 (iw y.1 y.2)]) (.inr ⟨_,_,rfl,by grind⟩) (λi hi=>rfl) rfl ⟨rfl,trivial⟩ (Xm hR)
 exact H.elim;exact H.elim
end
section
variable {P:Program} {tr t tx e ty:TypeId} {n d m b:Nat} {C R:CS} {γ:Gh} {h:zc} {z u:Value} {xs news:List Value}
variable {h0 : zc} {W : Nat -> Prop} {M0 : Fr}
def re(cs:CS)(t:Ty):Nat->List AA->Option (List (El t)×List AA)
 |0,l=>Td ([],l)
 |n+1,l=>match collect cs t l with
  |some (y,l')=>match re cs t n l' with
   |some (ys,l'')=>Td (y::ys,l'')
   |none=>Te
  |none=>Te
theorem DZ{γ:Gh}{cs:CS}(c:lu γ cs){t:Ty}:∀{n:Nat} {l b:List AA} {ys:List (El t)},re cs t n l=Td (ys,b)->∀{us:List Value},All2 (DenA γ) l us->∃c1 c2,us=c1++c2/\RowC γ.M t ys c1/\ys.length=n/\All2 (DenA γ) b c2
 |0,l,b,ys,h,us,hu=>by simp only[re,Ug,Vl]at h;obtain⟨rfl,rfl⟩:=h;exact⟨[],us,rfl,RowC.nil _ _,rfl,hu⟩
 |n+1,l,b,ys,h,us,hu=>by simp only[re]at h;split at h;rename_i y r h1;split at h;rename_i e u i;simp only[Ug,Vl]at h;obtain⟨rfl,rfl⟩:=h;obtain⟨c1,c2,rfl,j,o⟩:=Yh c h1 hu;obtain⟨k,q,rfl,f,p,m⟩:=DZ c i o;exact⟨c1++k,q,by simp,by simpa using (RowC.single j).append f,by simp[p],m⟩;cases h;cases h
def Ff(P:Program)(el:TypeId)(k:Nat):Option (List Value):=bif Nat.beq k 0 then Td []else(match zeroOf P el with
 |some z=>Td ((Array.range k).map (z.cells[· % z.cells.size]!)).toList
 |none=>Te)
def tj:List (Nat×AV)->List AV
 |[]=>[]
 |(_,v)::l=>v::tj l
def vB(P:Program)(tr:TypeId)(t:TypeId)(n:Nat)(ps:List (Nat×AV))(d:Nat)(C R:CS)(K:AV->CS->Option Nat->Prop):Prop:=
 match oy P t with
 |some el=>match q7 P tr 8 el,Ff P el (n*je P el)with
  |some ty,some zs=>bif Nat.beq (je P el) (sz ty)then(bif Nat.ble (n*je P el) 16777216 then(bif Nat.blt 0 (je P el)then(bif Zo d R then(match oJ (λi=>Td (i*je P el,je P el)) (zs.map .v) ps with
   |some r=>match re (frzL (Wq (tj ps)) C++R) ty n r with
    |some (ys,[])=>K (.g (.a (.own d))) ((d,.row el ty ys)::ym d (frzL (Wq (tj ps)) C)) (Td d)
    |_=>False
   |none=>False)else False)else False)else False)else False
  |_,_=>False
 |none=>False
theorem MW{c:Array (Nat×Operand)}{o:Oper}(Y:o.op=.buildSlice t n c){ps:List (Nat×AV)}{ρ:Operand->Option AV}(G:m3 ρ c.toList=Td ps){K:AV->CS->Option Nat->Prop}
  (H:vB P tr t n ps d C R K) {σ:Operand->Value} (I:Inv h0 W M0 (C++R) γ h) (hρ:∀x av,ρ x=Td av->DenV γ av (σ x)):ExA P (execOp σ o) h (jQ h0 W M0 R γ K):=by
 unfold vB at H;split at H
 ·rename_i el A;obtain⟨hu,J⟩:=sD A;split at H
  ·rename_i ty u aa f;cases hz:Nat.beq (je P el) (sz ty)with
   |false=>simp_all
   |true=>
   rw[hz]at H;cases hb1:Nat.ble (n*je P el) 16777216 with
   |false=>simp_all
   |true=>
   rw[hb1]at H;cases hb2:Nat.blt 0 (je P el)with
   |false=>simp_all
   |true=>
   rw[hb2]at H;cases hR:Zo d R with
   |false=>simp_all
   |true=>
   rw[hR]at H;simp only[zK]at H;split at H
   ·rename_i r Z;split at H
    ·rename_i ys D;obtain⟨k,O,g1⟩:=Inv.frzL (C:=C) (γ:=γ) (Wq (tj ps)) I;have M:∀x av,ρ x=Td av->DenV k av (σ x):=λx av hx=>(hρ x av hx).gx g1 rfl;obtain⟨ws,e1,U⟩:=vR Z (Yk k u) (v7 M G);obtain⟨c1,c2,rfl,N,Q,V⟩:=DZ O.fz D U;cases c2 with
     |cons _ _=>exact V.elim
     |nil=>
     rw[Vg]at *;have E:=UC hz;have l:0<je P el:=by simpa[XT]using hb2
     have ac:n*je P el<=16777216:=VE hb1;have hn:n<=n*je P el:=Nat.le_mul_of_pos_right _ l;have ae:c1.length=n*je P el:=by rw[N.1,Q,E]
     intro B e;refine .inl ⟨.slice (Td ⟨h.size,0,Te⟩) n n,e,h.push (.cells c1.toArray el),?_,_,_,_,i8 k d ⟨Td ⟨h.size,0,Te⟩,n,n⟩,H,?_,?_,?_⟩;have y:=QExec.underlying (h:=h) hu B e;have hs:=QExec.sizeOf (P:=P) (h:=h) (jl J).choose_spec B e;have T:(c.map λx=>(x.1,σ x.2)).toList=c.toList.map λx=>(x.1,σ x.2):=by rw[Array.toList_map]
     have S:Instr.fill (λi=>Td (i*je P el,je P el)) u.toArray (c.map λx=>(x.1,σ x.2)).toList=Td c1.toArray:=by rw[T];exact e1
     simp only[execOp,Y];refine i9 ?_;unfold Instr.buildSlice;rw[Sem.run_bind,y];simp only[Result.andThen_ok];rw[Sem.run_bind,hs];simp only[Result.andThen_ok];rw[zv (by omega)];unfold Ff at f;by_cases j:n*je P el=0;rw[zA j];rw[j]at f ⊢;simp at f;subst f;simp only[Sem.run_bind,Sem.run_pure,Result.andThen_ok];have m:Array.map (λx=>(#[]:Array Value)[x % (#[]:Array Value).size]!) (Array.range 0)=([]:List Value).toArray:=by simp
     rw[m,S];rfl;rw[zv j];have w:Nat.beq (n*je P el) 0=Tc:=by
      cases hh:Nat.beq (n*je P el) 0 with
      |false=>rfl
      |true=>simp_all
     rw[w]at f;simp only[zL]at f;split at f;rename_i z L;have F:=vZ L h B e;simp only[Ug]at f;rw[Sem.run_bind,F];simp only[Result.andThen_ok,Sem.run_bind,Sem.run_pure];have m:Array.map (λx=>z.cells[x % z.cells.size]!) (Array.range (n*je P el))=u.toArray:=by rw[<-f]
     rw[m,S];rfl;cases f;simp only[DenV,DenG,DenA,qq];rfl;refine O.newRow hR (by simp) (p:=Te) (λi hi _=>by grind) (λb w=>by cases w) (cells:=c1) ⟨by grind,.inr ⟨h.size,n,c1.toArray,rfl,I.size,qp _ _,Uf _,by unfold maxLen;omega,by simp_all,?_⟩⟩ (λq y=>.inr (by cases y;rfl)) N (by omega) Q.symm;grind;exact⟨g1.1,λi hi=>⟨((Zp k d _).2 i hi).1.trans (g1.2 i (by simp)).1,((Zp k d _).2 i hi).2.trans (g1.2 i (by simp)).2⟩⟩
    exact H.elim
   exact H.elim
  exact H.elim
 exact H.elim
theorem Yl{n sz:Nat}{s:Sl}{cells:List Value}(k:Arr n h s.a cells)(f:cells.length=s.len*sz)(c:0<sz)(B:World)(d:Nat):
  (VQ sz s.len (.slice s.a s.len s.cap)).run P (mk B d h)=.ok cells.toArray (mk B d h):=by
 rcases k with rfl|⟨b,o,e,_,l⟩;have h0:s.len=0:=by rcases WR s.len with h0|h0;exact h0;have:=Nat.mul_pos h0 c;grind
 rw[h0];cases s.a with
 |none=>simp[VQ]
 |some p=>simp[VQ,loadCells,loadCellsFrom]
 rw[e];exact run_firstCells_some (mk B d h) sz s.len ⟨b,o,Te⟩ s.len s.cap cells f λj u i=>by rw[zh];exact l j u i
theorem En{n sz:Nat}{s:Sl}{cells:List Value}(e:Arr n h s.a cells)(c:cells.length=s.len*sz)(b:0<sz)(h1:∀u∈cells,u.oneCell'=Ta){tx f:TypeId}(i:P.underlying tx=Td (.slice f))(B:World)(d:Nat):
  Src P sz tx (aK s) s.len cells (mk B d h):=
 ⟨.inl ⟨f,i⟩,λ_=>rfl,Yl e c b B d,Yl e c b B (d+1),c,h1⟩
theorem Aq{g o:Nat}{b:Array Value}{T:TypeId}(c:h[g]?=Td (.cells b T (0,0))){vs:List Value}(k:o+vs.length<=b.size)(h1:∀u∈vs,u.oneCell'=Ta)(B:World)(d:Nat):
  ∃h',(storeCells ⟨g,o,Te⟩ vs 0).run P (mk B d h)=.ok () (mk B d h')/\h'[g]?=Td (.cells (b.toList.take o++vs++b.toList.drop (o+vs.length)).toArray T (0,0))/\h'.size=h.size/\∀j,j≠g->h'[j]?=h[j]?:=by
 obtain⟨h',l,e,i,f⟩:=Q0 (P:=P) B d vs (o+0) h b c (by omega) h1;grind [xR]
theorem uv{sz bytes:Nat}(T:ElemT P t e z sz bytes){base:Nat}{s:Sl}(j:xs.length=s.len*sz)(k:∀B d,(VQ sz s.len (aK s)).run P (mk B d h)=.ok xs.toArray (mk B d h)) {x:Value} (y:∀B d,Src P sz tx x m news (mk B d h)) (b:(s.len+m)*bytes<=140737488355328) (u:s.len+m<=140737488355328) (p:base<=h.size) (A:s.cap<s.len+m) (B:World) (d:Nat):
  ∃c blk,(Us #[t,tx] ty #[aK s,x]).run P (mk B d h)=.ok (.slice (Td ⟨h.size,0,Te⟩) (s.len+m) c) (mk B (d+1) (h.push (.cells blk e)))/\s.len+m<=c/\c<=maxLen/\blk.size=c*sz/\blk.toList.take ((s.len+m)*sz)=xs++news:=by
 obtain⟨i,hi,hz,q,n⟩:=T.info;subst q;subst n;have r:=y B d;have f:=r.newsLen;have w:=run_append_grow_src (P:=P) (mk B d h) t tx ty e i z T.slice hi hz s.a s.len s.cap xs (k B (d+1)) x m news r A (by omega) (growslice_fits (by omega) b);have l:=grownCap_ge (mk B d h) (s.len+m) s.cap e;have o:=grownCap_le_maxLen (mk B d h) (s.len+m) s.cap e (by unfold maxLen;omega);generalize grownCap (mk B d h) (s.len+m) s.cap e=c at *;refine⟨c,_,w,l,o,?_,?_⟩;simp only[Array.size_append,List.size_toArray,size_zeroCells,Uk,T.zero,j,f,<-VH];grind;simp only[Array.toList_append];have:(xs++news).length=(s.len+m)*i.size:=by rw[Uk,j,f,VH]
 grind
theorem Y8{sz bytes:Nat}(T:ElemT P t e z sz bytes){h h':zc}{s:Sl}{x:Value}{B:World}(c:Src P sz tx x m news (mk B d h))(b:s.len+m<=s.cap)
  (j:∀p,s.a=Td p->(storeCells (p.add (s.len*sz)) news 0).run P (mk B d h)=.ok () (mk B d h')) (f:s.a=Te->h'=h):(Us #[t,tx] ty #[aK s,x]).run P (mk B d h)=.ok (.slice s.a (s.len+m) s.cap) (mk B d h'):=by
 obtain⟨i,hi,hz,n,o⟩:=T.info;subst n;have l:=T.slice;unfold aK;rcases c.kind with⟨q,k⟩|k;cases ha:s.a with
 |none=>rw[f ha];simp[Us,run_underlying l,run_underlying k,sizeOf,typeInfo,hi,c.len,b,c.cells]
 |some p=>simp[Us,run_underlying l,run_underlying k,sizeOf,typeInfo,hi,c.len,b,c.cells,j p ha]
 cases ha:s.a with
 |none=>rw[f ha];simp[Us,run_underlying l,run_underlying k,sizeOf,typeInfo,hi,c.len,b,c.cells]
 |some p=>simp[Us,run_underlying l,run_underlying k,sizeOf,typeInfo,hi,c.len,b,c.cells,j p ha]
theorem Xn{sz bytes:Nat}(T:ElemT P t e z sz bytes){base:Nat}{s:Sl}(H:Owns h base e sz s xs){x:Value}(V:∀B d,Src P sz tx x m news (mk B d h)) (k:(s.len+m)*bytes<=140737488355328) (r:s.len+m<=140737488355328) (f:base<=h.size) {K:Value->zc->Prop} (I:∀(C:Sl) (h':zc),C.len=s.len+m->Owns h' base e sz C (xs++news)->(∀i,i<h.size->(∀p,s.a=Td p->i≠p.block)->h'[i]?=h[i]?)->h.size<=h'.size->(∀q,C.a=Td q->(∃p,s.a=Td p/\q.block=p.block)\/q.block=h.size)->K (aK C) h'):
  qt P (Us #[t,tx] ty #[aK s,x]) h K:=by
 intro B d;have D:=V B d;have w:=D.newsLen;have l:=H.1;have u:=H.arr;by_cases b:s.len+m<=s.cap;rcases H.2 with⟨A,aa⟩|⟨g,cap,J,A,M,hg,ac,F,O,n⟩;simp only[UY]at A;obtain⟨Z,e2,e3⟩:=A;have hm:m=0:=by omega
 subst hm;have Y:news=[]:=UN (by simpa using w);subst Y;have y:=Y8 (P:=P) (ty:=ty) T (s:=s) (h':=h) D b (λp hp=>by simp_all) (λ_=>rfl);refine⟨_,d,h,y,I ⟨s.a,s.len+0,s.cap⟩ h rfl ?_ (λ_ _ _=>rfl) (Uf _) (λq j=>by simp_all)⟩;simp;omega;simp only[UY]at A;obtain⟨Z,_,e3⟩:=A;have G:h[g]?=Td (.cells J e (0,0)):=hg;have Q:(s.len+m)*sz<=cap*sz:=UM _ (by omega);rw[VH]at Q;obtain⟨h',r1,r2,r3,r4⟩:=Aq (P:=P) G (o:=s.len*sz) (vs:=news) (by rw[O];omega) D.one B d;have y:=Y8 (P:=P) (ty:=ty) T (s:=s) (h':=h') D b (λp hp=>by simp_all[zh,Uy]) (λY=>by simp_all);refine⟨_,d,h',y,I ⟨s.a,s.len+m,s.cap⟩ h' rfl ⟨?_,.inr ⟨g,cap,_,?_,M,r2,(by simp_all),F,?_,?_⟩⟩ (λi hi E=>r4 i λe'=>E _ Z e') (by omega) (λq j=>.inl ⟨q,j,rfl⟩)⟩;grind;grind;grind;simp only;rw[n];have:(xs++news).length=(s.len+m)*sz:=by rw[Uk,l,w,VH]
 grind;obtain⟨c,blk,y,U,N,S,L⟩:=uv (P:=P) (ty:=ty) (base:=base) T l (λB d=>Yl u l T.pos B d) V k r f (by omega) B d;refine⟨_,d+1,_,y,I ⟨Td ⟨h.size,0,Te⟩,s.len+m,c⟩ _ rfl ⟨?_,.inr ⟨h.size,c,blk,rfl,f,qp _ _,U,N,S,L⟩⟩ (λi hi _=>by grind) (by simp) (λq j=>.inr (by cases j;rfl))⟩;grind
def lV(s:Bt):List Int:=s.data.toList.map λb=>(b.toNat:Int)
def Ae:(ty:Ty)->Bt->Option (List (El ty))
 |.int .u8,s=>Td (lV s)
 |_,_=>Te
def vw(P:Program)(cs:CS)(tx:TypeId)(ty:Ty):AV->Option (List (El ty))
 |.g (.a (.v (.string s)))=>match P.underlying tx with
  |some .string=>Ae ty s
  |_=>Te
 |.g (.a (.v (.slice Te 0 0)))=>match P.underlying tx with
  |some (.slice _)=>Td []
  |_=>Te
 |.g (.a aa)=>match P.underlying tx with
  |some (.slice _)=>match rowOf cs aa with
   |some r=>Qq (.row r.1) (.row ty) r.2
   |none=>match aa with
    |.own c=>match Yg cs c with
     |some (.row _ t xs)=>Qq (.row t) (.row ty) xs
     |_=>Te
    |_=>Te
  |_=>Te
 |_=>Te
theorem RowC.bytes(M:Fr)(s:Bt):RowC M (.int .u8) (lV s) (byteCells s):=by
 have c:(byteCells s).length=(lV s).length:=by unfold byteCells lV;simp
 refine⟨by rw[c];simp[sz],λi hi=>?_⟩;have b:i<(byteCells s).length:=by rw[c];exact hi
 have e:(byteCells s)[i]=.int .u8 (lV s)[i]:=by simp only[byteCells,lV,VM]
 have f:((byteCells s).drop (i*1)).take 1=[(byteCells s)[i]]:=by rw[U4,U6 b];rfl
 show((byteCells s).drop (i*1)).take 1=[.int .u8 (lV s)[i]];rw[f,e]
theorem Ym{t t':Ty}{xs:List (El t)}{ys:List (El t')}(h:Qq (.row t) (.row t') xs=Td ys):∃e:t=t',ys=e ▸ xs:=by unfold Qq at h;grind
theorem LC{cs:CS}(I:Inv h0 W M0 cs γ h){ty:Ty}{av:AV}{ys:List (El ty)}(b:vw P cs tx ty av=Td ys)(m:0<sz ty)(o:DenV γ av u):
  ∃news,RowC γ.M ty ys news/\∀B d,Src P (sz ty) tx u ys.length news (mk B d h):=by
 have row:∀{t:Ty} {xs:List (El t)} {n:Nat} {s:Sl} {cells:List Value} {p:TypeId},Qq (.row t) (.row ty) xs=Td ys->P.underlying tx=Td (.slice p)->u=aK s->s.len=xs.length->RowC γ.M t xs cells->Arr n h s.a cells ->
   ∃news,RowC γ.M ty ys news/\∀B d,Src P (sz ty) tx u ys.length news (mk B d h):=by
  intro t xs n s cells p q i e k l C;obtain⟨A,w⟩:=Ym q;subst A;simp only at w;subst w;refine⟨cells,l,λB d=>?_⟩;rw[e,<-k];exact En C (by rw[k];exact l.1) m l.one i B d
 unfold vw at b;split at b
 ·rename_i s;split at b
  ·rename_i i;unfold Ae at b;split at b;case h_2=>cases b
   simp only[Ug]at b;subst b;refine⟨byteCells s,RowC.bytes _ s,λB d=>?_⟩;rw[show u=.string s from o];have:=Src.ofString (P:=P) (mk B d h) i s;have e:(lV s).length=s.size:=by unfold lV;rw[Um,Array.length_toList];rfl
   rw[e];exact this
  cases b
 split at b;rename_i p i;simp only[Ug]at b;subst b;refine⟨[],RowC.nil _ _,λB d=>?_⟩;rw[show u=.slice Te 0 0 from o];exact Src.ofNil (mk B d h) i 0;cases b;rename_i D _ _;split at b;rename_i p i;split at b;rename_i r l;obtain⟨s,e,k,z,cells,f,y⟩:=(qG I l o).rowC I.ag;grind;split at b;rename_i c _ _ _;split at b;rename_i e t xs q;obtain⟨cells,j,f,z,k⟩:=I.den _ (qf q);exact row b i (show u=aK _ from o) k f j.arr;cases b;cases b;cases b;cases b
def wP(P:Program)(el:TypeId)(ty:Ty):Option Nat:=match P.info? el with
 |some i=>match i.zero with
  |some z=>bif (bif Nat.beq i.size (sz ty)then(bif Nat.beq z.cells.size i.size then(bif Nat.blt 0 i.size then Nat.blt 0 i.bytes else Tc)else Tc)else Tc)then Td i.bytes else Te
  |none=>Te
 |none=>Te
theorem Tv{t el:TypeId}{ty:Ty}(e:P.underlying t=Td (.slice el))(h:wP P el ty=Td b):(∃z,ElemT P t el z (sz ty) b)/\0<b:=by
 unfold wP at h;split at h
 ·rename_i i hi;split at h
  ·rename_i z hz;cases h1:Nat.beq i.size (sz ty)with
   |false=>simp_all
   |true=>
   cases h2:Nat.beq z.cells.size i.size with
   |false=>simp_all
   |true=>
   cases h3:Nat.blt 0 i.size with
   |false=>simp_all
   |true=>
   cases h4:Nat.blt 0 i.bytes with
   |false=>simp_all
   |true=>
   rw[h1,h2,h3,h4]at h;simp only[zK,Ug]at h;have c:=UC h1;have f:=UC h2;have j:0<i.size:=by simpa[XT]using h3
   have k:0<i.bytes:=by simpa[XT]using h4
   exact⟨⟨z,e,⟨i,hi,hz,c,h⟩,by rw[f,c],by omega⟩,by omega⟩
  cases h
 cases h
def vo(P:Program)(tr:TypeId)(t tx:TypeId)(bv f:AV)(d:Nat)(C R:CS)(K:AV->CS->Option Nat->Prop):Prop:=
 match oy P t with
 |some el=>match q7 P tr 8 el with
  |some ty=>match wP P el ty,vw P (C++R) tx ty f with
   |some b,some ys=>match bv with
    |.g (.a (.v (.slice Te 0 0)))=>bif Zo d R then(ys.length*b<=140737488355328/\K (.g (.a (.own d))) ((d,.row el ty ys)::ym d C) (Td d))else False
    |.g (.a (.own c))=>match Yg C c with
     |some (.row e t' xs)=>match Qq (.row t') (.row ty) xs with
      |some xs=>bif Nat.beq e el then(bif Zo d R then((xs.length+ys.length)*b<=140737488355328/\K (.g (.a (.own d))) ((d,.row el ty (xs++ys))::ym d (io c C)) (Td d))else False)else False
      |none=>False
     |_=>False
    |.g (.a (.dc t' xs))=>match Qq (.row t') (.row ty) xs with
     |some xs=>(xs.length+ys.length)*b<=140737488355328/\K (.g (.a (.d (.row ty) (xs++ys)))) C Te
     |none=>False
    |_=>False
   |_,_=>False
  |none=>False
 |none=>False
theorem yV{n b k:Nat}(c:0<b)(h:n*b<=k):n<=k:=Vj (Nat.le_mul_of_pos_right _ c) h
theorem IK{tr t tx ty':TypeId}{bv sv:AV}{K:AV->CS->Option Nat->Prop}(H:vo P tr t tx bv sv d C R K)(I:Inv h0 W M0 (C++R) γ h)
  {u v:Value} (Q:DenV γ bv u) (au:DenV γ sv v):qt P (Us #[t,tx] ty' #[u,v]) h (jQ h0 W M0 R γ K):=by
 unfold vo at H;split at H
 ·rename_i el al;obtain⟨hu,aB⟩:=sD al;split at H
  ·rename_i ty aA;split at H
   ·rename_i b ys n am;obtain⟨⟨z,T⟩,E⟩:=Tv hu n;obtain⟨news,r,A⟩:=LC I am T.pos au;split at H
    ·cases hR:Zo d R with
     |false=>rw[hR]at H;exact H.elim
     |true=>
     rw[hR]at H;obtain⟨D,U⟩:=H;rw[show u=aK ⟨Te,0,0⟩from Q];have J:=yV E D;refine Xn T (Owns.nil h h0.size el (sz ty)) A (by simpa using D) (by simpa using J) I.size λs' h' hl w hk hs L=>?_;rw[Vw]at w;simp only[Uy]at hl;refine⟨_,_,_,i8 γ d s',U,?_,I.newRow hR hs (p:=Te) (λi hi _=>hk i hi (by simp)) (λb n=>by cases n) w (λq hq=>?_) r J hl,Zp _ _ _⟩;simp only[DenV,DenG,DenA,qq];simp_all
    ·rename_i c;split at H
     ·rename_i e t' ax hc;split at H
      ·rename_i xs k;cases hee:Nat.beq e el with
       |false=>rw[hee]at H;exact H.elim
       |true=>
       rw[hee]at H;cases hR:Zo d R with
       |false=>rw[hR]at H;exact H.elim
       |true=>
       rw[hR]at H;obtain⟨D,U⟩:=H;have J:=yV E D;have F:=qf hc;obtain⟨e1,e2⟩:=Ym k;subst e1;simp only at e2;subst e2;have e3:=UC hee;subst e3;have ac:=I.den _ (Uv R F);obtain⟨cells,l,f,ai,G⟩:=ac;simp only at l f G;rw[show u=aK (γ.σ c)from Q];refine Xn T l A (by grind) (by omega) I.size λs' h' hl w hk hs L=>?_;have Y:=I.sep _ (Uv R F);have az:=uB hR;have an:Inv h0 W M0 (io c C++R) γ h:=I.sub ((w5 c C).append_right R);refine⟨_,_,_,i8 γ d s',U,?_,an.newRow hR hs (p:=(γ.σ c).a.map (·.block)) (λi hi O=>hk i hi λp L e=>O (by rw[L,e];rfl)) (λb n=>?_) w (λq hq=>?_) (f.append r) (by simp_all) (by simp_all),Zp _ _ _⟩;simp only[DenV,DenG,DenA,qq];obtain⟨h1,h2⟩:=Y b n;refine⟨?_,h2,λx Z ah=>?_⟩;simp only[VL]at n;obtain⟨p,L,rfl⟩:=n;exact(l.base_le p L).1;have aj:x∈C++R:=((w5 c C).append_right R).subset Z;have O:x≠(c,Ch.row e t' xs):=by rintro rfl;rcases Uo.1 Z with Z|Z;exact(Qw Z).2 rfl;have aG:=I.apart;grind
       have L:=@pJ _ (λ(x y:Nat×Ch)=>∀b,blk γ x.1 x.2=Td b->blk γ y.1 y.2≠Td b) (λx y h b n aa=>h b aa n) _ I.apart;exact L aj (Uv R F) O b ah n;grind
      exact H.elim
     exact H.elim
    rename_i t' ax;split at H;rename_i xs k;obtain⟨D,U⟩:=H;have J:=yV E D;obtain⟨e1,e2⟩:=Ym k;subst e1;simp only at e2;subst e2;obtain⟨s,e,aH,ae⟩:=(show ∃s:Sl,u=aK s/\s.cap=s.len/\Rd γ.M (.row t') xs [u]from Q);subst e;obtain⟨s2,e,G,ai,cells,f,V⟩:=ae.rowC I.ag;have e':s=s2:=by cases s;cases s2;simp only[aK,UY]at e;simp[e]
    subst e';have N:cells.length=s.len*sz t':=by rw[G];exact f.1
    intro B dr;by_cases hm:ys.length=0;have ar:ys=[]:=UN hm;subst ar;have ay:news=[]:=UN (by rw[r.1];simp);subst ay;have hr:=Y8 (P:=P) (ty:=ty') T (s:=s) (h':=h) (A B dr) (by simp;omega) (λp L=>by simp[storeCells]) (λ_=>rfl);refine⟨_,dr,h,hr,_,C,Te,γ,U,?_,I,Gx.refl _ _⟩;rw[Vg];exact ae;obtain⟨c,j,hr,aI,aE,aF,aD⟩:=uv (P:=P) (ty:=ty') (base:=0) T N (λB d=>Yl V N T.pos B d) A (by grind) (by omega) (UB _) (by omega) B dr;have aC:γ.M h.size=Te:=I.ag.none (Uf _);have hM:Fr.le γ.M (iQ γ h.size j).M:=by
     intro b cc S;have:Nat.beq b h.size=Tc:=by
      cases n:Nat.beq b h.size with
      |false=>rfl
      |true=>simp_all
     simp[iQ,this,S]
    have ak:AgM (iQ γ h.size j).M (h.push (.cells j el)):=by
     intro b cc S;by_cases n:b=h.size;subst n;have:cc=j:=by simp[iQ]at S;exact S.symm
     simp_all;have:Nat.beq b h.size=Tc:=by
      cases aa:Nat.beq b h.size with
      |false=>rfl
      |true=>simp_all
     simp only[iQ,this,zL]at S;obtain⟨T',m,e'⟩:=I.ag b cc S;grind
    refine⟨_,dr+1,_,hr,_,C,Te,iQ γ h.size j,U,?_,I.call (Keep.push h _ (Uf _)) hM (λb n=>?_) ak,⟨hM,λ_ _=>⟨rfl,rfl⟩⟩⟩;have af:=((f.append r).mono hM).rd (b:=h.size) (o:=0) (c:=c) (cs:=j) (by simp[iQ]) (by simp_all) (by simp_all);rw[Uk,<-G]at af;exact af;grind [UC];exact H.elim;exact H.elim
   exact H.elim
  exact H.elim
 exact H.elim
end
section
variable {cs C R:CS} {γ b:Gh} {h:zc} {u:Value} {P:Program} {o:Oper} {σ:Operand -> Value} {n:Nat} {gl:Fr} {tr:TypeId} {c:qk} {a:Act} {S:List Nat}
variable {h0 : zc} {W : Nat -> Prop} {M0 : Fr}
def t0(b:List Int):Bt:=b.foldl (λr n=>r.push (V0 n.toNat)) ByteArray.empty
def Nb(t:Ty)(xs:List (El t)):Option (List Int):=Qq (.row t) (.row (.int .u8)) xs
def sK(cs:CS):AA->Option ((t:Ty)×List (El t))
 |.own c=>match Yg cs c with
  |some (.row _ t xs)=>Td ⟨t,xs⟩
  |some (.fz t xs)=>Td ⟨t,xs⟩
  |_=>Te
 |aa=>rowOf cs aa
theorem Cv(I:Inv h0 W M0 cs γ h){n:AA}{r:(t:Ty)×List (El t)}(b:sK cs n=Td r)(j:DenA γ n u):
  ∃s:Sl,u=aK s/\s.len=r.2.length/\∃cells,RowC γ.M r.1 r.2 cells/\Arr h.size h s.a cells:=by
 unfold sK at b;split at b;split at b;rename_i c e t xs l;simp only[Ug]at b;subst b;obtain⟨cells,f,i,m,k⟩:=I.den _ (qf l);exact⟨_,j,k,cells,i,f.arr⟩;rename_i c t xs l;simp only[Ug]at b;subst b;have:Rd γ.M (.row t) xs [u]:=by rw[show u=_ from j];exact I.den _ (qf l)
 obtain⟨s,e,k,m,cells,h1,o⟩:=this.rowC I.ag;grind;cases b;obtain⟨s,e,k,m,cells,h1,o⟩:=(qG I b j).rowC I.ag;grind
def wc(P:Program)(s t:TypeId)(av:AV)(cs:CS)(K:AV->Prop):Prop:=
 match P.underlying s,P.underlying t with
 |some (.slice e),Td .string=>match P.underlying e,av with
  |some (.int .u8),.g (.a aa)=>match sK cs aa with
   |some r=>match Nb r.1 r.2 with
    |some b=>K (.g (.a (.v (.string (t0 b)))))
    |none=>False
   |none=>False
  |_,_=>False
 |some (.int _),Td .string=>match av with
  |.g (.a (.v (.int _ n)))=>K (.g (.a (.v (.string (Utf8.encode n)))))
  |_=>False
 |_,_=>False
theorem Sa{M:Fr}{k:IntKind}:∀{b:List Int} {cells:List Value},RowC M (.int k) b cells->cells=b.map (Vo k)
 |b,cells,H=>by
  apply U1;intro i;have f:cells.length=b.length:=by rw[H.1];simp[sz]
  rw[Vk];by_cases hi:i<b.length;have:((cells.drop (i*1)).take 1)=[.int k b[i]]:=H.2 i hi;have e:cells[i]?=Td (.int k b[i]):=by
   have c:((cells.drop (i*1)).take 1)[0]?=Td (.int k b[i]):=by rw[this];rfl
   rw[UU,zA (by omega),Vd]at c;simpa using c
  simp_all;simp_all
theorem Nl{s t:TypeId}{x:Operand}(N:o.op=.convert s t x){av:AV}{K:AV->Prop}(H:wc P s t av cs K)(I:Inv h0 W M0 cs γ h)(G:DenV γ av (σ x)):
  ∃l v,K l/\DenV γ l v/\QExec P (execOp σ o) h (.value v):=by
 have val:∀{v:Value},QExec P (convert s t (σ x)) h v->QExec P (execOp σ o) h (.value v):=λS=>by simp only[execOp,N];exact QExec.val S
 unfold wc at H;split at H;rename_i e C u;split at H;rename_i V O;split at H;rename_i r T;split at H;rename_i i A;refine⟨_,.string (t0 i),H,rfl,val λB d=>?_⟩;obtain⟨sl,F,m,cells,f,j⟩:=Cv I T G;obtain⟨tt,xs⟩:=r;obtain⟨E,L⟩:=Ym A;simp only at E;subst E;simp only at L m f;subst L;have Q:=Sa f;subst Q;have h1:=QExec.underlying (h:=h) C B d;have q:=QExec.underlying (h:=h) u B d;have U:=QExec.underlying (h:=h) O B d;have c:(Conv.bytesToString (σ x)).run P (mk B d h)=.ok (.string (t0 i)) (mk B d h):=by
  rw[F];unfold aK;rcases j with y|⟨b,J,w,_,z⟩;have D:i=[]:=by simpa using y
  subst D;simp only[Vb]at m;cases ha:sl.a with
  |none=>simp[Conv.bytesToString,t0]
  |some p=>have:=run_bytesToString (P:=P) (mk B d h) p sl.len sl.cap [] (by rw[m];simp[loadCells,loadCellsFrom]);exact this
  rw[w];refine run_bytesToString (mk B d h) ⟨b,J,Te⟩ sl.len sl.cap i ?_;have:=Yl (P:=P) (h:=h) (n:=b+1) (sz:=1) (s:=sl) (cells:=i.map (Vo .u8)) (.inr ⟨b,J,w,by omega,z⟩) (by rw[m];simp) (by omega) B d;rw[w]at this;simpa[VQ]using this
 unfold convert;rw[Sem.run_bind,h1];simp only[Result.andThen_ok];rw[Sem.run_bind,q];simp only[Result.andThen_ok];rw[F]at c ⊢;unfold aK at c ⊢;simp_all;exact H.elim;exact H.elim;exact H.elim;rename_i k C u;split at H;rename_i M n;refine⟨_,.string (Utf8.encode n),H,rfl,val λB d=>?_⟩;have h1:=QExec.underlying (h:=h) C B d;have q:=QExec.underlying (h:=h) u B d;have e:σ x=.int M n:=G;unfold convert;rw[Sem.run_bind,h1];simp only[Result.andThen_ok];rw[Sem.run_bind,q,e];rfl;exact H.elim;exact H.elim
def D6:BinOp->Option Bool
 |.eql=>Td Ta
 |.neq=>Td Tc
 |_=>Te
def uM(P:Program)(o:Oper)(ρ:Operand->Option AV)(cs:CS):Option (Bool×Nat):=match o.op with
 |.binOp b t x y _=>match D6 b,ρ x,ρ y with
  |some pol,Td (.g (.a aa)),Td (.g (.a (.v (.slice Te 0 0))))=>match sK cs aa,P.underlying t with
   |some ⟨ty,xs⟩,Td (.slice _)=>bif Nat.blt 0 (sz ty)then Td (pol,xs.length)else Te
   |_,_=>Te
  |_,_,_=>Te
 |_=>Te
theorem TX(e:BinOp)(t:TypeId)(x y:Operand)(a b:Option Addr)(l c f h:Nat)(w:World):(eqGuard e t x y (.slice a l c) (.slice b f h)).run P w=.ok () w:=by unfold eqGuard;simp
theorem Nh{ρ:Operand->Option AV}{i:Bool}(c:uM P o ρ (C++R)=Td (i,n)){K:AV->CS->Option Nat->Prop}(H:∀b:Bool,(b=Ta->n=0)->K (.g (.a (.v (.bool (bif i then b else !b))))) C Te)
  (I:Inv h0 W M0 (C++R) γ h) (u:∀x av,ρ x=Td av->DenV γ av (σ x)):ExA P (execOp σ o) h (jQ h0 W M0 R γ K):=by
 unfold uM at c;split at c
 ·rename_i L t x y N z;split at c
  ·rename_i q Q f A G;split at c
   ·rename_i ty xs e J p;cases hz:Nat.blt 0 (sz ty)with
    |false=>rw[hz]at c;cases c
    |true=>
     rw[hz]at c;simp only[zK,Ug,Vl]at c;obtain⟨rfl,rfl⟩:=c;have M:0<sz ty:=by simpa[XT]using hz
     obtain⟨s,D,O,cells,l,j⟩:=Cv I J (u _ _ A);have w:σ y=.slice Te 0 0:=u _ _ G;have k:s.a.isNone=Ta->xs.length=0:=by
      intro r;have m:cells=[]:=by rcases j with m|⟨b,o,E,_⟩;exact m;rw[E]at r;cases r
      have:=l.1;rw[m]at this;simp only[Vb]at this;rcases Nat.mul_eq_zero.1 this.symm with h1|h1;exact h1;omega
     have F:=H s.a.isNone k;intro B d;refine .inl ⟨_,d,h,?_,_,C,Te,γ,F,rfl,I,Gx.refl _ _⟩;simp only[execOp,z];refine i9 ?_;rw[D,w];simp only[aK];rw[Sem.run_bind,TX];simp only[Result.andThen_ok];cases L <;> simp only[D6,Ug]at f <;> (try (cases f;done)) <;> subst f;simp only[binOp,Sem.run_bind,run_equal_slice_nil _ t _ _ _ _ p];rfl;simp only[binOp,Sem.run_bind,run_equal_slice_nil _ t _ _ _ _ p];rfl
   cases c
  cases c
 cases c
def nZ(P:Program)(gl:Fr)(tr:TypeId)(o:Oper)(ρ:Operand->Option AV)(C R:CS)(K:AV->CS->Option Nat->Prop):Prop:=
 match o.op with
 |.alloc t=>match o.dst with
  |some d=>xP P t d C R K
  |none=>False
 |.box t x=>match o.dst,ρ x with
  |some d,some av=>match o7 av with
   |some l=>uO t d l C R K
   |none=>False
  |_,_=>False
 |.store t a x=>match ρ a,ρ x with
  |some (.g (.a aa)),some xv=>match o7 xv with
   |some h=>vj P t aa h C R K
   |none=>False
  |_,_=>False
 |.buildSlice t n b=>match o.dst,m3 ρ b.toList with
  |some d,some ps=>vB P tr t n ps d C R K
  |_,_=>False
 |.convert s t x=>bif md P o then qA P gl o ρ Te (C++R) (λav=>K av C Te)else(match ρ x with
  |some av=>wc P s t av (C++R) λe=>K e C Te
  |none=>False)
 |.call c=>match c.callee with
  |.builtin .append=>match c.args.toList,c.argTypes.toList,o.dst with
   |[s,x],[t,tx],some d=>match ρ s,ρ x with
    |some bv,some sv=>vo P tr t tx bv sv d C R K
    |_,_=>False
   |_,_,_=>False
  |.builtin _=>qA P gl o ρ Te (C++R) λav=>K av C Te
  |_=>vM P gl tr o ρ C R λav f=>K av f Te
 |.range t x=>match o.dst,ρ x with
  |some d,some av=>uR P t av d C R K
  |_,_=>False
 |.next x true=>match ρ x with
  |some av=>vc av C R K
  |none=>False
 |_=>qA P gl o ρ Te (C++R) λav=>K av C Te
theorem toList_eq{α:Type}{x:Array α}{l:List α}(h:x.toList=l):x=l.toArray:=by grind
theorem Ii(j:Fr.le gl M0){ρ:Operand->Option AV}{K:AV->CS->Option Nat->Prop}(H:nZ P gl tr o ρ C R K)(I:Inv h0 W M0 (C++R) γ h)
  (G:∀f,σ (.func f)=.func (.func f) #[] #[]) (b:∀x av,ρ x=Td av->DenV γ av (σ x)):ExA P (execOp σ o) h (jQ h0 W M0 R γ K):=by
 unfold nZ at H;split at H;grind [NS];grind [Rv,yG];rename_i t a x m;split at H;rename_i Q N J q;split at H;rename_i l A;exact Ku m H I (yG A (b _ _ q)) (b _ _ J);exact H.elim;exact H.elim;grind [MW];rename_i s t x m;cases hq:md P o with
 |true=>grind [xT]
 |false=>rw[hq]at H;simp only[zL]at H;split at H;rename_i av p;obtain⟨u,v,h1,w,E⟩:=Nl m H I (b _ _ p);exact λB d=>.inl ⟨v,d,h,E B d,u,C,Te,γ,h1,w,I,Gx.refl _ _⟩;exact H.elim
 rename_i c m;split at H;rename_i L;split at H;rename_i s x t tx d i k M;split at H;rename_i bv O F q;have n:=IK (ty':=o.type) H I (b _ _ F) (b _ _ q);intro B e;obtain⟨v,D,h',r,z⟩:=n B e;refine .inl ⟨v,D,h',?_,z⟩;have y:execOp σ o=(Us c.argTypes o.type (c.args.map σ) >>= λx=>(WW (WY x):Sem Next)):=by simp only[execOp,m,resolve,L];rfl
 rw[y,toList_eq i,toList_eq k];simp_all;exact H.elim;exact H.elim;exact xT j H I b;exact PK j H I G b;grind [IF];grind [Pn];exact xT j H I b
def hA(P:Program)(gl:Fr)(tr:TypeId)(o:Oper)(ρ:Operand->Option AV)(C R:CS)(K:AV->CS->Option Nat->Prop):Prop:=match uM P o ρ (C++R)with
 |some (pol,n)=>∀b:Bool,(b=Ta->n=0)->K (.g (.a (.v (.bool (bif pol then b else !b))))) C Te
 |none=>nZ P gl tr o ρ C R K
theorem TI(i:Fr.le gl M0){ρ:Operand->Option AV}{K:AV->CS->Option Nat->Prop}(H:hA P gl tr o ρ C R K)(I:Inv h0 W M0 (C++R) γ h)
  (j:∀f,σ (.func f)=.func (.func f) #[] #[]) (b:∀x av,ρ x=Td av->DenV γ av (σ x)):ExA P (execOp σ o) h (jQ h0 W M0 R γ K):=by
 unfold hA at H;split at H;rename_i c n e;exact Nh e H I b;grind [Ii]
def sy:Option AV->Option AV->Option AV
 |some v,_=>Td v
 |none,w=>w
def xE(b:Bool)(x y:AV):Option AV:=match oL x,oL y with
 |some u,some v=>Td (oQ (pO b u v))
 |_,_=>match x,y with
  |.g (.a (.d t xs)),.g (.a (.d t' ys))=>match Qq t' t ys with
   |some ys=>Td (.g (.a (.d t (bif b then xs else ys))))
   |none=>Te
  |_,_=>Te
theorem MQ{b:Bool}{x y z:AV}(h:xE b x y=Td z){u v:Value}(f:b=Ta->DenV γ x u)(c:b=Tc->DenV γ y v):DenV γ z (if b=Ta then u else v):=by
 unfold xE at h;split at h;rename_i p q i k;simp only[Ug]at h;subst h;have e:(if b=Ta then u else v)=pO b p q:=by
  rw[Cx];cases b with
  |true=>simp only[if_true];exact xS i (f rfl)
  |false=>simp only[Vm,if_false];exact xS k (c rfl)
 rw[e];exact Wl γ _;split at h;rename_i t xs t' ys _;split at h;rename_i j l;simp only[Ug]at h;subst h;cases b with
 |true=>exact f rfl
 |false=>exact Y7 l (c rfl)
 cases h;cases h
def sS(e:yz)(c:qk)(x a b:Operand)(K:AV->Prop):Prop:=
 match x with
 |.tmp s=>match lW e s with
  |some (cs,v)=>match oK v with
   |some t=>bif kq cs c then(match sy (iZ e c a) (iZ e ((s,Ta)::cs) a),sy (iZ e c b) (iZ e ((s,Tc)::cs) b)with
    |some va,some vb=>match xE t va vb with
     |some z=>K z
     |none=>False
    |_,_=>False)else False
   |none=>False
  |none=>False
 |_=>False
theorem uX{e:yz}{x a b:Operand}{K:AV->Prop}(H:sS e c x a b K):
  ∃z,K z/\∀(n:Nat) (γ:Gh) (f:Act),SatA n e γ f->valid (qh f) c->∃t,f.eval x=.bool t/\DenV γ z (if t=Ta then f.eval a else f.eval b):=by
 unfold sS at H;split at H;rename_i s;split at H;rename_i cs v p;split at H;rename_i t q;cases hsf:kq cs c with
 |false=>simp_all
 |true=>rw[hsf]at H;simp only[zK]at H;split at H;rename_i u w o i;split at H;rename_i z hz;refine⟨z,H,λn γ f j r=>?_⟩;have h:=Q8 hsf r;have m:qh f s=.bool t:=uU q ((j.all _ (Zj p)).1 h);refine⟨t,m,MQ hz (λl=>?_) (λk=>?_)⟩;unfold sy at o;split at o;grind [Ug,xz];exact xz j (c:=(s,Ta)::cs) ⟨by rw[m,l],h⟩ o;unfold sy at i;split at i;grind [Ug,xz];exact xz j (c:=(s,Tc)::cs) ⟨by rw[m,k],h⟩ i;exact H.elim;exact H.elim
 exact H.elim;exact H.elim;exact H.elim
def oT(P:Program)(gl:Fr)(tr:TypeId)(o:Oper)(e:yz)(c:qk)(C R:CS)(K:AV->CS->Option Nat->Prop):Prop:=
 match o.op with
 |.pick x a b=>sS e c x a b λav=>K av C Te
 |_=>match Xk e c with
  |some none=>hA P gl tr o (iZ e c) C R K
  |some (Td b)=>bif qZ o then vO P gl tr o (iZ e c) b (C++R) (λav=>K av C Te)else qA P gl o (iZ e c) (Td b) (C++R) (λav=>K av C Te)
  |none=>False
theorem Kj(j:Fr.le gl M0){e:yz}{K:AV->CS->Option Nat->Prop}(H:oT P gl tr o e c C R K)(k:SatA n e γ a)(I:Inv h0 W M0 (C++R) γ h)(l:valid (qh a) c):
  ExA P (execOp a.eval o) h (jQ h0 W M0 R γ K):=by
 have F:∀f,a.eval (.func f)=.func (.func f) #[] #[]:=λ_=>rfl;have p:∀x av,iZ e c x=Td av->DenV γ av (a.eval x):=λx av D=>xz k l D;unfold oT at H;split at H;rename_i x y z u;obtain⟨av,h1,i⟩:=uX H;obtain⟨t,w,G⟩:=i n γ a k l;refine λB d=>.inl ⟨_,d,h,?_,av,C,Te,γ,h1,G,I,Gx.refl _ _⟩;simp only[execOp,u,w,asBool,Sem.run_bind,Sem.run_pure,Result.andThen_ok];split at H;grind [TI];rename_i b A;have m:=F9 k A l;cases hic:qZ o with
 |true=>rw[hic]at H;simp only[zK]at H;obtain⟨f,args,h1,i⟩:=(Em (h0:=h0) (W:=W) (M0:=M0) H).2 m j γ h a.eval I F p;refine λB d=>.inr (.inr ⟨f,args,h1 _,i.mono ?_⟩);rintro v h' ⟨av,γ',g1,g2,J,r,_⟩;exact⟨av,C,Te,γ',g1,g2,J,r⟩
 |false=>rw[hic]at H;simp only[zL]at H;obtain⟨av,h1,i⟩:=sY (h0:=h0) (W:=W) (M0:=M0) j H;obtain⟨v,q,E⟩:=i m γ h a.eval I p;exact λB d=>.inl ⟨v,d,h,E B d,av,C,Te,γ,h1,q,I,Gx.refl _ _⟩
 exact H.elim
theorem LU{e:yz}{K:AV->CS->Option Nat->Prop}(H:oT P gl tr o e c C R K)(j:SatA n e γ a)(h:¬valid (qh a) c):∃av,K av C Te:=by
 unfold oT at H;split at H;grind [uX];split at H;grind [Dl];rename_i b i;have f:=Dl j i h;simp only[Ug]at f;cases hic:qZ o with
 |true=>rw[hic]at H;simp only[zK]at H;exact(Em (h0:=#[]) (W:=λ_=>False) (M0:=λ_=>Te) H).1 f
 |false=>rw[hic]at H;simp only[zL]at H;obtain⟨av,h1,_⟩:=sY (h0:=#[]) (W:=λ_=>False) (M0:=gl) (Fr.le.refl _) H;grind
 exact H.elim
def GxS(S:List Nat)(γ γ':Gh):Prop:=Fr.le γ.M γ'.M/\∀i,i∉S->γ'.β i=γ.β i/\γ'.σ i=γ.σ i
theorem GxS.refl(S:List Nat)(γ:Gh):GxS S γ γ:=⟨Fr.le.refl _,λ_ _=>⟨rfl,rfl⟩⟩
theorem GxS.trans{a b c:Gh}(h:GxS S a b)(k:GxS S b c):GxS S a c:=⟨h.1.trans k.1,λi hi=>⟨(k.2 i hi).1.trans (h.2 i hi).1,(k.2 i hi).2.trans (h.2 i hi).2⟩⟩
theorem GxS.mono{S c:List Nat}{a b:Gh}(h:GxS S a b)(f:∀x∈S,x∈c):GxS c a b:=⟨h.1,λi hi=>h.2 i λe=>hi (f i e)⟩
def sd(c:Option Nat)(d:Option Nat):Bool:=match c,d with
 |none,_=>Ta
 |some x,some y=>Nat.beq x y
 |some _,none=>Tc
theorem Gx.toS{c d:Option Nat}{γ γ':Gh}(g:Gx c γ γ')(h:sd c d=Ta)(b:∀i,d=Td i->i∈S):GxS S γ γ':=by
 refine⟨g.1,λi hi=>g.2 i λe=>?_⟩;subst e;cases d with
 |none=>cases h
 |some y=>have:i=y:=UC h;simp_all
def nY(P:Program)(gl:Fr)(tr:TypeId)(n:Nat)(ops:Array Oper)(R:CS)(K:yz->CS->Prop):List Oper->yz->CS->Prop
 |[],e,C=>K (mn e) C
 |o::rest,e,C=>match pN ops e o.guard with
  |some c=>bif wj n c o.dst then oT P gl tr o e c C R (λav b i=>bif sd i o.dst then nY P gl tr n ops R K rest (sQ (te i e) o.dst c av) b else False)else False
  |none=>False
theorem ve{P:Program}{gl:Fr}(r:Fr.le gl M0){tr:TypeId}{n:Nat}{ops:Array Oper}{R:CS}{K:yz->CS->Prop}{Q:Exit->Act->World->Prop}(B:World):
  ∀(l:List Oper) (e:yz) (C:CS) (γ:Gh) (h:zc) (a:Act) (d:Nat),nY P gl tr n ops R K l e C->SatA n e γ a->Inv h0 W M0 (C++R) γ h -> (∀t j γ' k m h',SatA n t γ' k->Inv h0 W M0 (j++R) γ' h'->Same (wv l) a k->GxS (wv l) γ γ'->K t j->Q .normal k (mk B m h'))->wpList P ops Q l a (mk B d h)
 |[],e,C,γ,h,a,d,H,hs,I,hQ=>hQ _ _ _ _ _ _ hs.clean I (Same.refl _ _) (GxS.refl _ _) H
 |o::rest,e,C,γ,h,a,d,H,hs,I,hQ=>by
  unfold nY at H;split at H
  ·rename_i c T;cases hd:wj n c o.dst with
   |false=>simp_all
   |true=>
    rw[hd]at H;simp only[zK]at H;have D:=Fu hs T;have f:∀i,o.dst=Td i->i∈wv (o::rest):=λi hi=>by simp[wv,hi]
    have b:∀x∈wv rest,x∈wv (o::rest):=λx F=>by unfold wv;grind
    have q:∀av u m h' j i γ',(valid (qh a) c->DenV γ' av u)->(¬valid (qh a) c->u=undef)->Inv h0 W M0 (j++R) γ' h'->Gx i γ γ'->(bif sd i o.dst then nY P gl tr n ops R K rest (sQ (te i e) o.dst c av) j else False) ->
      wpList P ops Q rest (a.put o.dst u) (mk B m h'):=λav u m h' j i γ' h1 G L g E=>by
     cases hid:sd i o.dst with
     |false=>simp_all
     |true=>
      rw[hid]at E;exact ve r B rest _ _ _ _ _ _ E ((hs.gx g).putO hd h1 G) L λt w A k z h'' J U N S O=>
       hQ t w A k z h'' J U ((Same.put a o.dst u f).trans (N.mono b)) ((g.toS hid f).trans (S.mono b)) O
    unfold wpList;by_cases p:valid (qh a) c;rw[zA (D.2 p)];refine .inl ((Kj r H hs I p).upon B d ?_);rintro v m h' ⟨av,j,i,γ',g1,g2,V,Y⟩;grind;rw[zv (λF=>p (D.1 F))];obtain⟨av,M⟩:=LU H hs p;exact q av undef d h C Te γ (λy=>absurd y p) (λ_=>rfl) I (Gx.refl _ _) M
  exact H.elim
end
section
variable {cs C R:CS} {γ:Gh} {h:zc} {i:Nat} {e:TypeId} {t:Ty}
variable {h0 : zc} {W : Nat -> Prop} {M0 : Fr}
inductive Shp where
 |dat (t:Ty)
 |own (e:TypeId) (t:Ty)
 deriving DecidableEq
@[reducible] def DS:Shp->Type
 |.dat t=>El t
 |.own _ t=>List (El t)
inductive SG where
 |one (s:Shp)
 |agg (l:List Shp)
structure AnnA where
 slots:List (Nat×SG)
 boxes:List (Nat×List Shp)
 ro:List Nat
 ids:List Nat
abbrev Dy:=(s:Shp)×DS s
@[reducible] def jH:List Shp->Type->Type
 |[],X=>X
 |s::l,X=>DS s->jH l X
def zU(s b:Shp)(x:DS s):Option (DS b):=if h:s=b then Td (h ▸ x)else Te
def pg{X:Type}:(l:List Shp)->jH l X->(List Dy->X->Prop)->Prop
 |[],f,k=>k [] f
 |s::l,f,k=>∀x:DS s,pg l (f x) λvs y=>k (⟨s,x⟩::vs) y
def jW{X:Type}:(l:List Shp)->List Dy->jH l X->Option X
 |[],[],f=>Td f
 |s::l,d::ds,f=>match zU d.1 s d.2 with
  |some x=>jW l ds (f x)
  |none=>Te
 |_,_,_=>Te
def qM{X:Type}:(l:List Shp)->(List Dy->X)->jH l X
 |[],f=>f []
 |s::l,f=>λx=>qM l λvs=>f (⟨s,x⟩::vs)
def pw{X Y:Type}:(l:List Shp)->jH l X->jH l Y->jH l (X×Y)
 |[],f,g=>(f,g)
 |_::l,f,g=>λx=>pw l (f x) (g x)
theorem FK{s b:Shp}{x:DS s}{y:DS b}(h:zU s b x=Td y):(⟨b,y⟩:Dy)=⟨s,x⟩:=by unfold zU at h;grind
theorem Dz{X:Type}:∀{l:List Shp} {vs:List Dy} {f:jH l X} {x:X} {k:List Dy->X->Prop},jW l vs f=Td x->pg l f k->k vs x
 |[],[],f,x,k,h,g=>by have h:=UQ h;subst h;exact g
 |[],_::_,f,x,k,h,g=>by simp[jW]at h
 |_::_,[],f,x,k,h,g=>by simp[jW]at h
 |s::l,d::ds,f,x,k,h,g=>by simp only[jW]at h;split at h;rename_i y b;have:=Dz h (g y);grind [FK];cases h
theorem Cu{X:Type}:∀{l:List Shp} {vs:List Dy} {f:List Dy->X} {x:X},jW l vs (qM l f)=Td x->x=f vs
 |[],[],f,x,h=>(UQ h).symm
 |[],_::_,f,x,h=>by simp[jW]at h
 |_::_,[],f,x,h=>by simp[jW]at h
 |s::l,d::ds,f,x,h=>by simp only[jW,qM]at h;split at h;rename_i y b;have:=Cu h;grind [FK];cases h
theorem BV{X:Type}:∀{l:List Shp} {f:List Dy->X} {k:List Dy->X->Prop},(∀vs,k vs (f vs))->pg l (qM l f) k
 |[],_,_,h=>h []
 |_::_,_,_,h=>λ_=>BV λ_=>h _
structure Pl where
 id:Nat
 s:Shp
 a:AA
def mq(base:Nat):List Shp->List AA->Option (List Pl)
 |[],[]=>Td []
 |s::ss,a::as1=>match mq (base+1) ss as1 with
  |some l=>Td (⟨base,s,a⟩::l)
  |none=>Te
 |_,_=>Te
def pz(e:yz):List (Nat×SG)->Option (List Pl)
 |[]=>Td []
 |(i,sg)::l=>match lW e i,pz e l with
  |some ([],.g x),some r=>match sg,x with
   |.one s,.a a=>Td (⟨100000+64*i,s,a⟩::r)
   |.agg ss,.agg as1=>match mq (100000+64*i) ss as1 with
    |some q=>Td (q++r)
    |none=>Te
   |_,_=>Te
  |_,_=>Te
def qs(C:CS):List (Nat×List Shp)->Option (List Pl)
 |[]=>Td []
 |(c,ss)::l=>match Yg C c,qs C l with
  |some (.box as1),some r=>match mq (1000000+64*c) ss as1 with
   |some q=>Td (q++r)
   |none=>Te
  |_,_=>Te
def MR:SG->List Shp
 |.one s=>[s]
 |.agg l=>l
def BF:List (Nat×SG)->List Shp
 |[]=>[]
 |(_,sg)::l=>MR sg++BF l
def A6:List (Nat×List Shp)->List Shp
 |[]=>[]
 |(_,ss)::l=>ss++A6 l
def jn(J:AnnA):List Shp:=BF J.slots++A6 J.boxes
def oC:List Pl->List Nat
 |[]=>[]
 |⟨_,.dat _,.own c⟩::l=>c::oC l
 |_::l=>oC l
def pH(c:Nat):List Pl->Bool
 |[]=>Tc
 |p::l=>bif (bif Nat.beq p.id c then Ta else mE c p.a)then Ta else pH c l
def lK(R:CS):List Pl->CS->Option CS
 |[],C=>Td C
 |p::l,C=>match p.s with
  |.dat _=>lK R l C
  |.own e t=>bif pH p.id l then Te else(match p.a with
   |.own c=>match Yg C c with
    |some (.row e' t' xs)=>match Qq (.row t') (.row t) xs with
     |some ys=>bif Nat.beq e e' then(bif Nat.beq c p.id then lK R l C else(bif Zo p.id R then lK R l ((p.id,.row e t ys)::ym p.id (io c C))else Te))else Te
     |none=>Te
    |_=>Te
   |.v (.slice Te 0 0)=>bif Zo p.id R then lK R l ((p.id,.row e t [])::ym p.id C)else Te
   |_=>Te)
theorem Bz(I:Inv h0 W M0 cs γ h){x y:Nat×Ch}(j:x∈cs)(f:y∈cs)(e:x≠y):∀b,blk γ x.1 x.2=Td b->blk γ y.1 y.2≠Td b:= @pJ _ (λ(x y:Nat×Ch)=>∀b,blk γ x.1 x.2=Td b->blk γ y.1 y.2≠Td b) (λx y h b i c=>h b c i) _ I.apart _ _ j f e
theorem Inv.rename(I:Inv h0 W M0 (C++R) γ h){c i:Nat}(o:Zo i R=Ta){xs:List (El t)}(B:(c,Ch.row e t xs)∈C):
  Inv h0 W M0 ((i,.row e t xs)::ym i (io c C)++R) (i8 γ i (γ.σ c)) h:=by
 have f:(ym i (io c C)++R).Sublist (C++R):=(((jy i _).trans (w5 c C))).append_right R;have j:(c,Ch.row e t xs)∈C++R:=Uv R B;have r:∀x∈ym i (io c C)++R,∀b,blk γ c (.row e t xs)=Td b->blk γ x.1 x.2≠Td b:=by
  intro x k b l n;have m:x≠(c,Ch.row e t xs):=by rintro rfl;rcases Uo.1 k with k|k;exact(Qw ((jy i _).subset k)).2 rfl;have y:=I.apart;grind
  exact Bz I (f.subset k) j m b n l
 have z:Inv h0 W M0 (ym i (io c C)++R) (i8 γ i (γ.σ c)) h:= I.rest f (Zp γ i _) (nG o) (λx k b l=>⟨rfl,(I.sep x (f.subset k) b l).2⟩) I.ag (λ_ _ _=>rfl) (Uf _) (λ_ _=>rfl);obtain⟨cells,h1,p,A,q⟩:=I.den _ j;have w:∀b,blk (i8 γ i (γ.σ c)) i (.row e t xs)=Td b->blk γ c (.row e t xs)=Td b:=λb l=>by simpa[blk,qq]using l
 refine z.cons ⟨cells,by rw[qq];exact h1,p,A,by rw[qq];exact q⟩ (λb l=>I.sep _ j b (w b l)) (λb l x k u=>?_);rw[nI (Zp γ i _) _ (nG o x k).1]at u;simp_all
theorem Inv.nilRow(I:Inv h0 W M0 (C++R) γ h)(k:Zo i R=Ta)(e:TypeId)(t:Ty):
  Inv h0 W M0 ((i,.row e t [])::ym i C++R) (i8 γ i ⟨Te,0,0⟩) h:=by
 have c:=(jy i C).append_right R;have j:Inv h0 W M0 (ym i C++R) (i8 γ i ⟨Te,0,0⟩) h:= I.rest c (Zp γ i _) (nG k) (λx l b f=>⟨rfl,(I.sep x (c.subset l) b f).2⟩) I.ag (λ_ _ _=>rfl) (Uf _) (λ_ _=>rfl);refine j.cons ⟨[],by rw[qq];exact Owns.nil _ _ _ _,RowC.nil _ _,by simp,by rw[qq];rfl⟩ (λb f=>by simp[blk,qq]at f) (λb f=>by simp[blk,qq]at f)
theorem Bi{c:Nat}:∀{l:List Pl},pH c l=Tc->∀p∈l,p.id≠c/\mE c p.a=Tc
 |[],_,p,b=>by cases b
 |q::l,h,p,b=>by
  simp only[pH]at h;cases hq:(bif Nat.beq q.id c then Ta else mE c q.a)with
  |true=>simp_all
  |false=>
   rw[hq]at h;rcases Up.1 b with rfl|b;cases hb:Nat.beq p.id c with
   |true=>simp_all
   |false=>rw[hb]at hq;exact⟨λe=>by simp_all,hq⟩
   exact Bi h p b
def jM:List Pl->List Nat
 |[]=>[]
 |p::l=>p.id::jM l
theorem vf{R:CS}{h:zc}:∀{l:List Pl} {C o:CS} {γ:Gh},lK R l C=Td o->Inv h0 W M0 (C++R) γ h ->
  ∃f,Inv h0 W M0 (o++R) f h/\GxS (jM l) γ f/\(f.M=γ.M/\f.β=γ.β)/\∀p∈l,∀e t,p.s=.own e t->∀u,DenA γ p.a u->DenA f (.own p.id) u
 |[],C,o,γ,hn,I=>by simp only[lK,Ug]at hn;grind [GxS.refl]
 |p::l,C,o,γ,hn,I=>by
  have O:∀{S:List Nat} {a b:Gh},GxS (jM l) a b->GxS (jM (p::l)) a b:=λg=>g.mono λx Z=>UG _ Z;have j:∀s,GxS (jM (p::l)) γ (i8 γ p.id s):=λs=>⟨Fr.le.refl _,λi hi=>(Zp γ p.id s).2 i (by simp only[jM,Up,not_or]at hi;grind)⟩;simp only[lK]at hn;split at hn;rename_i t Y;obtain⟨f,F,g1,A,h1⟩:=vf hn I;exact⟨f,F,O (S:=[]) g1,A,λq w e t' z=>by grind⟩
  ·rename_i e t Y;cases hm:pH p.id l with
   |true=>simp_all
   |false=>
    rw[hm]at hn;simp only[zL]at hn;have r:=Bi hm;have fin:∀{E:CS} {k:Gh},lK R l E=Td o->Inv h0 W M0 (E++R) k h->GxS (jM (p::l)) γ k->(k.M=γ.M/\k.β=γ.β)->(∀i,i≠p.id->k.σ i=γ.σ i/\k.β i=γ.β i)->(∀u,DenA γ p.a u->DenA k (.own p.id) u) ->
      ∃f,Inv h0 W M0 (o++R) f h/\GxS (jM (p::l)) γ f/\(f.M=γ.M/\f.β=γ.β)/\∀q∈p::l,∀e t,q.s=.own e t->∀u,DenA γ q.a u->DenA f (.own q.id) u:=by
     intro E k H U g2 D J B;obtain⟨f,F,g1,A,h1⟩:=vf H U;refine⟨f,F,g2.trans (O (S:=[]) g1),⟨A.1.trans D.1,A.2.trans D.2⟩,λq w G t' z u m=>?_⟩;rcases Up.1 w with rfl|w;have T:=B u m;have L:q.id∉jM l:=by
      intro hi;have:∀{l:List Pl},q.id∈jM l->∃p∈l,p.id=q.id:=by
       intro l;induction l with
       |nil=>intro h;cases h
       |cons x l ih=>intro h;simp only[jM,Up]at h;grind
      obtain⟨y,V,e⟩:=this hi;exact(r y V).1 e
     rw[show u=_ from T];simp only[DenA,(g1.2 _ L).2];refine h1 q w G t' z u ?_;have gx:Gx (Td p.id) γ k:=⟨by rw[D.1];exact Fr.le.refl _,λi hi=>by grind⟩;exact m.gx gx (r q w).2
    split at hn;rename_i c N;split at hn;rename_i G t' xs hc;split at hn;rename_i ys n;obtain⟨e1,P⟩:=Ym n;subst e1;simp only at P;subst P;cases hee:Nat.beq e G with
    |false=>simp_all
    |true=>
     rw[hee]at hn;have:=UC hee;subst this;simp only[zK]at hn;cases hci:Nat.beq c p.id with
     |true=>rw[hci]at hn;simp only[zK]at hn;have Q:=UC hci;exact fin hn I (GxS.refl _ _) ⟨rfl,rfl⟩ (λ_ _=>⟨rfl,rfl⟩) (λu m=>by simp_all)
     |false=>
      rw[hci]at hn;simp only[zL]at hn;cases hR:Zo p.id R with
      |false=>simp_all
      |true=>rw[hR]at hn;simp only[zK]at hn;refine fin hn (I.rename hR (qf hc)) (j _) ⟨rfl,rfl⟩ (λi hi=>?_) (λu m=>?_);have:=(Zp γ p.id (γ.σ c)).2 i (by grind);simp_all;rw[N]at m;rw[show u=_ from m];simp only[DenA,qq]
    cases hn;cases hn;rename_i N;cases hR:Zo p.id R with
    |false=>simp_all
    |true=>rw[hR]at hn;simp only[zK]at hn;refine fin hn (I.nilRow hR e t) (j _) ⟨rfl,rfl⟩ (λi hi=>?_) (λu m=>?_);have:=(Zp γ p.id ⟨Te,0,0⟩).2 i (by grind);simp_all;rw[N]at m;rw[show u=_ from m];simp only[DenA,qq];rfl
    cases hn
def BO(b cs:CS)(p:Pl):Option Dy:=match p.s with
 |.dat t=>match kY b t p.a with
  |some x=>Td ⟨.dat t,x⟩
  |none=>Te
 |.own e t=>match Yg cs p.id with
  |some (.row e' t' xs)=>match Qq (.row t') (.row t) xs with
   |some ys=>bif Nat.beq e e' then Td ⟨.own e t,ys⟩else Te
   |none=>Te
  |_=>Te
def jG(b cs:CS):List Pl->Option (List Dy)
 |[]=>Td []
 |p::l=>match BO b cs p,jG b cs l with
  |some d,some v=>Td (d::v)
  |_,_=>Te
def rM(i:Nat):Dy->AA
 |⟨.dat t,x⟩=>match Yf t x with
  |[a]=>a
  |_=>.v undef
 |⟨.own _ _,_⟩=>.own i
def r8:Nat->List Dy->List AA
 |_,[]=>[]
 |i,d::l=>rM i d::r8 (i+1) l
def oz(i:Nat):Dy->CS
 |⟨.own e t,xs⟩=>[(i,.row e t xs)]
 |_=>[]
def od:Nat->List Dy->CS
 |_,[]=>[]
 |i,d::l=>oz i d++od (i+1) l
theorem AO{x:El t}{u:Value}(h:Rd γ.M t x [u]):DenA γ (rM i ⟨.dat t,x⟩) u:=by
 have b:=wo (γ:=γ) h;unfold rM
 match hx:Yf t x,b with
 |[a],b=>simp only[hx];exact b.1
 |[],b=>exact b.elim
 |_::_::_,b=>exact b.2.elim
theorem ON{t':Ty}{xs:List (El t')}{ys:List (El t)}(h:Qq (.row t') (.row t) xs=Td ys):Ch.row e t' xs=Ch.row e t ys:=by grind [Ym]
theorem EH{b cs:CS}{p:Pl}{l:List Pl}{v:List Dy}(h:jG b cs (p::l)=Td v):∃d w,v=d::w/\jG b cs l=Td w /\
  ((∃t x,p.s=.dat t/\d=⟨.dat t,x⟩/\kY b t p.a=Td x)\/(∃e t xs,p.s=.own e t/\d=⟨.own e t,xs⟩/\(p.id,Ch.row e t xs)∈cs)):=by
 simp only[jG]at h;split at h;rename_i d w h1 c;have h:=UQ h;refine⟨d,w,h.symm,c,?_⟩;unfold BO at h1;split at h1;grind;rename_i e t f;split at h1;rename_i i t' xs j;split at h1;rename_i ys k;cases he:Nat.beq e i with
 |false=>simp_all
 |true=>rw[he]at h1;refine .inr ⟨e,t,ys,f,(UQ (show Td (⟨.own e t,ys⟩:Dy)=Td d from h1)).symm,?_⟩;grind [qf,ON,UC]
 cases h1;cases h1;cases h
theorem Y9{b cs:CS}:∀{q r:List Pl} {v:List Dy},jG b cs (q++r)=Td v->∃c e,v=c++e/\c.length=q.length/\jG b cs q=Td c/\jG b cs r=Td e
 |[],r,v,h=>⟨[],v,rfl,rfl,rfl,h⟩
 |p::q,r,v,h=>by simp only[U8,jG]at h;split at h;rename_i d w h1 j;have h:=UQ h;obtain⟨c,e,rfl,f,k,i⟩:=Y9 j;exact⟨d::c,e,by rw[<-h];rfl,by simp[f],by simp only[jG,h1,k],i⟩;cases h
theorem Ca{base:Nat}:∀{ss:List Shp} {b:List AA} {l:List Pl},mq base ss b=Td l->l.length=ss.length/\∀{γ k:Gh} {c f:CS} {v:List Dy} {us:List Value},lu γ c->k.M=γ.M->jG c f l=Td v ->
   (∀p∈l,∀e t,p.s=.own e t->∀u,DenA γ p.a u->DenA k (.own p.id) u)->All2 (DenA γ) b us->All2 (DenA k) (r8 base v) us/\∀x∈od base v,x∈f:=by
 intro ss;induction ss generalizing base with
 |nil=>
  intro b l h;cases b with
  |nil=>
   simp only[mq,Ug]at h;subst h;refine⟨rfl,λn m j o i=>?_⟩;have j:=UQ j;subst j;refine⟨?_,λx G=>by cases G⟩;rename_i us;cases us with
   |nil=>trivial
   |cons _ _=>exact i.elim
  |cons a b=>simp[mq]at h
 |cons s ss r=>
  intro b l h;cases b with
  |nil=>simp[mq]at h
  |cons a b=>
   simp only[mq]at h;split at h;rename_i L E;simp only[Ug]at h;subst h;obtain⟨H,r⟩:=r E;refine⟨by simp[H],λ {γ k c f v us} n m j o i=>?_⟩;obtain⟨d,w,rfl,B,F⟩:=EH j;cases us with
   |nil=>exact i.elim
   |cons u us=>obtain⟨A,C⟩:=r n m B (λp D=>o p (UG _ D)) i.2;rcases F with⟨t,x,z,rfl,I⟩|⟨e,t,xs,z,rfl,J⟩;have:=ji n I i.1;rw[<-m]at this;refine⟨⟨AO this,A⟩,λy q=>C y ?_⟩;simpa[od,oz]using q;refine⟨⟨o _ UF e t z u i.1,A⟩,λy q=>?_⟩;simp only[od,oz,U8,Vw,Up]at q;grind
   cases h
def ng:List (Nat×SG)->List Dy->yz
 |[],_=>[]
 |(i,.one _)::l,d::ds=>(i,[],.g (.a (rM (100000+64*i) d)))::ng l ds
 |(_,.one _)::_,[]=>[]
 |(i,.agg ss)::l,ds=>(i,[],.g (.agg (r8 (100000+64*i) (ds.take ss.length))))::ng l (ds.drop ss.length)
def Ja:List (Nat×SG)->List Dy->CS
 |[],_=>[]
 |(i,.one _)::l,d::ds=>oz (100000+64*i) d++Ja l ds
 |(_,.one _)::_,[]=>[]
 |(i,.agg ss)::l,ds=>od (100000+64*i) (ds.take ss.length)++Ja l (ds.drop ss.length)
def tU:List (Nat×List Shp)->List Dy->CS
 |[],_=>[]
 |(c,ss)::l,ds=>(c,.box (r8 (1000000+64*c) (ds.take ss.length)))::(od (1000000+64*c) (ds.take ss.length)++tU l (ds.drop ss.length))
def nh:List (Nat×SG)->Nat
 |[]=>0
 |(_,.one _)::l=>1+nh l
 |(_,.agg ss)::l=>ss.length+nh l
def mM(J:AnnA)(b:List Dy):yz:=ng J.slots b
def mi(J:AnnA)(b:List Dy):CS:=Ja J.slots b++tU J.boxes (b.drop (nh J.slots))
theorem Jb{e:yz}{n:Nat}{a:Act}:∀{ss:List (Nat×SG)} {l:List Pl},pz e ss=Td l->l.length=nh ss/\∀{γ A:Gh} {f j:CS} {v w:List Dy},SatA n e γ a->lu γ f->A.M=γ.M->jG f j l=Td v ->
   (∀p∈l,∀e t,p.s=.own e t->∀u,DenA γ p.a u->DenA A (.own p.id) u)->(∀x∈ng ss (v++w),mP A (qh a) x)/\∀x∈Ja ss (v++w),x∈j
 |[],l,h=>by simp only[pz,Ug]at h;subst h;refine⟨rfl,λ_ _ _ k _=>?_⟩;have k:=UQ k;subst k;exact⟨λx L=>(by cases L),λx L=>(by cases L)⟩
 |(i,sg)::ss,l,h=>by
  simp only[pz]at h;split at h;rename_i x r Q S;split at h;rename_i s aa;simp only[Ug]at h;subst h;obtain⟨N,O⟩:=Jb (n:=n) (a:=a) S;refine⟨by simp[N,nh];omega,λ {γ A f j v w} E C z k D=>?_⟩;obtain⟨d,v',rfl,V,h3⟩:=EH k;obtain⟨i1,P⟩:=O (w:=w) E C z V (λp m=>D p (UG _ m));have c:DenA γ aa (qh a i):=(E.all _ (Zj Q)).1 trivial;rcases h3 with⟨t,x,o,rfl,hc⟩|⟨Z,t,xs,o,rfl,hm⟩;have:=ji C hc c;rw[<-z]at this;refine⟨λy b=>?_,λy b=>?_⟩;simp only[U8,ng,Up]at b;rcases b with rfl|b;exact⟨λ_=>AO this,λF=>absurd trivial F⟩;grind;simp only[U8,Ja,oz,Vw]at b;exact P y b;refine⟨λy b=>?_,λy b=>?_⟩;simp only[U8,ng,Up]at b;rcases b with rfl|b;exact⟨λ_=>D _ UF Z t o _ c,λF=>absurd trivial F⟩;grind;simp only[U8,Ja,oz,Vw,Up]at b;grind;rename_i B G;split at h;rename_i q Y;simp only[Ug]at h;subst h;obtain⟨N,O⟩:=Jb (n:=n) (a:=a) S;obtain⟨I,m⟩:=Ca Y;refine⟨by simp[N,I,nh],λ {γ A f j v w} E C z k D=>?_⟩;obtain⟨H,J,rfl,U,d1,d2⟩:=Y9 k;obtain⟨i1,P⟩:=O (w:=w) E C z d2 (λp m=>D p (UH _ m));obtain⟨us,hu,c⟩:=(show ∃us,qh a i=.agg us.toArray/\All2 (DenA γ) G us from(E.all _ (Zj Q)).1 trivial);obtain⟨p1,p2⟩:=m C z d1 (λp m=>D p (Uv _ m)) c;have et:(H++J++w).take B.length=H:=by rw[<-I,<-U,UK,List.take_left]
  have T:(H++J++w).drop B.length=J++w:=by rw[<-I,<-U,UK,List.drop_left]
  refine⟨λy b=>?_,λy b=>?_⟩;simp only[ng,et,T,Up]at b;rcases b with rfl|b;exact⟨λ_=>⟨us,hu,p1⟩,λF=>absurd trivial F⟩;grind;simp only[Ja,et,T,Uo]at b;grind;cases h;cases h;cases h
theorem EW{y:CS}:∀{bs:List (Nat×List Shp)} {l:List Pl},qs y bs=Td l->∀{R:CS} {γ m:Gh} {i j:CS} {v:List Dy} {h:zc},Inv h0 W M0 (y++R) γ h->lu γ i->m.M=γ.M->m.β=γ.β->jG i j l=Td v -> (∀p∈l,∀e t,p.s=.own e t->∀u,DenA γ p.a u->DenA m (.own p.id) u) ->
   ∀x∈tU bs v,x∈j\/(DenC h0.size m h x.1 x.2/\(∃f,(x.1,Ch.box f)∈y)/\(∃f,x.2=Ch.box f)/\∃ss,(x.1,ss)∈bs)
 |[],l,b,R,γ,m,i,j,v,h,I,hf,hM,hβ,hd,ho,x,k=>by cases k
 |(c,ss)::bs,l,b,R,γ,m,i,j,v,h,I,hf,hM,hβ,hd,ho,x,k=>by
  simp only[qs]at b;split at b;rename_i f r C F;split at b;rename_i q D;simp only[Ug]at b;subst b;obtain⟨A,o⟩:=Ca D;obtain⟨w,z,rfl,B,d1,d2⟩:=Y9 hd;obtain⟨us,O,n⟩:=I.den _ (Uv R (qf C));obtain⟨E,L⟩:=o hf hM d1 (λp b=>ho p (Uv _ b)) n;have et:(w++z).take ss.length=w:=by rw[<-A,<-B,List.take_left]
  have G:(w++z).drop ss.length=z:=by rw[<-A,<-B,List.drop_left]
  simp only[tU,et,G,Up,Uo]at k;rcases k with rfl|k|k;exact .inr ⟨⟨us,by grind,E⟩,⟨f,qf C⟩,⟨_,rfl⟩,ss,UF⟩;simp_all;rcases EW F I hf hM hβ d2 (λp b=>ho p (UH _ b)) x k with h1|⟨h1,J,P,H,N⟩;grind;grind;cases b;cases b
def pC(C:CS):List (Nat×List Shp)->Bool
 |[]=>Ta
 |(c,_)::l=>match Yg C c with
  |some (.box _)=>pC C l
  |_=>Tc
theorem C6{C:CS}:∀{l:List (Nat×List Shp)},pC C l=Ta->∀c ss,(c,ss)∈l->∃b,(c,Ch.box b)∈C
 |[],_,c,ss,h=>by cases h
 |(c',ss')::l,hb,c,ss,h=>by simp only[pC]at hb;split at hb;rename_i b e;rcases Up.1 h with h|h;grind [qf];exact C6 hb c ss h;cases hb
def nP:CS->Bool
 |[]=>Ta
 |(c,_)::l=>bif kw c l then nP l else Tc
theorem Bc:∀{l:CS},nP l=Ta->l.Pairwise λx y=>x.1≠y.1
 |[],_=>.nil
 |(c,k)::l,h=>by
  simp only[nP]at h;cases hn:kw c l with
  |false=>simp_all
  |true=>rw[hn]at h;exact VB.2 ⟨λy b e=>Xm hn y b e.symm,Bc h⟩
def allIn(S:List Nat):List Nat->Bool
 |[]=>Ta
 |i::l=>bif J0 S i then allIn S l else Tc
theorem Px{l:List Nat}(h:J0 l i=Ta):i∈l:=by
 induction l with
 |nil=>cases h
 |cons j l b=>simp only[J0]at h;grind [UC,UF,UG]
theorem Gi{S:List Nat}:∀{l:List Nat},allIn S l=Ta->∀i∈l,i∈S
 |[],_,i,h=>by cases h
 |j::l,hl,i,h=>by
  simp only[allIn]at hl;cases hm:J0 S j with
  |false=>simp_all
  |true=>rw[hm]at hl;rcases Up.1 h with rfl|h;exact Px hm;exact Gi hl i h
theorem Inv.pick{C F R:CS}(I:Inv h0 W M0 (C++R) γ h)(hnd:nP F=Ta)(hsrc:∀x∈F,DenC h0.size γ h x.1 x.2/\∃k,(x.1,k)∈C/\blk γ x.1 k=blk γ x.1 x.2):Inv h0 W M0 (F++R) γ h where
 ag:=I.ag
 frame:=I.frame
 size:=I.size
 old:=I.old
 le:=I.le
 den:=λx hx=>by rcases Uo.1 hx with hx|hx;simp_all;exact I.den x (UH _ hx)
 sep:=λx hx b hb=>by rcases Uo.1 hx with hx|hx;obtain⟨_,k,hk,e⟩:=hsrc x hx;exact I.sep _ (Uv _ hk) b (by grind);exact I.sep x (UH _ hx) b hb
 apart:=by have hI:=I.apart;rw[WN]at hI ⊢;refine⟨(Bc hnd).imp_of_mem λ {x y} hx hy hne b hb hb'=>?_,hI.2.1,λx hx y hy b hb=>?_⟩;obtain⟨_,k,hk,e⟩:=hsrc x hx;obtain⟨_,k',hk',e'⟩:=hsrc y hy;exact Bz I (Uv R hk) (Uv R hk') (λe2=>hne (Prod.mk.inj e2).1) b (by grind) (by grind);grind
def rW(J:AnnA)(R:CS)(e:yz)(C:CS):Option (List Dy):=
 match pz e J.slots,qs C J.boxes with
 |some ps,some pb=>match qs (frzL (oC (ps++pb)) C) J.boxes with
  |some b=>match lK R (ps++b) (frzL (oC (ps++pb)) C)with
   |some c=>bif pC c J.boxes then(bif allIn J.ids (jM (ps++b))then(match jG (frzL (oC (ps++pb)) C++R) c (ps++b)with
    |some f=>bif nP (mi J f)then Td f else Te
    |none=>Te)else Te)else Te
   |none=>Te
  |none=>Te
 |_,_=>Te
theorem zS{J:AnnA}{e:yz}{k:List Dy}(b:rW J R e C=Td k){n:Nat}{a:Act}(U:SatA n e γ a)(I:Inv h0 W M0 (C++R) γ h):
  ∃c,Inv h0 W M0 (mi J k++R) c h/\GxS J.ids γ c/\∀x∈mM J k,mP c (qh a) x:=by
 unfold rW at b;split at b
 ·rename_i ps pb A H;split at b
  ·rename_i m f;split at b
   ·rename_i S B;cases hbi:pC S J.boxes with
    |false=>simp_all
    |true=>
    rw[hbi]at b;cases hai:allIn J.ids (jM (ps++m))with
    |false=>simp_all
    |true=>
    rw[hai]at b;simp only[zK]at b;split at b
    ·rename_i j o;cases hnd:nP (mi J j)with
     |false=>simp_all
     |true=>
     rw[hnd]at b;have b:=UQ (show Td j=Td k from b);subst b;obtain⟨γ0,l,g0⟩:=Inv.frzL (C:=C) (γ:=γ) (oC (ps++pb)) I;have r:=U.gx0 g0;obtain⟨c,q,g1,⟨E,Q⟩,G⟩:=vf B l;obtain⟨P,z,rfl,l1,d1,d2⟩:=Y9 o;obtain⟨e1,t⟩:=Jb (n:=n) (a:=a) A;obtain⟨N,Z⟩:=t (w:=z) r l.fz E d1 (λp y=>G p (Uv _ y));have u:=EW f l l.fz E Q d2 (λp y=>G p (UH _ y));have V:(P++z).drop (nh J.slots)=z:=by rw[<-e1,<-l1,List.drop_left]
     have L:GxS J.ids γ c:=⟨g0.1.trans g1.1,λi hi=>by have D:=g1.2 i (λY=>hi (Gi hai i Y));have h1:=g0.2 i (by simp);simp_all⟩;refine⟨c,q.pick hnd λx b=>?_,L,N⟩;unfold mi at b;rw[V]at b;rcases Uo.1 b with b|b;have:=Z x b;exact⟨q.den x (Uv _ this),x.2,this,rfl⟩;rcases u x b with h1|⟨h1,_,⟨M,D⟩,ss,T⟩;exact⟨q.den x (Uv _ h1),x.2,h1,rfl⟩;obtain⟨F,O⟩:=C6 hbi _ _ T;exact⟨h1,_,O,by rw[D];rfl⟩
    cases b
   cases b
  cases b
 cases b
theorem Io{α:Type}{R:α->α->Prop}(i:∀x y,R x y->R y x){l b:List α}(p:l.Perm b):l.Pairwise R->b.Pairwise R:=by
 induction p with
 |nil=>exact id
 |cons x p f=>intro h;rw[VB]at h ⊢;grind
 |swap x y l=>simp_all
 |trans _ _ c e=>simp_all
theorem Inv.perm{cs cs':CS}(I:Inv h0 W M0 cs γ h)(p:cs.Perm cs'):Inv h0 W M0 cs' γ h where
 ag:=I.ag
 frame:=I.frame
 size:=I.size
 old:=I.old
 le:=I.le
 den:=λx hx=>I.den x (p.symm.subset hx)
 sep:=λx hx=>I.sep x (p.symm.subset hx)
 apart:=Io (λx y h b hb hb'=>h b hb' hb) p I.apart
end
section
variable {P:Program} {gl:Fr}
variable {h0 : zc} {W : Nat -> Prop} {M0 : Fr}
def xN(P:Program)(gl:Fr)(o:Oper)(e:yz)(c:qk)(cs:CS)(K:AV->Prop):Prop:=
 match o.op with
 |.pick x a b=>sS e c x a b K
 |_=>match Xk e c with
  |some g=>qA P gl o (iZ e c) g cs K
  |none=>False
def pf(P:Program)(gl:Fr)(n:Nat)(ops:Array Oper)(cs:CS)(K:yz->Prop):List Oper->yz->Prop
 |[],e=>K e
 |o::rest,e=>match pN ops e o.guard with
  |some c=>bif wj n c o.dst then xN P gl o e c cs λv=>pf P gl n ops cs K rest (sQ e o.dst c v)else False
  |none=>False
theorem TD(j:Fr.le gl M0){o:Oper}{e:yz}{c:qk}{cs:CS}{K:AV->Prop}(H:xN P gl o e c cs K):∃av,K av/\∀(n:Nat) (γ:Gh) (a:Act) (h:zc),SatA n e γ a->Inv h0 W M0 cs γ h->valid (qh a) c->∃v,DenV γ av v/\QExec P (execOp a.eval o) h (.value v):=by unfold xN at H;split at H;rename_i x y z k;obtain⟨av,h1,i⟩:=uX H;refine⟨av,h1,λn γ a h b I f=>?_⟩;obtain⟨t,l,q⟩:=i n γ a b f;refine⟨_,q,λB d=>?_⟩;simp only[execOp,k,l,asBool,Sem.run_bind,Sem.run_pure,Result.andThen_ok];split at H;rename_i g m;obtain⟨av,h1,i⟩:=sY (h0:=h0) (W:=W) (M0:=M0) j H;exact⟨av,h1,λn γ a h b I f=>i (F9 b m f) γ h a.eval I λx av p=>xz b f p⟩;exact H.elim
theorem uP{P:Program}{gl:Fr}(q:Fr.le gl M0){n:Nat}{ops:Array Oper}{cs:CS}{K:yz->Prop}{Q:Act->Prop}{γ:Gh}{h:zc}(I:Inv h0 W M0 cs γ h)(B:World)(d:Nat):
  ∀(l:List Oper) (e:yz) (a:Act),pf P gl n ops cs K l e->SatA n e γ a->(∀r k,SatA n r γ k->Same (wv l) a k->K r->Q k)->wpStill P ops (mk B d h) Q l a
 |[],e,a,H,hs,hQ=>hQ _ _ hs (Same.refl _ _) H
 |o::rest,e,a,H,hs,hQ=>by
  unfold pf at H;split at H;rename_i c E;cases hd:wj n c o.dst with
  |false=>rw[hd]at H;exact H.elim
  |true=>
   rw[hd]at H;simp only[zK]at H;have y:=Fu hs E;have m:∀i,o.dst=Td i->i∈wv (o::rest):=λi hi=>by simp[wv,hi]
   have j:∀x∈wv rest,x∈wv (o::rest):=λx t=>by unfold wv;split;exact UG _ t;exact t
   obtain⟨av,A,D⟩:=TD (h0:=h0) (W:=W) (M0:=M0) q H;have b:∀u,(valid (qh a) c->DenV γ av u)->(¬valid (qh a) c->u=undef)->wpStill P ops (mk B d h) Q rest (a.put o.dst u):=λu h1 w=>
    uP q I B d rest _ _ A (hs.putO hd h1 w) λr k z F C=>hQ r k z ((Same.put a o.dst u m).trans (F.mono j)) C
   unfold wpStill;by_cases p:valid (qh a) c;rw[zA (y.2 p)];unfold Oper.still;obtain⟨v,h1,w⟩:=D n γ a h hs I p;rw[w B d,Oper.stillUpon_value];exact b v (λ_=>h1) (λf=>absurd p f);rw[zv (λt=>p (y.1 t))];exact b undef (λf=>absurd f p) (λ_=>rfl)
  exact H.elim
abbrev pt:=List (Nat×Nat)
def uF(P:Program)(gl:Fr)(tr:TypeId)(n:Nat)(f:pt)(id:Nat)(ops:Array Oper)(b:Bool)(R:CS)(K:yz->CS->Prop)(e:yz)(C:CS):Prop:=
 bif b then(match un f id with
  |none=>bif Region.lexB .any ops then pf P gl n ops (C++R) (λc=>K (mn c) C) ops.toList e else False
  |some m=>bif Region.lexTailB .any ops m then pf P gl n ops (C++R) (λc=>nY P gl tr n ops R K (ops.toList.drop m) c C) (ops.toList.take m) e else False)
 else nY P gl tr n ops R K ops.toList e C
theorem Oa(F:P.follows .mixedOrders=Ta)(f:Fr.le gl M0){tr:TypeId}{n:Nat}{G:pt}{id:Nat}{ops:Array Oper}{c:Bool}{R C:CS}{K:yz->CS->Prop}{e:yz} (H:uF P gl tr n G id ops c R K e C) {γ:Gh} {h:zc} (B:World) (d:Nat) {a:Act} (z:SatA n e γ a) (I:Inv h0 W M0 (C++R) γ h) {Q:Exit->Act->World->Prop}
  (r:∀k E γ' i O h',SatA n k γ' i->Inv h0 W M0 (E++R) γ' h'->Same (wv ops.toList) a i->GxS (wv ops.toList) γ γ'->K k E->Q .normal i (mk B O h')):(YA id ops c).wp P Q a (mk B d h):=by
 unfold uF at H;cases c with
 |false=>exact wp_region_list (ve f B _ _ _ _ _ _ _ H z I r)
 |true=>
  simp only[zK]at H;split at H;cases hB:Region.lexB .any ops with
  |false=>rw[hB]at H;exact H.elim
  |true=>rw[hB]at H;refine wp_region_still F hB ?_;exact uP f I B (d+1) _ _ _ H z λk i t A u=>r _ _ _ _ _ _ t.clean I A (GxS.refl _ _) u
  rename_i m _;cases hB:Region.lexTailB .any ops m with
  |false=>rw[hB]at H;exact H.elim
  |true=>
   rw[hB]at H;have b:wv ops.toList=wv (ops.toList.take m)++wv (ops.toList.drop m):=by rw[<-Y3,Vr]
   have:=wp_region_still_tail (id:=id) (Q:=Q) (a:=a) (w:=mk B d h) (l:=ops.toList) m F (by simpa using hB) (by simp only[Array.toArray_toList];refine uP f I B (d+1) _ _ _ H z λk i t A u=>?_;refine ve f B _ _ _ _ _ _ (d+1) u t I λp q D o y h'' N M L J S=>r p q D o y h'' N M ?_ ?_ S;rw[b];exact(A.mono λx j=>Uv _ j).trans (L.mono λx j=>UH _ j);rw[b];exact J.mono λx j=>UH _ j);simpa using this
end
section
variable {h0 : zc} {W : Nat -> Prop} {M0 : Fr}
abbrev tX:=List (Nat×Nat×List Nat×List Nat×List Nat)
def GB:tX->Nat->Option (Nat×List Nat×List Nat×List Nat)
 |[],_=>Te
 |(j,x)::l,i=>bif Nat.beq i j then Td x else GB l i
def uT(P:Program)(gl:Fr)(tr:TypeId)(n:Nat)(c:pt)(f:tX)(id:Nat)(ops:Array Oper)(b:Bool)(R:CS)(K:yz->CS->Prop)(e:yz)(C:CS):Prop:=
 match GB f id with
 |none=>uF P gl tr n c id ops b R K e C
 |some _=>False
theorem JN{P:Program}(q:P.follows .mixedOrders=Ta){gl:Fr}(f:Fr.le gl M0){tr:TypeId}{n:Nat}{k:pt}{m:tX}{id:Nat}{ops:Array Oper}{b:Bool}{R C:CS}{K:yz->CS->Prop}{e:yz} (H:uT P gl tr n k m id ops b R K e C) {γ:Gh} {h:zc} (B:World) (d:Nat) {a:Act} (o:SatA n e γ a) (I:Inv h0 W M0 (C++R) γ h) {Q:Exit->Act->World->Prop}
  (p:∀j i γ' c l h',SatA n j γ' c->Inv h0 W M0 (i++R) γ' h'->Same (wv ops.toList) a c->GxS (wv ops.toList) γ γ'->K j i->Q .normal c (mk B l h')):(YA id ops b).wp P Q a (mk B d h):=by
 unfold uT at H;split at H;exact Oa q f H B d o I p;exact H.elim
end
section
variable {S:List Nat} {γ γ':Gh} {u:Value} {C R:CS} {h:zc} {n:Nat} {a:Act} {P:Program} {f:FuncId}
variable {h0 : zc} {W : Nat -> Prop} {M0 : Fr}
structure PlanA where
 tails:pt
 draws:tX
 loops:List (Nat×AnnA)
 joins:List (Nat×AnnA)
def pk:List (Nat×AnnA)->Option Nat->Option AnnA
 |[],_=>Te
 |(j,m)::l,some i=>bif Nat.beq i j then Td m else pk l (Td i)
 |_,none=>Te
def ov:AA->List Nat
 |.box j _=>[j]
 |.own j=>[j]
 |.oelt j _ _ _=>[j]
 |_=>[]
def qP(S:List Nat):List AA->Bool
 |[]=>Ta
 |x::l=>bif (match ov x with
  |[]=>Ta
  |j::_=>!(J0 S j))then qP S l else Tc
def sN(S:List Nat):AG->Bool
 |.a x=>qP S [x]
 |.agg l=>qP S l
def rY(S:List Nat):List AG->Bool
 |[]=>Ta
 |x::l=>bif sN S x then rY S l else Tc
def uN(S:List Nat):AV->Bool
 |.g x=>sN S x
 |.tup l=>rY S l
 |.nx _ _ _=>Ta
theorem DenA.gxS(g:GxS S γ γ'){x:AA}(c:(match ov x with
  |[]=>Ta
  |j::_=>!(J0 S j))=Ta)(h:DenA γ x u):DenA γ' x u:=by
 have key:∀j,J0 S j=Tc->γ'.β j=γ.β j/\γ'.σ j=γ.σ j:=λj n=>g.2 j (Ya n);cases x with
 |v y=>exact h
 |d t y=>exact Rd.mono g.1 h
 |box j o=>rw[show u=_ from h];simp only[DenA,(key j (by simpa[ov]using c)).1]
 |own j=>rw[show u=_ from h];simp only[DenA,(key j (by simpa[ov]using c)).2]
 |oelt j z i o=>obtain⟨b,k,l⟩:=h;exact⟨b,by rw[(key j (by simpa[ov]using c)).2];exact k,l⟩
 |elt t y o=>obtain⟨b,f,cs,e,h1,m⟩:=h;exact⟨b,f,cs,e,g.1 _ _ h1,Rd.mono g.1 m⟩
 |dc t xs=>obtain⟨s,k,l,h⟩:=h;exact⟨s,k,l,Rd.mono g.1 h⟩
theorem DenL.gxS{S:List Nat}{γ γ':Gh}(g:GxS S γ γ'):∀{l:List AA} {us:List Value},qP S l=Ta->All2 (DenA γ) l us->All2 (DenA γ') l us
 |[],[],_,_=>trivial
 |[],_::_,_,h=>h.elim
 |_::_,[],_,h=>h.elim
 |x::l,u::us,hm,h=>by
  simp only[qP]at hm;cases hx:(match ov x with
   |[]=>Ta
   |j::_=>!(J0 S j))with
  |false=>simp_all
  |true=>rw[hx]at hm;exact⟨DenA.gxS g hx h.1,DenL.gxS g hm h.2⟩
theorem DenG.gxS(g:GxS S γ γ'){x:AG}(b:sN S x=Ta)(h:DenG γ x u):DenG γ' x u:=by
 cases x with
 |a x=>have:All2 (DenA γ') [x] [u]:=DenL.gxS g b (show All2 (DenA γ) [x] [u]from⟨h,trivial⟩);exact this.1
 |agg l=>obtain⟨us,e,h⟩:=h;exact⟨us,e,DenL.gxS g b h⟩
theorem DenV.gxS(g:GxS S γ γ'){x:AV}(f:uN S x=Ta)(h:DenV γ x u):DenV γ' x u:=by
 cases x with
 |g x=>exact DenG.gxS g f h
 |tup l=>
  obtain⟨us,e,h⟩:=h;refine⟨us,e,?_⟩;have:∀{l:List AG} {us:List Value},rY S l=Ta->All2 (DenG γ) l us->All2 (DenG γ') l us:=by
   intro l;induction l with
   |nil=>intro us _ h;cases us with
    |nil=>trivial
    |cons _ _=>exact h.elim
   |cons x l i=>
    intro us f h;cases us with
    |nil=>exact h.elim
    |cons u us=>
     simp only[rY]at f;cases hx:sN S x with
     |false=>simp_all
     |true=>rw[hx]at f;exact⟨DenG.gxS g hx h.1,i f h.2⟩
  exact this f h
 |nx b p c=>exact h
def kv(ms S:List Nat):yz->yz
 |[]=>[]
 |(i,[],v)::e=>bif J0 ms i then kv ms S e else(bif uN S v then(i,[],v)::kv ms S e else kv ms S e)
 |(_,_::_,_)::e=>kv ms S e
theorem Jc{ms S:List Nat}{γ j:Gh}{a a1:Act}(g:GxS S γ j)(b:Same ms a a1):∀{e:yz},(∀x∈e,mP γ (qh a) x)->∀x∈kv ms S e,mP j (qh a1) x
 |[],_,x,c=>by cases c
 |(i,[],v)::e,h,x,c=>by
  have k:=Jc g b (e:=e) λx c=>h x (UG _ c);simp only[kv]at c;cases hm:J0 ms i with
  |true=>simp_all
  |false=>
   rw[hm]at c;simp only[zL]at c;cases hn:uN S v with
   |false=>simp_all
   |true=>rw[hn]at c;rcases Up.1 c with rfl|c;refine⟨λ_=>?_,λf=>absurd trivial f⟩;have:=(h _ UF).1 trivial;simp only at this ⊢;rw[b _ (Ya hm)];exact this.gxS g hn;grind
 |(_,_::_,_)::e,h,x,c=>Jc g b (e:=e) (λx c=>h x (UG _ c)) x c
def iS(ro:List Nat):CS->CS
 |[]=>[]
 |(c,k)::l=>bif J0 ro c then(c,k)::iS ro l else iS ro l
def m0(ro:List Nat):CS->CS
 |[]=>[]
 |(c,k)::l=>bif J0 ro c then m0 ro l else(c,k)::m0 ro l
theorem AJ(ro:List Nat):∀C:CS,(m0 ro C++iS ro C).Perm C
 |[]=>.nil
 |(c,k)::l=>by
  have b:=AJ ro l;simp only[iS,m0];cases J0 ro c with
  |true=>exact List.perm_middle.trans (b.cons _)
  |false=>exact b.cons _
theorem Inv.part(I:Inv h0 W M0 (C++R) γ h)(ro:List Nat):Inv h0 W M0 (m0 ro C++(iS ro C++R)) γ h:=by rw[<-UK];exact I.perm ((AJ ro C).symm.append_right R)
abbrev kQ:=Exit->yz->CS->Prop
def TP(K:yz->CS->Prop)(Q:kQ):kQ
 |.normal,e,C=>K e C
 |x,e,C=>Q x e C
def FB(id:Nat)(Q:kQ):kQ
 |.exit i,e,C=>bif Nat.beq i id then Q .normal e C else Q (.exit i) e C
 |x,e,C=>Q x e C
def Fq(m:CS)(K:yz->CS->Prop)(Q:kQ):kQ
 |.normal,e,C=>K e C
 |x,e,C=>Q x e (C++m)
def ia(pl:PlanA):Code->List Nat
 |.region _ ops _=>wv ops.toList
 |.seq a b=>ia pl a++(ia pl b++(match pk pl.joins (yo b)with
  |some J=>J.ids
  |none=>[]))
 |.cond _ a b=>ia pl a++ia pl b
 |.block _ b=>ia pl b
 |.loop b=>ia pl b++(match pk pl.loops (yo b)with
  |some J=>J.ids
  |none=>[])
 |_=>[]
def qC{X:Type}(J:AnnA)(R:CS)(F:jH (jn J) X)(e:yz)(C:CS)(k:X->Prop):Prop:=
 match rW J R e C with
 |some b=>match jW (jn J) b F with
  |some q=>k q
  |none=>False
 |none=>False
theorem ud{X:Type}{J:AnnA}{F:jH (jn J) X}{e:yz}{k:X->Prop}(h:qC J R F e C k):∃b q,rW J R e C=Td b/\jW (jn J) b F=Td q/\k q:=by unfold qC at h;grind
def WA(P:Program)(gl:Fr)(tr:TypeId)(n:Nat)(pl:PlanA):Code->CS->kQ->yz->CS->Prop
 |.skip,_,Q,e,C=>Q .normal e C
 |.ret,_,Q,e,C=>Q .ret e C
 |.exit id,_,Q,e,C=>Q (.exit id) e C
 |.label _,_,Q,e,C=>Q .normal e C
 |.goto l,_,Q,e,C=>Q (.goto l) e C
 |.region id ops draw,R,Q,e,C=>uT P gl tr n pl.tails pl.draws id ops draw R (λe C=>Q .normal e C) e C
 |.seq x y,R,Q,e,C=>match pk pl.joins (yo y)with
  |none=>WA P gl tr n pl x R (TP (λe C=>WA P gl tr n pl y R Q e C) Q) e C
  |some J=>∀K:jH (jn J) Prop,pg (jn J) K (λf q=>WA P gl tr n pl y R Q (mM J f++kv (wm x) (J.ids++ia pl x) e) (mi J f++iS J.ro C)->q) ->
    WA P gl tr n pl x (iS J.ro C++R) (Fq (iS J.ro C) (λh i=>qC J (iS J.ro C++R) K h i λq=>q) Q) e (m0 J.ro C)
 |.cond c x y,R,Q,e,C=>match iZ e [] c with
  |some v=>match oK v with
   |some b=>(b=Ta->WA P gl tr n pl x R Q e C)/\(b=Tc->WA P gl tr n pl y R Q e C)
   |none=>False
  |none=>False
 |.block id x,R,Q,e,C=>WA P gl tr n pl x R (FB id Q) e C
 |.loop x,R,Q,e,C=>match pk pl.loops (yo x)with
  |some J=>∃(I:jH (jn J) Prop) (μ:jH (jn J) Nat),qC J (iS J.ro C++R) (pw (jn J) I μ) e (m0 J.ro C) (λp=>p.1) /\
    pg (jn J) (pw (jn J) I μ) λf p=>p.1->WA P gl tr n pl x (iS J.ro C++R) (Fq (iS J.ro C) (λh i=>qC J (iS J.ro C++R) (pw (jn J) I μ) h i λq=>q.1/\q.2<p.2) Q)
     (mM J f++kv (wm x) (J.ids++ia pl x) e) (mi J f)
  |none=>False
 |_,_,_,_,_=>False
def Hw(h0:zc)(W:Nat->Prop)(M0:Fr)(n:Nat)(B:World)(ms S:List Nat)(c:Act)(b:Gh)(R:CS)(Q:kQ):Exit->Act->World->Prop:=
 λx a w=>∃e C γ d h,w=mk B d h/\SatA n e γ a/\Inv h0 W M0 (C++R) γ h/\Same ms c a/\GxS S b γ/\Q x e C
theorem Tt{e:yz}{h γ f:Gh}{a a1:Act}(k:SatA n e h a){ms S ids:List Nat}(j:a1.defers=[])(hz:a1.tmps.size=n)(c:Same ms a a1)(g:GxS S h γ)(g1:GxS ids γ f){J:AnnA}{i:List Dy}
  (l:∀x∈mM J i,mP f (qh a1) x):SatA n (mM J i++kv ms (ids++S) e) f a1:=by
 refine⟨j,hz,λx b=>?_⟩;rcases Uo.1 b with b|b;grind;exact Jc ((g.mono λx b=>UH _ b).trans (g1.mono λx b=>Uv _ b)) c k.all x b
theorem Oh(hm:P.follows .mixedOrders=Ta){gl:Fr}(al:Fr.le gl M0){tr:TypeId}{pl:PlanA}:∀(c:Code) (R:CS) (Q:kQ) (e:yz) (C:CS),WA P gl tr n pl c R Q e C ->
  ∀(γ:Gh) (h:zc) (B:World) (d:Nat) (a:Act),SatA n e γ a->Inv h0 W M0 (C++R) γ h->c.wp P (Hw h0 W M0 n B (wm c) (ia pl c) a γ R Q) a (mk B d h):=by
 intro c;induction c with
 |skip=>exact λR Q e C H γ h B d a f I=>wp_skip ⟨e,C,γ,d,h,rfl,f,I,Same.refl _ _,GxS.refl _ _,H⟩
 |ret=>exact λR Q e C H γ h B d a f I=>wp_ret ⟨e,C,γ,d,h,rfl,f,I,Same.refl _ _,GxS.refl _ _,H⟩
 |exit id=>exact λR Q e C H γ h B d a f I=>wp_exit ⟨e,C,γ,d,h,rfl,f,I,Same.refl _ _,GxS.refl _ _,H⟩
 |label l=>exact λR Q e C H γ h B d a f I=>wp_label ⟨e,C,γ,d,h,rfl,f,I,Same.refl _ _,GxS.refl _ _,H⟩
 |goto l=>exact λR Q e C H γ h B d a f I=>wp_goto ⟨e,C,γ,d,h,rfl,f,I,Same.refl _ _,GxS.refl _ _,H⟩
 |region id ops aC=>exact λR Q e C H γ h B d a f I=>JN hm al H B d f I λe' C' γ' a' d' h' o r q3 q4 q5=>⟨e',C',γ',d',h',rfl,o,r,q3,q4,q5⟩
 |seq x y F L=>
  intro R Q e C H γ h B d a f I;simp only[WA]at H;have U:∀i∈wm x,i∈wm (x.seq y):=λi hi=>Uv _ hi;have hr:∀i∈wm y,i∈wm (x.seq y):=λi hi=>UH _ hi;have V:∀i∈ia pl x,i∈ia pl (x.seq y):=λi hi=>Uv _ hi;have kr:∀i∈ia pl y,i∈ia pl (x.seq y):=λi hi=>UH _ (Uv _ hi);split at H;refine wp_seq (wp_mono (F _ _ _ _ H γ h B d a f I) ?_);rintro ex a1 w1 ⟨O,T,j,d1,h1,rfl,s1,z,u,g1,o⟩;cases ex with
  |normal=>refine wp_mono (L _ _ _ _ o j h1 B d1 a1 s1 z) ?_;rintro ex a2 w2 ⟨E,G,D,d2,t,rfl,s2,M,w,g2,r⟩;exact⟨E,G,D,d2,t,rfl,s2,M,(u.mono U).trans (w.mono hr),(g1.mono V).trans (g2.mono kr),r⟩
  |_=>exact⟨O,T,j,d1,h1,rfl,s1,z,u.mono U,g1.mono V,o⟩
  rename_i J hJ;have kJ:∀i∈J.ids,i∈ia pl (x.seq y):=λi hi=>by simp only[ia,hJ];simp_all
  have H':=H (qM (jn J) λA=>WA P gl tr n pl y R Q (mM J A++kv (wm x) (J.ids++ia pl x) e) (mi J A++iS J.ro C)) (BV λA hq=>hq);refine wp_seq (wp_mono (F _ _ _ _ H' γ h B d a f (I.part J.ro)) ?_);rintro ex a1 w1 ⟨O,T,j,d1,h1,rfl,s1,z,u,g1,o⟩;cases ex with
  |normal=>obtain⟨A,q,hv,hq,hk⟩:=ud o;have aj:=Cu hq;subst aj;obtain⟨ak,Y,Z,f1⟩:=zS hv s1 z;have aa:=Tt f s1.defers s1.size u g1 Z f1;rw[<-UK]at Y;refine wp_mono (L _ _ _ _ hk ak h1 B d1 a1 aa Y) ?_;rintro ex a2 w2 ⟨E,G,D,d2,t,rfl,s2,M,w,g2,r⟩;exact⟨E,G,D,d2,t,rfl,s2,M,(u.mono U).trans (w.mono hr),((g1.mono V).trans (Z.mono kJ)).trans (g2.mono kr),r⟩
  |_=>exact⟨O,T++iS J.ro C,j,d1,h1,rfl,s1,by simp_all,u.mono U,g1.mono V,o⟩
 |cond c x y F L=>intro R Q e C H γ h B d a f I;simp only[WA]at H;have U:∀i∈wm x,i∈wm (XS c x y):=λi hi=>Uv _ hi;have hr:∀i∈wm y,i∈wm (XS c x y):=λi hi=>UH _ hi;have V:∀i∈ia pl x,i∈ia pl (XS c x y):=λi hi=>Uv _ hi;have kr:∀i∈ia pl y,i∈ia pl (XS c x y):=λi hi=>UH _ hi;split at H;rename_i v hv;split at H;rename_i b N;refine wp_cond_split (uU N (xz f (c:=[]) trivial hv)) (λae=>?_) (λan=>?_);refine wp_mono (F _ _ _ _ (H.1 ae) γ h B d a f I) ?_;rintro ex a2 w2 ⟨E,G,D,d2,t,rfl,s2,M,w,g2,r⟩;exact⟨E,G,D,d2,t,rfl,s2,M,w.mono U,g2.mono V,r⟩;refine wp_mono (L _ _ _ _ (H.2 an) γ h B d a f I) ?_;rintro ex a2 w2 ⟨E,G,D,d2,t,rfl,s2,M,w,g2,r⟩;exact⟨E,G,D,d2,t,rfl,s2,M,w.mono hr,g2.mono kr,r⟩;exact H.elim;exact H.elim
 |block id x ih=>
  intro R Q e C H γ h B d a f I;refine wp_block (wp_mono (ih _ _ _ _ H γ h B d a f I) ?_);rintro ex a1 w1 ⟨O,T,j,d1,h1,rfl,s1,z,u,g1,o⟩;cases ex with
  |exit i=>simp only[FB]at o;simp only[Exit.inBlock];by_cases N:Nat.beq i id=Ta;rw[zA (UC N)];simp only[N,zK]at o;exact⟨O,T,j,d1,h1,rfl,s1,z,u,g1,o⟩;rw[zv (λhe=>N (by rw[he];simp))];simp only[N,zL]at o;exact⟨O,T,j,d1,h1,rfl,s1,z,u,g1,o⟩
  |_=>exact⟨O,T,j,d1,h1,rfl,s1,z,u,g1,o⟩
 |loop x ih=>
  intro R Q e C H γ h B d a f I;simp only[WA]at H;split at H;rename_i J hJ;have kx:∀i∈ia pl x,i∈ia pl (Code.loop x):=λi hi=>Uv _ hi;have kJ:∀i∈J.ids,i∈ia pl (Code.loop x):=λi hi=>by simp only[ia,hJ];simp_all
  have kS:∀i∈J.ids++ia pl x,i∈ia pl (Code.loop x):=λi hi=>by grind
  obtain⟨Iv,μ,am,S⟩:=H;obtain⟨ac,p0,az,aA,ay⟩:=ud am;obtain⟨γ0,I0,g0,f0⟩:=zS az f (I.part J.ro);refine wp_loop_ghost (λm a1 w1=>∃d1 h1 j A p,w1=mk B d1 h1/\a1.defers=[]/\a1.tmps.size=n/\Same (wm x) a a1/\GxS (J.ids++ia pl x) γ j/\Inv h0 W M0 (mi J A++(iS J.ro C++R)) j h1/\(∀y∈mM J A,mP j (qh a1) y) /\ jW (jn J) A (pw (jn J) Iv μ)=Td p/\p.1/\p.2=m) p0.2 ⟨d,h,γ0,ac,p0,rfl,f.defers,f.size,Same.refl _ _,g0.mono λi hi=>Uv _ hi,I0,f0,aA,ay,rfl⟩ ?_;rintro m a1 w1 ⟨d1,h1,j,A,p,rfl,ah,ax,k,g1,z,f1,hp,aB,rfl⟩;have s1:SatA n (mM J A++kv (wm x) (J.ids++ia pl x) e) j a1:=⟨ah,ax,λy hy=>by rcases Uo.1 hy with hy|hy;grind;exact Jc g1 k f.all y hy⟩;have N:=Dz hp S aB;refine wp_mono (ih _ _ _ _ N j h1 B d1 a1 s1 z) ?_;rintro ex a2 w2 ⟨E,G,D,d2,t,rfl,s2,M,w,g2,r⟩;cases ex with
  |normal=>obtain⟨af,q,au,hq,ai,ar⟩:=ud r;obtain⟨γ3,I3,g3,f3⟩:=zS au s2 M;exact⟨q.2,ar,d2,t,γ3,af,q,rfl,s2.defers,s2.size,k.trans w,(g1.trans (g2.mono λi hi=>UH _ hi)).trans (g3.mono λi hi=>Uv _ hi),I3,f3,hq,ai,rfl⟩
  |_=>exact⟨E,G++iS J.ro C,D,d2,t,rfl,s2,by simp_all,k.trans w,(g1.mono kS).trans (g2.mono kx),r⟩
  exact H.elim
 |_=>exact λR Q e C H=>H.elim
def nv:Nat->List Arg->yz
 |_,[]=>[]
 |i,a::l=>(i,[],.g (qT a.t a.x))::nv (i+1) l
def tv(e:yz)(i:Nat):Option AV:=match lW e i with
 |some ([],v)=>Td v
 |_=>Te
def lX(P:Program)(cs:CS)(e:yz):List ResultVar->(List AV->Prop)->Prop
 |[],K=>K []
 |.tmp t::l,K=>match tv e t with
  |some v=>lX P cs e l λvs=>K (v::vs)
  |none=>False
 |.cell a t::l,K=>match tv e a with
  |some (.g (.a aa))=>oF P cs t aa Te λv=>lX P cs e l λvs=>K (v::vs)
  |_=>False
def yr(cs:CS):(l:List Ty)->List AV->Option (hG l)
 |[],[]=>Td ()
 |[t],[v]=>qX cs t v
 |t::t'::l,v::vs=>match qX cs t v,yr cs (t'::l) vs with
  |some x,some y=>Td (x,y)
  |_,_=>Te
 |_,_=>Te
theorem CY{γ:Gh}{cs:CS}(b:lu γ cs):∀{l:List Ty} {vs:List AV} {r:hG l} {us:List Value},yr cs l vs=Td r->All2 (DenV γ) vs us->tJ γ.M l r us
 |[],[],r,[],_,_=>rfl
 |[],[],_,_::_,_,h=>h.elim
 |[t],[v],r,[u],h,hd=>⟨u,rfl,uL b (by simpa[yr]using h) hd.1⟩
 |[t],[v],_,[],_,h=>h.elim
 |[t],[v],_,_::_::_,_,h=>h.2.elim
 |t::t'::l,v::vs,r,[],_,h=>h.elim
 |t::t'::l,v::vs,r,u::us,h,hd=>by simp only[yr]at h;split at h;rename_i x y h1 c;simp only[Ug]at h;subst h;exact⟨u,us,rfl,uL b h1 hd.1,CY b c hd.2⟩;cases h
 |[],_::_,_,_,h,_=>by simp[yr]at h
 |[t],[],_,_,h,_=>by simp[yr]at h
 |[t],_::_::_,_,_,h,_=>by simp[yr]at h
 |t::t'::l,[],_,_,h,_=>by simp[yr]at h
def wF(P:Program)(rs:List ResultVar)(b:List Ty)(R:hG b->Prop):kQ:=λx e C=>match x with
 |.normal=>lX P C e rs λvs=>match yr (frzL (Wq vs) C) b vs with
  |some r=>R r
  |none=>False
 |.ret=>lX P C e rs λvs=>match yr (frzL (Wq vs) C) b vs with
  |some r=>R r
  |none=>False
 |_=>False
theorem vn{P:Program}{n:Nat}{C:CS}{e:yz}{γ:Gh}{a:Act}{h:zc}(E:SatA n e γ a)(I:Inv h0 W M0 C γ h):∀{l:List ResultVar} {K:List AV->Prop},lX P C e l K->∃vs us,K vs/\All2 (DenV γ) vs us/\us.length=l.length/\QExec P (l.mapM (mQ a.tmps)) h us
 |[],K,H=>⟨[],[],H,trivial,rfl,λ_ _=>by simp⟩
 |.tmp t::l,K,H=>by
  simp only[lX]at H;split at H;rename_i v A;obtain⟨vs,us,h1,F,J,G⟩:=vn E I H;have j:DenV γ v (qh a t):=by unfold tv at A;split at A;rename_i u q;simp only[Ug]at A;subst A;exact(E.all _ (Zj q)).1 trivial;cases A
  refine⟨v::vs,qh a t::us,h1,⟨j,F⟩,by simp[J],?_⟩;rw[XR];exact QExec.bind (x:=qh a t) (QExec.pure _) (G.bind (QExec.pure _));exact H.elim
 |.cell x t::l,K,H=>by
  simp only[lX]at H;split at H;rename_i m w;obtain⟨v,O,N⟩:=Cq (h0:=h0) (W:=W) (M0:=M0) H;obtain⟨vs,us,h1,F,J,G⟩:=vn E I O;have j:DenA γ m (qh a x):=by unfold tv at w;split at w;rename_i u q;simp only[Ug]at w;subst w;exact(E.all _ (Zj q)).1 trivial;cases w
  obtain⟨u,Q,B⟩:=N trivial γ h _ I j;refine⟨v::vs,u::us,h1,⟨Q,F⟩,by simp[J],?_⟩;rw[XR];refine QExec.bind (x:=u) ?_ (G.bind (QExec.pure _));have L:∃p,qh a x=.pointer (Td p):=by
   have D:∀m,(∀k,tf C k m=Te)->(∀c z i o,m≠.oelt c z i o)->DenA γ m (qh a x)->oF P C t m Te (λv=>lX P C e l λvs=>K (v::vs))->False:=by intro m T M _ q;unfold oF at q;split at q;simp_all;exact q
   cases m with
   |box c o=>exact⟨_,j⟩
   |oelt c z i o=>obtain⟨g,_,e⟩:=j;grind
   |elt t y o=>obtain⟨b,f,cs,e,_⟩:=j;grind
   |v y=>exact(D _ (λ_=>rfl) (by simp) j H).elim
   |d t y=>exact(D _ (λ_=>rfl) (by simp) j H).elim
   |own c=>exact(D _ (λ_=>rfl) (by simp) j H).elim
   |dc t y=>exact(D _ (λ_=>rfl) (by simp) j H).elim
  obtain⟨p,r⟩:=L;rw[r]at B;have S:a.tmps.getD x undef=.pointer (Td p):=r;simp only[mQ,S];exact B;exact H.elim
theorem Ri{fn:Func}{rs:List ResultVar}(f:fn.results.toList=rs){us:List Value}(e:us.length=rs.length)(c:QExec P (rs.mapM (mQ a.tmps)) h us):QExec P (results fn a.tmps) h (kE us):=by
 intro B d;have b:results fn a.tmps=(fn.results.mapM (mQ a.tmps) >>= λvs=>WW (if h:vs.size=1 then vs[0]else .tuple vs)):=by unfold results;congr 1
 rw[b,Array.mapM_eq_mapM_toList,f,Sem.run_bind,Sem.run_map,c B d];simp only[Result.andThen_ok,Sem.run_pure]
 match us,e with
 |[],_=>rfl
 |[v],_=>rfl
 |v::u::vs,_=>simp[kE]
theorem Ah{γ:Gh}{σ:Nat->Value}:∀{l:List Arg} {i:Nat} {us:List Value},Wp γ.M l us->(∀j v,us[j]?=Td v->σ (i+j)=v)->∀x∈nv i l,mP γ σ x
 |[],_,_,_,_,x,b=>by cases b
 |a::l,i,[],h,_,x,b=>h.elim
 |a::l,i,u::us,h,hσ,x,b=>by simp only[nv,Up]at b;rcases b with rfl|b;refine⟨λ_=>?_,λe=>absurd trivial e⟩;have:=hσ 0 u rfl;simp only at this ⊢;rw[show σ i=u from this];exact x5 h.1;exact Ah h.2 (λj v c=>by have:=hσ (j+1) v (by simpa using c);grind) x b
theorem RP(hm:P.follows .mixedOrders=Ta)(gl:Fr)(tr:TypeId)(pl:PlanA)(args:List Arg){fn:Func}{rs:List ResultVar}{o:List Ty}(V:P.funcs[f]?=Td fn)(z:Qa fn=Ta)(Z:fn.results.toList=rs)(hn:fn.ntmps=n)
  (hz:Nat.ble args.length n=Ta) {R:hG o->Prop} (H:WA P gl tr n pl (codeOf fn) [] (wF P rs o R) (nv 0 args) []):PC P gl f args o R:=by
 intro h M vs L y c B d;subst hn;have J:fn.body=Td (codeOf fn):=by unfold Qa at z;unfold codeOf;split at z;omega;cases z
 refine calls_of_wp V J ?_;have t:vs.length=args.length:=(All2.length c).symm;have aa:vs.length<=fn.ntmps:=by rw[t];exact VE hz
 let γ:Gh:=⟨M,λ_=>0,λ_=>⟨Te,0,0⟩⟩;have I:Inv h (λ_=>False) M ([]++[]) γ h:={ ag:=y,frame:=λ_ _ _=>rfl,size:=Uf _,old:=λ_ _=>rfl,le:=Fr.le.refl _,den:=λx G=>(by cases G),sep:=λx G=>(by cases G),apart:=List.Pairwise.nil };have hs:SatA fn.ntmps (nv 0 args) γ { tmps:=vs.toArray++VZ (fn.ntmps-vs.toArray.size) undef,defers:=[] }:=by refine⟨rfl,by simp;omega,Ah c λj v S=>?_⟩;have F:j<vs.length:=(UV.1 S).1;simp only[Uy,qh,Vh];rw[VU (by simpa using F)];simp[S]
 have fin:∀(e:yz) (C:CS) (γ':Gh) (h':zc) (a:Act),SatA fn.ntmps e γ' a->Inv h (λ_=>False) M (C++[]) γ' h'->(lX P C e rs λvs=>match yr (frzL (Wq vs) C) o vs with|some r=>R r|none=>False) ->
   ∃v,QExec P (results fn a.tmps) h' v/\Keep h.size h h'/\∃M' r,Fr.le M M'/\(∀b,b<h.size->M' b=M b)/\AgM M' h'/\Q5 M' o r v/\R r:=by
  intro e C γ' h' a s1 m q;rw[Vg]at m;obtain⟨E,us,D,T,Y,p⟩:=vn s1 m q;split at D;rename_i r hc;obtain⟨U,l,g2⟩:=Inv.frzL (C:=C) (R:=[]) (γ:=γ') (Wq E) (by simpa using m);rw[Vg]at l;refine⟨kE us,Ri Z Y p,⟨l.size,λi hi=>l.frame i hi (λh=>h)⟩,U.M,r,l.le,l.old,l.ag,⟨us,CY l.fz hc (T.imp λv _ u hu=>hu.gx g2 rfl),rfl⟩,D⟩;exact D.elim
 refine wp_mono (Oh hm L _ _ _ _ _ H γ h B d _ hs I) ?_;rintro ex a w ⟨Q,O,N,d1,h1,rfl,s1,m,m1,g1,A⟩;cases ex with
 |normal=>obtain⟨v,p,k,rest⟩:=fin Q O N h1 a s1 m A;exact⟨s1.defers,v,p B d1,v,d1,h1,rfl,rfl,k,rest⟩
 |ret=>obtain⟨v,p,k,rest⟩:=fin Q O N h1 a s1 m A;exact⟨s1.defers,v,p B d1,v,d1,h1,rfl,rfl,k,rest⟩
 |_=>exact A.elim
theorem H7(c:P.follows .mixedOrders=Ta)(gl:Fr)(tr:TypeId)(pl:PlanA)(args:List Arg){fn:Func}{rs:List ResultVar}{b:List Ty}(h:P.funcs[f]?=Td fn)(j:Qa fn=Ta)(i:fn.results.toList=rs)(k:fn.ntmps=n)
  (hz:Nat.ble args.length n=Ta) {R:hG b->Prop} {F:Prop} (H:F) (e:F=WA P gl tr n pl (codeOf fn) [] (wF P rs b R) (nv 0 args) []):PC P gl f args b R:=
 RP c gl tr pl args h j i k hz (e ▸ H)
end
end Go.X
end
section
namespace Go.X
open Go Go.RowKit
section
variable {P:Program} {f:FuncId} {h:zc} {M gl:Fr} {v:Value} {us:List Value}
theorem XC.of_calls{args:Array Value}{R:Value->zc->Prop}
  (H:∀B d,Calls P f args (mk B d h) λe w'=>∃v,e=.returned v/\w'.os=B.os/\w'.tape=B.tape/\w'.output=B.output/\R v w'.heap):XC P f args h R:=by
 intro B d;refine(H B d).mono ?_;rintro e w' ⟨v,rfl,h1,b,i,c⟩;refine⟨v,w'.drawn,w'.heap,rfl,?_,c⟩;cases w';simp only[mk]at *;subst h1;subst b;subst i;rfl
theorem AgM.keep{h h':zc}(ag:AgM M h)(k:Keep h.size h h'):AgM M h':=λb c e=>by obtain⟨T,m,f⟩:=ag b c e;exact⟨T,m,by rw[k.get b (ag.lt e)];exact f⟩
def ox:Arg->Option Value
 |⟨.int k,x⟩=>Td (.int k x)
 |⟨.bool,x⟩=>Td (.bool x)
 |⟨.str,x⟩=>Td (.string x)
 |_=>Te
def mR:List Arg->Option (List Value)
 |[]=>Td []
 |a::l=>match ox a,mR l with
  |some v,some vs=>Td (v::vs)
  |_,_=>Te
theorem Nv{a:Arg}{v u:Value}(h:ox a=Td v)(b:RdV M a.t a.x u):u=v:=by
 obtain⟨t,x⟩:=a;cases t with
 |int k=>simp only[ox,Ug]at h;subst h;simpa[RdV,Rd,Wo]using b
 |bool=>simp only[ox,Ug]at h;subst h;simpa[RdV,Rd,Wo]using b
 |str=>simp only[ox,Ug]at h;subst h;simpa[RdV,Rd,Wo]using b
 |_=>simp[ox]at h
theorem yO{M:Fr}:∀{l:List Arg} {vs us:List Value},mR l=Td vs->Wp M l us->us=vs
 |[],vs,us,h,hd=>by
  simp only[mR,Ug]at h;subst h;cases us with
  |nil=>rfl
  |cons _ _=>exact hd.elim
 |a::l,vs,us,h,hd=>by
  simp only[mR]at h;split at h;rename_i v c h1 b;simp only[Ug]at h;subst h;cases us with
  |nil=>exact hd.elim
  |cons u us=>rw[Nv h1 hd.1,yO b hd.2]
  cases h
theorem PC.of_scal{args:List Arg}{l:List Ty}{R:hG l->Prop}(j:mR args=Td us){r:hG l}(o:∀M,Q5 M l r v)(p:R r)
  (H:∀w:World,AgM gl w.heap->Calls P f us.toArray w λe w'=>e=.returned v/\Below w.heap.size w w'):PC P gl f args l R:=by
 intro h M vs m ag n;rw[yO j n];refine XC.of_calls λB d=>(H (mk B d h) λb c e=>ag b c (m b c e)).mono ?_;rintro e w' ⟨rfl,i⟩;have k:Keep h.size h w'.heap:=⟨i.size,i.block⟩;exact⟨v,rfl,i.os,i.tape,i.output,k,M,r,Fr.le.refl _,λ_ _=>rfl,ag.keep k,o M,p⟩
theorem PC.of_same{args:List Arg}{c:List Ty}{R:hG c->Prop}(b:mR args=Td us){r:hG c}(i:∀M,Q5 M c r v)(k:R r)
  (H:∀w:World,AgM gl w.heap->Calls P f us.toArray w λe w'=>e=.returned v/\w'=w):PC P gl f args c R:=
 PC.of_scal b i k λw h=>(H w h).mono λe w' ⟨h1,j⟩=>⟨h1,j ▸ Below.refl _ _⟩
theorem N2(k:IntKind)(i:Int):Q5 M [.int k] i (.int k i):=⟨[_],⟨_,rfl,rfl⟩,rfl⟩
theorem Kb(b:Bool):Q5 M [.bool] b (.bool b):=⟨[_],⟨_,rfl,rfl⟩,rfl⟩
theorem nT(s:Bt):Q5 M [.str] s (.string s):=⟨[_],⟨_,rfl,rfl⟩,rfl⟩
theorem AgM.glob{w:World}(ag:AgM gl w.heap){b o:Nat}{cs:Array Value}(f:gl b=Td cs)(c:cs[o]?=Td v):w.cell? ⟨b,o,Option.none⟩=Td v:=by obtain⟨T,m,e⟩:=ag b cs f;simp[World.cell?,e,c]
theorem L4{xs:List Bt}{cells:List Value}(H:RowC M .str xs cells):cells=xs.map UA:=by
 obtain⟨h1,b⟩:=H;simp only[sz,U4]at h1 b;refine List.ext_getElem (by simp[h1]) λi hi f=>?_;have c:i<xs.length:=by omega
 have:=b i c;have e:(cells.drop i).take 1=[cells[i]]:=by rw[U6 hi];rfl
 rw[e]at this;have:=show[cells[i]]=[UA xs[i]]from this;simpa using this
theorem PC.of_ex{args:List Arg}{l:List Ty}{R:hG l->Prop}(j:mR args=Td us)
  (H:∀w:World,AgM gl w.heap->Calls P f us.toArray w λe w'=>∃v r,e=.returned v/\(∀M,Q5 M l r v)/\R r/\Below w.heap.size w w'):PC P gl f args l R:=by
 intro h M vs m ag n;rw[yO j n];refine XC.of_calls λB d=>(H (mk B d h) λb c e=>ag b c (m b c e)).mono ?_;rintro e w' ⟨v,r,rfl,o,p,i⟩;have k:Keep h.size h w'.heap:=⟨i.size,i.block⟩;exact⟨v,rfl,i.os,i.tape,i.output,k,M,r,Fr.le.refl _,λ_ _=>rfl,ag.keep k,o M,p⟩
end
section
variable {P:Program} {gl M:Fr} {f:FuncId} {h h':zc} {vs cs:List Value} {K:Value -> zc -> Prop} {t:Ty} {u v:Value} {i:Int} {k:Nat}
def PX(P:Program)(f:FuncId)(vs:Array Value)(h:zc)(M:Fr)(c:List Ty)(R:hG c->Prop):Prop:=
 XC P f vs h λv h'=>Keep h.size h h'/\∃M' r,Fr.le M M'/\(∀b,b<h.size->M' b=M b)/\AgM M' h'/\Q5 M' c r v/\R r
theorem PC.px{args:List Arg}{b:List Ty}{R:hG b->Prop}(H:PC P gl f args b R)(c:Fr.le gl M)(ag:AgM M h)(e:Wp M args vs):PX P f vs.toArray h M b R:=H h M vs c ag e
structure Later (h:zc) (M:Fr) (h':zc) (M':Fr):Prop where
 keep:Keep h.size h h'
 le:Fr.le M M'
 old:∀b,b<h.size->M' b=M b
 ag:AgM M' h'
theorem Later.refl(ag:AgM M h):Later h M h M:=⟨Keep.refl _ _,Fr.le.refl _,λ_ _=>rfl,ag⟩
theorem Later.trans{h h' h'':zc}{M M' M'':Fr}(a:Later h M h' M')(b:Later h' M' h'' M''):Later h M h'' M'':= ⟨a.keep.trans b.keep a.keep.size,a.le.trans b.le,λx c=>(b.old x (by have:=a.keep.size;omega)).trans (a.old x c),b.ag⟩
theorem Later.same(ag:AgM M h)(k:Keep h.size h h'):Later h M h' M:=⟨k,Fr.le.refl _,λ_ _=>rfl,ag.keep k⟩
theorem Later.push(ag:AgM M h)(o:Obj):Later h M (h.push o) M:=Later.same ag (Keep.push _ _ (Uf _))
theorem PX.go{vs:Array Value}{b:List Ty}{R:hG b->Prop}(H:PX P f vs h M b R)(l:∀v h' M' r,Later h M h' M'->Q5 M' b r v->R r->K v h'):XC P f vs h K:= XC.mono H λv h' ⟨k,M',r,e,m,i,j,c⟩=>l v h' M' r ⟨k,e,m,i⟩ j c
theorem PX.of{vs:Array Value}{b:List Ty}{R:hG b->Prop}(H:XC P f vs h λv h'=>∃M' r,Later h M h' M'/\Q5 M' b r v/\R r):PX P f vs h M b R:= XC.mono H λv h' ⟨M',r,l,e,c⟩=>⟨l.keep,M',r,l.le,l.old,l.ag,e,c⟩
theorem PC.go{args:List Arg}{b:List Ty}{R:hG b->Prop}(H:PC P gl f args b R)(e:Fr.le gl M)(ag:AgM M h)(c:Wp M args vs) (i:∀v h' M' r,Later h M h' M'->Q5 M' b r v->R r->K v h'):XC P f vs.toArray h K:=(H.px e ag c).go i
theorem Jd{x:El t}(b:Wo t=Tc):RdV M t x u↔Rd M t x [u]:=by unfold RdV;rw[b];simp
theorem Z2{x:El t}:Q5 M [t] x v↔RdV M t x v:=by constructor;rintro⟨us,⟨u,rfl,h⟩,rfl⟩;exact h;intro h;exact⟨[v],⟨v,rfl,h⟩,rfl⟩
theorem Ju{b:Bool}(h:Q5 M [.bool] b v):v=.bool b:=by have:=Z2.1 h;rw[Jd rfl]at this;simpa[Rd]using this
theorem kL{s:Bt}(h:Q5 M [.str] s v):v=.string s:=by have:=Z2.1 h;rw[Jd rfl]at this;simpa[Rd]using this
theorem qg:Wp M [] []:=trivial
theorem zn{a:Arg}{l:List Arg}{us:List Value}(h:RdV M a.t a.x u)(b:Wp M l us):Wp M (a::l) (u::us):=⟨h,b⟩
theorem rdStr(s:Bt):RdV M .str s (.string s):=by rw[Jd rfl];rfl
theorem Yn(k:IntKind)(i:Int):RdV M (.int k) i (.int k i):=by rw[Jd rfl];rfl
theorem rdBool(b:Bool):RdV M .bool b (.bool b):=by rw[Jd rfl];rfl
theorem w7{s:Bt}(h:RdV M .str s u):u=.string s:=by rw[Jd rfl]at h;simpa[Rd]using h
theorem Xo{k:IntKind}(h:RdV M (.int k) i u):u=.int k i:=by rw[Jd rfl]at h;simpa[Rd]using h
theorem qj{v:Tr}(h:RdV M .tree v u):∃sk si:Sl,u=.agg #[.int .i64 v.kind,.string v.text,aK sk,aK si]/\Rd M (.row .str) v.keys [aK sk]/\Rd M (.row .tree) v.items [aK si]:=by unfold RdV at h;simp only[Wo,if_true]at h;obtain⟨cs,rfl,j⟩:=h;obtain⟨m,n,rfl,h1,e⟩:=TrRd.keys j;have c:=h1;have b:=e;obtain⟨w1,f,a1,c1,k,_⟩:=c;obtain⟨w2,i,a2,c2,l,_⟩:=b;simp only[VY,and_true]at f i;subst f;subst i;subst k;subst l;exact⟨⟨a1,v.keys.length,c1⟩,⟨a2,v.items.length,c2⟩,rfl,h1,e⟩
theorem zr{v:Tr}{sk si:Sl}(h1:Rd M (.row .str) v.keys [aK sk])(b:Rd M (.row .tree) v.items [aK si]):RdV M .tree v (.agg #[.int .i64 v.kind,.string v.text,aK sk,aK si]):=by unfold RdV;simp only[Wo,if_true];exact⟨[.int .i64 v.kind,.string v.text,aK sk,aK si],rfl,by cases v;exact TrRd.of h1 b⟩
theorem i0{xs:List (El t)}(h:RdV M (.row t) xs u):∃s:Sl,u=aK s/\Rd M (.row t) xs [aK s]:=by rw[Jd rfl]at h;have h':=h;obtain⟨w,e,a,c,q,_⟩:=h';simp only[VY,and_true]at e;subst e;subst q;exact⟨⟨a,xs.length,c⟩,rfl,h⟩
theorem rowLen{xs:List (El t)}{s:Sl}(h:Rd M (.row t) xs [aK s]):s.len=xs.length/\xs.length<=140737488355328/\xs.length<=s.cap:=by obtain⟨w,e,a,c,q,b,_⟩:=h;simp only[VY,and_true]at e;subst e;simp only[aK,UY]at q;obtain⟨_,f,i⟩:=q;exact⟨f,b.1,by rw[i];exact b.2⟩
theorem rowAt{xs:List (El t)}{s:Sl}(h:Rd M (.row t) xs [aK s])(f:k<xs.length):∃b o cs,s.a=Td ⟨b,o,Te⟩/\M b=Td cs/\Rd M t xs[k] (cut cs (o+k*sz t) (sz t)):=by obtain⟨w,e,a,c,q,r,j⟩:=h;simp only[VY,and_true]at e;subst e;simp only[aK,UY]at q;obtain⟨h1,n,p⟩:=q;rcases j with rfl|⟨b,o,cs,l,i,m⟩;simp at f;exact⟨b,o,cs,by rw[h1,l],i,m k f⟩
theorem np{M:Fr}{h:zc}(ag:AgM M h){b:Nat}{cs:Array Value}(j:M b=Td cs):∀{vs:List Value} {o i:Nat},cut cs (o+i) vs.length=vs->ze h ⟨b,o,Te⟩ i vs
 |[],_,_,_=>trivial
 |v::vs,o,i,e=>by
  unfold cut at e;have c:o+i<cs.toList.length:=by rcases Va (o+i) cs.toList.length with f|f;exact f;rw[VV f]at e;simp at e
  rw[U6 c,Uz,WO]at e;injection e with e1 e2;refine⟨?_,np ag j (i:=i+1) e2⟩;rw[zh];refine ag.cell j ?_;rw[Vn (by simpa using c),<-e1];simp
theorem Ak(ag:AgM M h){b:Nat}{cs:Array Value}(c:M b=Td cs){o:Nat}(e:cut cs o 1=[v]):zd h ⟨b,o,Te⟩=Td v:=by have:=np (vs:=[v]) (o:=o) (i:=0) ag c (by simpa using e);exact this.1
theorem Xp(b o n:Nat):(⟨b,o,Te⟩:Addr).add n=⟨b,o+n,Te⟩:=zh b o n
theorem kZ(ag:AgM M h){xs:List Bt}{s:Sl}(H:Rd M (.row .str) xs [aK s])(f:k<xs.length)(hi:i=(k:Int)){L:Nat}(hL:L=s.len){Q:Bt->Prop}(e:Q xs[k]):
  ∃a:Addr,(s.a=Td a/\0<=i/\i<(L:Int))/\∃x:Bt,zd h (a.add (i.toNat*1))=Td (.string x)/\Q x:=by
 obtain⟨b,o,cs,j,c,l⟩:=rowAt H f;have m:=(rowLen H).1;refine⟨_,⟨j,by omega,by omega⟩,xs[k],?_,e⟩;rw[Xp,hi,Ui];exact Ak ag c l
theorem Yo(ag:AgM M h){xs:List Tr}{s:Sl}(H:Rd M (.row .tree) xs [aK s])(f:k<xs.length):∃(a:Addr) (sk si:Sl),s.a=Td a/\ze h (a.add (k*4)) 0 [.int .i64 xs[k].kind,.string xs[k].text,aK sk,aK si]/\Rd M (.row .str) xs[k].keys [aK sk]/\Rd M (.row .tree) xs[k].items [aK si]:=by
 obtain⟨b,o,cs,j,e,l⟩:=rowAt H f;have m:RdV M .tree xs[k] (.agg (cut cs (o+k*sz .tree) (sz .tree)).toArray):=by unfold RdV;simp only[Wo,if_true];exact⟨_,rfl,l⟩
 obtain⟨sk,si,q,h1,c⟩:=qj m;refine⟨_,sk,si,j,?_,h1,c⟩;rw[Xp];refine np ag e (i:=0) ?_;have:(cut cs (o+k*sz .tree) (sz .tree))=[.int .i64 xs[k].kind,.string xs[k].text,aK sk,aK si]:=by injection q with q;exact congrArg VW q
 exact this
def Mx(M:Fr)(b:Nat)(cs:Array Value):Fr:=λi=>if i=b then Td cs else M i
theorem Later.frz(ag:AgM M h)(cs:Array Value)(T:TypeId):Later h M (h.push (.cells cs T)) (Mx M h.size cs) where
 keep:=Keep.push _ _ (Uf _)
 le:=λb c e=>by have:=ag.lt e;unfold Mx;rw[zv (by omega)];exact e
 old:=λb hb=>by unfold Mx;rw[zv (by omega)]
 ag:=λb c e=>by unfold Mx at e;split at e;rename_i hb;subst hb;cases e;exact⟨T,(0,0),qp _ _⟩;obtain⟨T',m,e'⟩:=ag b c e;exact⟨T',m,by rw[(Keep.push h _ (Uf _)).get b (ag.lt e)];exact e'⟩
theorem Eo(M:Fr)(b:Nat)(cs:Array Value):Mx M b cs b=Td cs:=by unfold Mx;rw[zA rfl]
theorem pr{T:TypeId}(k:Keep (h.size+1) (h.push (.cells cs.toArray T)) h'):ze h' ⟨h.size,0,Te⟩ 0 cs:= ((Blk.new h cs.toArray T).keep (k.get _ (by omega))).ld
theorem Of{T:TypeId}(k:Keep (h.size+1) (h.push (.cells cs.toArray T)) h'){i:Nat}(b:cs[i]?=Td v):zd h' ((⟨h.size,0,Te⟩:Addr).add i)=Td v:=by have:=((Blk.new h cs.toArray T).keep (k.get _ (by omega)));exact this.cellAdd (o:=0) (by simpa using b)
end
end Go.X
end
section
namespace Go.X
open Go Go.ChangeShapes Go.WideShapes Go.RowKit
set_option linter.unusedVariables false
section
variable {a:Addr} {cs:List Value} {fuel:Nat} {t e:TypeId} {P:Program}
def Fz(W:World):Fr:=λb=>match W.heap[b]? with|some (.cells cs _ _)=>some cs|_=>none
theorem Fz.ag(W:World):AgM (Fz W) W.heap:=by intro b c e;unfold Fz at e;split at e;rename_i cs T m f;cases e;exact⟨T,m,f⟩;cases e
theorem Fz.cell{W:World}{v:Value}(h:W.cell? a=some v):∃b o c,a=⟨b,o,none⟩/\Fz W b=some c/\c[o]?=some v:=by
 obtain⟨b,o,sp⟩:=a;unfold World.cell? at h;split at h;rename_i c T m e;cases sp with
 |some x=>simp at h
 |none=>refine⟨b,o,c,rfl,?_,by simpa using h⟩;unfold Fz;change W.heap[b]?=_ at e;rw[e]
 cases h
theorem Fz.cells{W:World}{n:Nat}(h:W.cells? 0 a n=some cs)(t:0<n):∃b o c,a=⟨b,o,none⟩/\Fz W b=some c/\cut c o n=cs:=by
 obtain⟨_,u,m⟩:=World.cells?_some h;have h0:=m 0 t;rw[Ul (by omega)]at h0;obtain⟨b,o,c,e,k,_⟩:=Fz.cell h0;obtain⟨q,l,sp⟩:=a;rw[show Ue ⟨q,l,sp⟩ 0=⟨q,l,sp⟩from rfl]at e;cases e;refine⟨b,o,c,rfl,k,?_⟩;have f:∀i,i<n->c[o+i]?=cs[i]?:=λi hi=>by have h1:=m i hi;rw[Ul (by omega)]at h1 ⊢;obtain⟨b2,w,c2,p,j,r⟩:=Fz.cell h1;rw[zh]at p;cases p;rw[k]at j;cases j;exact r
 unfold cut;apply U1;intro i;by_cases hi:i<n;rw[UU,if_pos hi,Vd,<-f i hi];simp;rw[UU,if_neg hi,U5 (by omega)]
theorem Md{α:Type}{Q:Nat->α->Prop}(n:Nat)(h:∀i,i<n->∃z,Q i z):∃xs:List α,xs.length=n/\∀i (hi:i<xs.length),Q i xs[i]:=by refine⟨List.ofFn λi:Fin n=>Classical.choose (h i i.2),by simp,λi hi=>?_⟩;rw[List.getElem_ofFn];exact Classical.choose_spec (h i (by simpa using hi))
section
variable {H : Type} {enc : TypeId × Value -> H} {P : Program} {W : World} {sp : Nat -> Bool} {held : Bool}
def mW(P:Program)(t:TypeId)(d:DataW H):Prop:=∀n∈d.weights P t,n<=reachBytes
theorem BX{e:TypeId}{y:DataW H}:∀{l:List (DataW H)},y∈l->∀n∈y.weights P e,n∈DataW.weightsAll P e l
 |x::l,b,n,hn=>by unfold DataW.weightsAll;rcases Up.1 b with rfl|b;exact Uv _ hn;exact UH _ (BX b n hn)
theorem By{T : Ty}{x : DataW H × List MemPlace}(ht : P.underlying t = some (.slice e))(hz : P.cellsOf e = sz T)(hp : 0 < sz T)(hby : 0 < P.bytesOf e) (hel : ∀ n, n < fuel -> ∀ cs y, DataW.trod enc P W 0 sp held n e cs = some y -> mW P e y.1 -> ∃ z : El T, Rd (Fz W) T z cs)
    (h : DataW.trod enc P W 0 sp held fuel t cs = some x) (hw : mW P t x.1) : ∃ xs : List (El T), Rd (Fz W) (.row T) xs cs := by
  rcases DataW.trod_slice ht h with ⟨rfl, _⟩ | ⟨a, len, cap, elems, rest, n, rfl, rfl, hx, _, hlc, hcap, hlen, hi, _, _⟩;exact ⟨[], _, rfl, none, 0, rfl, ⟨by simp, by simp⟩, .inl rfl⟩
  · have hwt : ∀ m, m = (elems.length + rest.length) * P.bytesOf e \/ m ∈ DataW.weightsAll P e (elems.map (·.1)) -> m <= reachBytes := λm hm => hw m (by rw [hx];unfold DataW.weights;rw [ht];simp only [Up, Uo, Um];rcases hm with hm | hm;exact .inl hm;exact .inr (.inl hm));have hmax : len <= 140737488355328 := by
      have h1 := hwt _ (.inl rfl);have h2 : elems.length + rest.length <= (elems.length + rest.length) * P.bytesOf e := Nat.le_mul_of_pos_right _ hby;have h3 : reachBytes <= 140737488355328 := by decide
      omega
    have key : ∀ i, i < len -> ∃ z : El T, ∃ b o c, a.add (i * sz T) = ⟨b, o, none⟩ /\ Fz W b = some c /\ Rd (Fz W) T z (cut c o (sz T)) := λi hil => by have h1 := hi i hil;rw [Ul (by omega), Option.bind_eq_some_iff] at h1;obtain ⟨cc, h2, h3⟩ := h1;rw [hz] at h2;obtain ⟨b, o, c, e1, e2, e3⟩ := Fz.cells h2 hp;obtain ⟨z, hz⟩ := hel n (by omega) _ _ h3 λm hm => hwt m (.inr (BX (UD.2 ⟨elems[i], Ur (by omega), rfl⟩) m hm));exact ⟨z, b, o, c, e1, e2, by rw [e3]; exact hz⟩
    obtain ⟨xs, hxl, hxs⟩ := Md len key;subst hxl;refine ⟨xs, _, rfl, some a, cap, rfl, ⟨by omega, hlc⟩, ?_⟩;by_cases h0 : xs.length = 0;exact .inl (UN h0);obtain ⟨b, o, c, e1, e2, _⟩ := hxs 0 (by omega);obtain ⟨ab, ao, asp⟩ := a;rw [Nat.zero_mul, show Ue ⟨ab, ao, asp⟩ 0 = ⟨ab, ao, asp⟩ from rfl] at e1;cases e1;refine .inr ⟨b, o, c, rfl, e2, λi hil => ?_⟩;obtain ⟨b', o', c', e1', e2', e3'⟩ := hxs i hil;rw [zh] at e1';cases e1';rw [e2] at e2'; cases e2';simpa using e3'
theorem GI{x:DataW H×List MemPlace}(b:P.underlying t=some .string)(h:DataW.trod enc P W 0 sp held fuel t cs=some x):∃s:El .str,Rd (Fz W) .str s cs:=by obtain⟨s,rfl,_,_⟩:=DataW.trod_string b h;exact⟨s,rfl⟩
theorem LM{k:IntKind}{x:DataW H×List MemPlace}(b:P.underlying t=some (.int k))(h:DataW.trod enc P W 0 sp held fuel t cs=some x):∃s:El (.int k),Rd (Fz W) (.int k) s cs:=by obtain⟨s,rfl,_,_⟩:=DataW.trod_int b h;exact⟨s,rfl⟩
theorem QS{x:DataW H×List MemPlace}(j:P.underlying t=some (.slice e))(f:P.underlying e=some .string)(k:P.cellsOf e=1)(b:0<P.bytesOf e)
  (h:DataW.trod enc P W 0 sp held fuel t cs=some x) (c:mW P t x.1):∃xs:List ByteArray,Rd (Fz W) (.row .str) xs cs:=
 By (T:=.str) j k (by decide) b (λn _ cs y i _=>GI f i) h c
theorem four{a b c d:Value}(h:cs.length=4)(h0:(cs.drop 0).take 1=[a])(h1:(cs.drop 1).take 1=[b])(e:(cs.drop 2).take 1=[c])(f:(cs.drop 3).take 1=[d]):cs=[a,b,c,d]:=by
 match cs,h with
 |[w,x,y,z],_=>simp at h0 h1 e f;subst h0;subst h1;subst e;subst f;rfl
theorem Rh{c ts tss tvs tk:TypeId}{o p e i:Field}(E:P.underlying c=some (.struct #[o,p,e,i]))(D:P.cellsOf c=4) (V:o.type=tk/\o.offset=0/\p.type=ts/\p.offset=1/\e.type=tss/\e.offset=2/\i.type=tvs/\i.offset=3) (J:P.underlying tk=some (.int .i64)) (us:P.underlying ts=some .string) (w:P.underlying tss=some (.slice ts)) (u:P.underlying tvs=some (.slice c)) (S:P.cellsOf tk=1) (cs':P.cellsOf ts=1) (q:P.cellsOf tss=1) (z:P.cellsOf tvs=1) (bs:0<P.bytesOf ts) (bv:0<P.bytesOf c):
  ∀(fuel:Nat) (cs:List Value) (x:DataW H×List MemPlace),DataW.trod enc P W 0 sp held fuel c cs=some x->mW P c x.1->∃t:Tr,Rd (Fz W) .tree t cs:=by
 intro fuel;induction fuel using Nat.strongRecOn with
 |_ fuel ih=>intro cs x h Y;obtain⟨xs,n,rfl,hx,hl,r,b⟩:=DataW.trod_struct E h;have l:∀(j:Nat) (f:Field) (G:j<xs.length),(#[o,p,e,i]:Array Field)[j]?=some f->mW P f.type (xs[j]).1:=λj f G Z m F=>Y m (by rw[hx];unfold DataW.weights;rw[E];exact DataW.weights_mem_each (j:=j) (t:=f.type) (d:=(xs[j]).1) (by rw[Vk,U2,Z];rfl) (by rw[Vk,Ul G];rfl) m F);obtain⟨a0,o0,a1,U,a2,O,C,o3⟩:=V;have g0:=b 0 o rfl;have g1:=b 1 p rfl;have g2:=b 2 e rfl;have I:=b 3 i rfl;have B:xs.length=4:=r;rw[a0,o0,S,Ul (by omega)]at g0;rw[a1,U,cs',Ul (by omega)]at g1;rw[a2,O,q,Ul (by omega)]at g2;rw[C,o3,z,Ul (by omega)]at I;obtain⟨k,L⟩:=LM J g0;obtain⟨s,e1⟩:=GI us g1;obtain⟨ks,Q⟩:=QS w us cs' bs g2 (by have:=l 2 e (by omega) rfl;rw[a2]at this;exact this);obtain⟨is,e3⟩:=By (T:=.tree) u D (by decide) bv (λm F cs y hy A=>ih m (by omega) cs y hy A) I (by have:=l 3 i (by omega) rfl;rw[C]at this;exact this);obtain⟨vk,q2,M⟩:=Q;obtain⟨vi,N,h3⟩:=e3;have:=four (hl.trans D) L e1 q2 N;subst this;exact⟨.mk k s ks is,TrRd.of ⟨vk,rfl,M⟩ ⟨vi,rfl,h3⟩⟩
end
theorem Le{f:FuncId}{W:World}{args:List Arg}{vs:Array Value}(H:PC P (Fz W) f args [.bool] (λr=>r=true))(i:Wp (Fz W) args vs.toList):
  Calls P f vs W λe w'=>e=.returned (.bool true)/\Below W.heap.size W w':=by
 have c:=H W.heap (Fz W) vs.toList (Fr.le.refl _) (Fz.ag W) i;rw[Array.toArray_toList]at c;refine(c W W.drawn).mono ?_;rintro e w' ⟨v,j,h',rfl,rfl,k,M',r,_,_,_,h,b⟩;have b:r=true:=b;subst b;rw[Ju h];exact⟨rfl,rfl,rfl,rfl,k.size,k.get⟩
theorem CX{M:Fr}{t:Tr}{cs:Array Value}(h:Rd M .tree t cs.toList):RdV M .tree t (.agg cs):=by unfold RdV;simp only[Wo,if_true];exact⟨cs.toList,by simp,h⟩
theorem Fz.var{W:World}{n:String}{g:Nat}{cs:Array Value}(b:P.globalNamed n=some g)(h:W.var? P n=some cs):Fz W g=some cs:=by unfold World.var? at h;rw[b]at h;exact h
end
end Go.X
end
section
namespace Go.Proofs
section
theorem Tryz.mixed:US.follows .mixedOrders=true:=by kernel_rfl
noncomputable abbrev Tp:= US
end
end Go.Proofs
end
section
namespace Go.X
section
theorem PF{gl:Fr}{args:List Arg}{f:FuncId}{fn:Func}{b:List Ty}{R:hG b->Prop}{F:Prop}(pl:PlanA)(rs:List ResultVar)(n:Nat)(c:US.funcs[f]?=Td fn)(H:F)(i:Qa fn=Ta:=by kernel_rfl)(h:fn.results.toList=rs:=by kernel_rfl)(j:fn.ntmps=n:=by kernel_rfl)(hz:Nat.ble args.length n=Ta:=by kernel_rfl)(e:F=WA Tp gl 25 n pl (codeOf fn) [] (wF Tp rs b R) (nv 0 args) []:=by kernel_rfl):PC Tp gl f args b R:=H7 Tryz.mixed gl 25 pl args c i h j hz H e
theorem MM(gl:Fr)(f:Tr)(e:Int)(R:Bool->Prop) (H:PC Tp gl 53 [Arg.mk .tree (Tr.mk f.kind f.text f.keys f.items),Arg.mk (.int .i64) e,Arg.mk (.int .i64) 0] [.int .i64] (λa:Int=>∃b:Bool->Prop,(decide (a>=0)=Ta->PC Tp gl 54 [Arg.mk .tree (Tr.mk f.kind f.text f.keys f.items)] [.bool] b)/\∀c:Bool,(decide (a>=0)=Ta->b c)->R (bif (decide (a>=0))then c else Tc))):
  PC Tp gl 12 [Arg.mk .tree f,Arg.mk (.int .i64) e] [.bool] R:=
 PF ⟨[],[],[],[]⟩ [.tmp 4] 15 Tryz.func12 H
theorem LY(gl:Fr)(b:List Bt)(c:List Tr)(R:Tr->Prop) (H:R (Tr.mk 6 (⟨#[]⟩:Bt) b c)):
  PC Tp gl 47 [Arg.mk (.row .str) b,Arg.mk (.row .tree) c] [.tree] R:=
 PF ⟨[],[],[],[]⟩ [.cell 4 25] 8 Tryz.func47 H
theorem NZ(gl:Fr)(b:List Tr)(R:Tr->Prop) (H:R (Tr.mk 5 (⟨#[]⟩:Bt) [] b)):
  PC Tp gl 52 [Arg.mk (.row .tree) b] [.tree] R:=
 PF ⟨[],[],[],[]⟩ [.cell 2 25] 5 Tryz.func52 H
theorem Qn(gl:Fr)(n0:Int)(R:Tr->Prop) (H:PC Tp gl 93 [Arg.mk (.int .i64) n0] [.pair .bool (.pair .str (.int .i64))] (λa:Bool×Bt×Int=>PC Tp gl 92 [Arg.mk (.pair .bool (.pair .str (.int .i64))) (a.1,(a.2.1,a.2.2))] [.str] (λb:Bt=>R (Tr.mk 3 b [] [])))):
  PC Tp gl 51 [Arg.mk (.int .i64) n0] [.tree] R:=
 PF ⟨[],[],[],[]⟩ [.cell 2 25] 7 Tryz.func51 H
theorem Iz(gl:Fr)(b:Bt)(R:Bool->Prop) (H:PC Tp gl 196 [Arg.mk .str b] [.int .i64,.bool] (λa:Int×Bool=>R a.2)):
  PC Tp gl 137 [Arg.mk .str b] [.bool] R:=
 PF ⟨[],[],[],[]⟩ [.tmp 2] 11 Tryz.func137 H
theorem Tm(gl:Fr)(j:Tr)(i:Int)(h:Int)(R:Int->Prop) (H:(decide (h>60)=Ta->R (-1))/\(decide (h>60)=Tc->∃(a:Int->Int->Prop) (b:Int->Int->Nat),a (Ud .i64 ((Ud .i64 (i-1))-(j.keys.length:Int))) 0/\∀c d:Int,a c d->(((bif (decide (d<j.items.length))then(decide (c>=0))else Tc)=Ta->∃e,(0<=d/\j.items[d.toNat]?=Td e)/\PC Tp gl 53 [Arg.mk .tree (Tr.mk e.kind e.text e.keys e.items),Arg.mk (.int .i64) c,Arg.mk (.int .i64) (Ud .i64 (h+1))] [.int .i64] (λf:Int=>(a f (Ud .i64 (d+1))/\b f (Ud .i64 (d+1))<b c d)))/\((bif (decide (d<j.items.length))then(decide (c>=0))else Tc)=Tc->R c)))):
  PC Tp gl 53 [Arg.mk .tree j,Arg.mk (.int .i64) i,Arg.mk (.int .i64) h] [.int .i64] R:=
 PF ⟨[],[],[(5,⟨[(1,.one (.dat (.int .i64))),(7,.one (.dat (.int .i64)))],[],[3],[100064,100448]⟩)],[]⟩ [.tmp 6] 37 Tryz.func53 H
theorem Hl(gl:Fr)(h:Tr)(R:Bool->Prop) (H:(decide ((h.text.size:Int)>2048)=Ta->R Tc)/\(decide ((h.text.size:Int)>2048)=Tc->∃(a:Int->Prop) (b:Int->Nat),a 0/\∀c:Int,a c->((decide (c<h.keys.length)=Ta->∃d,(0<=c/\h.keys[c.toNat]?=Td d)/\(decide ((d.size:Int)>1024)=Ta->R Tc)/\(decide ((d.size:Int)>1024)=Tc->(a (Ud .i64 (c+1))/\b (Ud .i64 (c+1))<b c)))/\(decide (c<h.keys.length)=Tc->∃(e:Int->Prop) (f:Int->Nat),e 0/\∀g:Int,e g->((decide (g<h.items.length)=Ta->∃i,(0<=g/\h.items[g.toNat]?=Td i)/\PC Tp gl 54 [Arg.mk .tree (Tr.mk i.kind i.text i.keys i.items)] [.bool] (λj:Bool=>((!j)=Ta->R Tc)/\((!j)=Tc->(e (Ud .i64 (g+1))/\f (Ud .i64 (g+1))<f g))))/\(decide (g<h.items.length)=Tc->R Ta)))))):
  PC Tp gl 54 [Arg.mk .tree h] [.bool] R:=
 PF ⟨[],[],[(4,⟨[(3,.one (.dat (.int .i64)))],[],[1],[100192]⟩),(9,⟨[(4,.one (.dat (.int .i64)))],[],[1],[100256]⟩)],[]⟩ [.tmp 2] 39 Tryz.func54 H
theorem HE(gl:Fr)(n0:Bool×Bt×Int)(R:Bt->Prop) (H:PC Tp gl 158 [Arg.mk (.pair .bool (.pair .str (.int .i64))) (n0.1,(n0.2.1,n0.2.2))] [.bool] (λa:Bool=>((!a)=Ta->R (⟨#[]⟩:Bt))/\((!a)=Tc->((n0.2.1.toList==(⟨#[]⟩:Bt).toList)=Ta->R (⟨#[48]⟩:Bt))/\((n0.2.1.toList==(⟨#[]⟩:Bt).toList)=Tc->∀b:Bt->Prop,(∀c:Bt,(((n0.2.2 != 0)=Ta->PC Tp gl 159 [Arg.mk (.int .i64) n0.2.2] [.str] (λd:Bt=>jh (((⟨#[101]⟩:Bt)).size+d.size)/\jh (c.size+((⟨#[101]⟩:Bt)++d).size)/\R (c++((⟨#[101]⟩:Bt)++d))))/\((n0.2.2 != 0)=Tc->R c))->b c)->(n0.1=Ta->jh (((⟨#[45]⟩:Bt)).size+n0.2.1.size)/\b ((⟨#[45]⟩:Bt)++n0.2.1))/\(n0.1=Tc->b n0.2.1))))):
  PC Tp gl 92 [Arg.mk (.pair .bool (.pair .str (.int .i64))) n0] [.str] R:=
 PF ⟨[],[],[],[(8,⟨[(3,.one (.dat .str))],[],[1],[100192]⟩)]⟩ [.tmp 2] 26 Tryz.func92 H
theorem Rj(gl:Fr)(n0:Int)(R:(Bool×Bt×Int)->Prop) (H:PC Tp gl 159 [Arg.mk (.int .i64) n0] [.str] (λa:Bt=>PC Tp gl 160 [Arg.mk .str a] [.pair .bool (.pair .str (.int .i64)),.int .i64] (λb:(Bool×Bt×Int)×Int=>R (b.1.1,(b.1.2.1,b.1.2.2))))):
  PC Tp gl 93 [Arg.mk (.int .i64) n0] [.pair .bool (.pair .str (.int .i64))] R:=
 PF ⟨[],[],[],[]⟩ [.cell 2 110] 12 Tryz.func93 H
theorem KY(gl:Fr)(f:Bt)(R:(Int×Bool)->Prop) (H:PC Tp gl 246 [Arg.mk .str f] [.bool] (λa:Bool=>(a=Ta->R ((f.size:Int),Ta))/\(a=Tc->∃(b:(Bt×Nat)->Prop) (c:(Bt×Nat)->Nat),b (f,0)/\∀e:Bt×Nat,b e->(((iE e.1 e.2)=Ta->(iE e.1 e.2)=Ta/\(iE e.1 e.2)=Ta/\(((jL e.1 e.2:Int) != 65533)=Ta->(b (e.1,iw e.1 e.2)/\c (e.1,iw e.1 e.2)<c e))/\(((jL e.1 e.2:Int) != 65533)=Tc->(0<=(e.2:Int)/\(e.2:Int)<=(f.size:Int)/\(f.size:Int)<=(f.size:Int))/\PC Tp gl 247 [Arg.mk .str (f.extract (e.2:Int).toNat (f.size:Int).toNat)] [.int .i32,.int .i64] (λd:Int×Int=>((d.2==1)=Ta->R ((e.2:Int),Tc))/\((d.2==1)=Tc->(b (e.1,iw e.1 e.2)/\c (e.1,iw e.1 e.2)<c e)))))/\((iE e.1 e.2)=Tc->R ((f.size:Int),Ta)))))):
  PC Tp gl 196 [Arg.mk .str f] [.int .i64,.bool] R:=
 PF ⟨[],[],[(4,⟨[],[(13,[.dat .iter])],[],[1000832]⟩)],[]⟩ [.tmp 2,.tmp 3] 32 Tryz.func196 H
theorem Nk(gl:Fr)(e:Tr)(R:Bool->Prop) (H:PC Tp gl 43 [Arg.mk .tree (Tr.mk e.kind e.text e.keys e.items)] [.int .i64] (λa:Int=>∃b:Int->Prop,(decide (a<=4096)=Ta->PC Tp gl 144 [Arg.mk .tree (Tr.mk e.kind e.text e.keys e.items)] [.int .i64] b)/\∀c:Int,(decide (a<=4096)=Ta->b c)->R (bif (decide (a<=4096))then(decide (c<=32))else Tc))):
  PC Tp gl 86 [Arg.mk .tree e] [.bool] R:=
 PF ⟨[],[],[],[]⟩ [.tmp 2] 11 Tryz.func86 H
theorem LP(gl:Fr)(e:Tr)(R:Bool->Prop) (H:((e.kind==5)=Ta->R (bif (!(decide ((e.keys.length:Int)>0)))then(e.text.toList==(⟨#[]⟩:Bt).toList)else Tc))/\((e.kind==5)=Tc->((e.kind==6)=Ta->PC Tp gl 147 [Arg.mk (.row .str) e.keys,Arg.mk (.int .i64) (e.items.length:Int)] [.bool] (λa:Bool=>R (bif a then(e.text.toList==(⟨#[]⟩:Bt).toList)else Tc)))/\((e.kind==6)=Tc->((bif (decide ((e.keys.length:Int)>0))then Ta else(decide ((e.items.length:Int)>0)))=Ta->R Tc)/\((bif (decide ((e.keys.length:Int)>0))then Ta else(decide ((e.items.length:Int)>0)))=Tc->((e.kind==1)=Ta->R (e.text.toList==(⟨#[]⟩:Bt).toList))/\((e.kind==1)=Tc->((e.kind==2)=Ta->R (bif (e.text.toList==(⟨#[116,114,117,101]⟩:Bt).toList)then Ta else(e.text.toList==(⟨#[102,97,108,115,101]⟩:Bt).toList)))/\((e.kind==2)=Tc->((e.kind==3)=Ta->PC Tp gl 148 [Arg.mk .str e.text] [.pair .bool (.pair .str (.int .i64)),.bool] (λb:(Bool×Bt×Int)×Bool=>R b.2))/\((e.kind==3)=Tc->((e.kind==4)=Ta->PC Tp gl 149 [Arg.mk .str e.text] [.bool] (λc:Bool=>R c))/\((e.kind==4)=Tc->((e.kind==7)=Ta->PC Tp gl 150 [Arg.mk .str e.text] [.bool] (λd:Bool=>R d))/\((e.kind==7)=Tc->R Tc))))))))):
  PC Tp gl 89 [Arg.mk .tree e] [.bool] R:=
 PF ⟨[],[],[],[]⟩ [.tmp 2] 79 Tryz.func89 H
theorem PM(gl:Fr)(n0:Bool×Bt×Int)(R:Bool->Prop) (H:(((n0.1==Tc)&&((n0.2.1.toList==(⟨#[]⟩:Bt).toList)&&((n0.2.2==0)&&Ta)))=Ta->R Ta)/\(((n0.1==Tc)&&((n0.2.1.toList==(⟨#[]⟩:Bt).toList)&&((n0.2.2==0)&&Ta)))=Tc->PC Tp gl 215 [Arg.mk .str n0.2.1] [.bool] (λa:Bool=>((!a)=Ta->((!a)=Ta->R Tc)/\((!a)=Tc->R (bif (decide (n0.2.2>=(-1000000)))then(decide (n0.2.2<=1000000))else Tc)))/\((!a)=Tc->(decide ((n0.2.1.size:Int)>1000)=Ta->(decide ((n0.2.1.size:Int)>1000)=Ta->R Tc)/\(decide ((n0.2.1.size:Int)>1000)=Tc->R (bif (decide (n0.2.2>=(-1000000)))then(decide (n0.2.2<=1000000))else Tc)))/\(decide ((n0.2.1.size:Int)>1000)=Tc->(0<=(0:Int)/\(0:Int)<(n0.2.1.size:Int))/\(((y8 n0.2.1 (0:Int).toNat:Int)==48)=Ta->(((y8 n0.2.1 (0:Int).toNat:Int)==48)=Ta->R Tc)/\(((y8 n0.2.1 (0:Int).toNat:Int)==48)=Tc->R (bif (decide (n0.2.2>=(-1000000)))then(decide (n0.2.2<=1000000))else Tc)))/\(((y8 n0.2.1 (0:Int).toNat:Int)==48)=Tc->(0<=(Ud .i64 ((n0.2.1.size:Int)-1))/\(Ud .i64 ((n0.2.1.size:Int)-1))<(n0.2.1.size:Int))/\(((y8 n0.2.1 (Ud .i64 ((n0.2.1.size:Int)-1)).toNat:Int)==48)=Ta->R Tc)/\(((y8 n0.2.1 (Ud .i64 ((n0.2.1.size:Int)-1)).toNat:Int)==48)=Tc->R (bif (decide (n0.2.2>=(-1000000)))then(decide (n0.2.2<=1000000))else Tc)))))))):
  PC Tp gl 158 [Arg.mk (.pair .bool (.pair .str (.int .i64))) n0] [.bool] R:=
 PF ⟨[],[],[],[]⟩ [.tmp 2] 34 Tryz.func158 H
theorem OX(gl:Fr)(r:Bt)(R:((Bool×Bt×Int)×Int)->Prop) (H:PC Tp gl 217 [Arg.mk .str r] [.pair .bool (.pair .bool (.pair .str (.pair .str .str))),.bool] (λa:(Bool×Bool×Bt×Bt×Bt)×Bool=>PC Tp gl 218 [Arg.mk .str a.1.2.2.2.2,Arg.mk .str (⟨#[48]⟩:Bt)] [.str] (λb:Bt=>((!a.2)=Ta->R ((Tc,((⟨#[]⟩:Bt),0)),2))/\((!a.2)=Tc->((decide ((Ud .i64 ((a.1.2.2.1.size:Int)+(a.1.2.2.2.1.size:Int)))>1000))=Ta->R ((Tc,((⟨#[]⟩:Bt),0)),3))/\((decide ((Ud .i64 ((a.1.2.2.1.size:Int)+(a.1.2.2.2.1.size:Int)))>1000))=Tc->(decide ((b.size:Int)>9)=Ta->R ((Tc,((⟨#[]⟩:Bt),0)),4))/\(decide ((b.size:Int)>9)=Tc->∃(c:Int->Bool->Bt->Int->(Bt×Nat)->Prop) (d:Int->Bool->Bt->Int->(Bt×Nat)->Nat),c 0 Tc (⟨#[]⟩:Bt) 0 (b,0)/\∀e:Int,∀m:Bool,∀l:Bt,∀n:Int,∀h:Bt×Nat,c e m l n h->(((iE h.1 h.2)=Ta->(iE h.1 h.2)=Ta/\(c (Ud .i64 ((Ud .i64 (10*e))+(Ud .i64 (Ud .i32 ((jL h.1 h.2)-48))))) m l n (h.1,iw h.1 h.2)/\d (Ud .i64 ((Ud .i64 (10*e))+(Ud .i64 (Ud .i32 ((jL h.1 h.2)-48))))) m l n (h.1,iw h.1 h.2)<d e m l n h))/\((iE h.1 h.2)=Tc->∀f:Int->Bool->Bt->Int->Prop,(∀g:Int,∀o:Bool,∀q:Bt,∀p:Int,(jh (a.1.2.2.1.size+a.1.2.2.2.1.size)/\PC Tp gl 218 [Arg.mk .str (a.1.2.2.1++a.1.2.2.2.1),Arg.mk .str (⟨#[48]⟩:Bt)] [.str] (λi:Bt=>((i.toList==(⟨#[]⟩:Bt).toList)=Ta->R ((Tc,((⟨#[]⟩:Bt),0)),0))/\((i.toList==(⟨#[]⟩:Bt).toList)=Tc->PC Tp gl 219 [Arg.mk .str i,Arg.mk .str (⟨#[48]⟩:Bt)] [.str] (λj:Bt=>PC Tp gl 158 [Arg.mk (.pair .bool (.pair .str (.int .i64))) (a.1.1,(j,Ud .i64 ((Ud .i64 ((Ud .i64 (g-(a.1.2.2.2.1.size:Int)))+(i.size:Int)))-(j.size:Int))))] [.bool] (λk:Bool=>((!k)=Ta->R ((Tc,((⟨#[]⟩:Bt),0)),4))/\((!k)=Tc->R ((a.1.1,(j,Ud .i64 ((Ud .i64 ((Ud .i64 (g-(a.1.2.2.2.1.size:Int)))+(i.size:Int)))-(j.size:Int)))),0)))))))->f g o q p)->(a.1.2.1=Ta->f (Ud .i64 (0-e)) m l n)/\(a.1.2.1=Tc->f e m l n))))))))):
  PC Tp gl 160 [Arg.mk .str r] [.pair .bool (.pair .str (.int .i64)),.int .i64] R:=
 PF ⟨[],[],[(11,⟨[(7,.one (.dat (.int .i64)))],[(2,[.dat .bool,.dat .str,.dat (.int .i64)]),(41,[.dat .iter])],[4],[100448,1000128,1000129,1000130,1002624]⟩)],[(16,⟨[(7,.one (.dat (.int .i64)))],[(2,[.dat .bool,.dat .str,.dat (.int .i64)])],[4],[100448,1000128,1000129,1000130]⟩)]⟩ [.cell 2 110,.tmp 3] 86 Tryz.func160 H
theorem LA(gl:Fr)(h:Tr)(R:Int->Prop) (H:∃(a:Int->Int->Prop) (b:Int->Int->Nat),a 1 0/\∀c d:Int,a c d->((decide (d<h.items.length)=Ta->∃e,(0<=d/\h.items[d.toNat]?=Td e)/\PC Tp gl 43 [Arg.mk .tree (Tr.mk e.kind e.text e.keys e.items)] [.int .i64] (λf:Int=>(a (Ud .i64 (c+f)) (Ud .i64 (d+1))/\b (Ud .i64 (c+f)) (Ud .i64 (d+1))<b c d)))/\(decide (d<h.items.length)=Tc->R c))):
  PC Tp gl 43 [Arg.mk .tree h] [.int .i64] R:=
 PF ⟨[],[],[(3,⟨[(3,.one (.dat (.int .i64))),(9,.one (.dat (.int .i64)))],[],[],[100192,100576]⟩)],[]⟩ [.tmp 2] 19 Tryz.func43 H
theorem OC(gl:Fr)(h:Tr)(R:Int->Prop) (H:∃(a:Int->Int->Prop) (b:Int->Int->Nat),a 0 0/\∀c d:Int,a c d->((decide (d<h.items.length)=Ta->∃e,(0<=d/\h.items[d.toNat]?=Td e)/\PC Tp gl 144 [Arg.mk .tree (Tr.mk e.kind e.text e.keys e.items)] [.int .i64] (λf:Int=>(a (if c<f then f else c) (Ud .i64 (d+1))/\b (if c<f then f else c) (Ud .i64 (d+1))<b c d)))/\(decide (d<h.items.length)=Tc->R (Ud .i64 (c+1))))):
  PC Tp gl 144 [Arg.mk .tree h] [.int .i64] R:=
 PF ⟨[],[],[(3,⟨[(3,.one (.dat (.int .i64))),(9,.one (.dat (.int .i64)))],[],[],[100192,100576]⟩)],[]⟩ [.tmp 2] 20 Tryz.func144 H
theorem JJ(gl:Fr)(b:Bt)(R:Bool->Prop) (H:PC Tp gl 196 [Arg.mk .str b] [.int .i64,.bool] (λa:Int×Bool=>R a.2)):
  PC Tp gl 149 [Arg.mk .str b] [.bool] R:=
 PF ⟨[],[],[],[]⟩ [.tmp 2] 11 Tryz.func149 H
theorem NA(gl:Fr)(c:Bt)(R:Bool->Prop) (H:PC Tp gl 148 [Arg.mk .str c] [.pair .bool (.pair .str (.int .i64)),.bool] (λa:(Bool×Bt×Int)×Bool=>PC Tp gl 209 [Arg.mk (.pair .bool (.pair .str (.int .i64))) (a.1.1,(a.1.2.1,a.1.2.2))] [.int .i64,.bool] (λb:Int×Bool=>R (bif (bif a.2 then b.2 else Tc)then(decide (b.1>=0))else Tc)))):
  PC Tp gl 150 [Arg.mk .str c] [.bool] R:=
 PF ⟨[],[],[],[]⟩ [.tmp 2] 25 Tryz.func150 H
theorem Lv(gl:Fr)(e:Bt)(R:Bool->Prop) (H:∃(a:(Bt×Nat)->Prop) (b:(Bt×Nat)->Nat),a (e,0)/\∀c:Bt×Nat,a c->(((iE c.1 c.2)=Ta->(iE c.1 c.2)=Ta/\((bif (decide ((jL c.1 c.2:Int)<48))then Ta else(decide ((jL c.1 c.2:Int)>57)))=Ta->R Tc)/\((bif (decide ((jL c.1 c.2:Int)<48))then Ta else(decide ((jL c.1 c.2:Int)>57)))=Tc->(a (c.1,iw c.1 c.2)/\b (c.1,iw c.1 c.2)<b c)))/\((iE c.1 c.2)=Tc->R (!(e.toList==(⟨#[]⟩:Bt).toList))))):
  PC Tp gl 215 [Arg.mk .str e] [.bool] R:=
 PF ⟨[],[],[(2,⟨[],[(6,[.dat .iter])],[],[1000384]⟩)],[]⟩ [.tmp 2] 18 Tryz.func215 H
theorem SU(gl:Fr)(e:Bt)(f:Bt)(R:(Bt×Bt×Bool)->Prop) (H:∃(a:Int->Prop) (b:Int->Nat),a 0/\∀c:Int,a c->((decide (c<e.size)=Ta->(0<=c/\c<e.size)/\PC Tp gl 319 [Arg.mk .str f,Arg.mk (.int .u8) (y8 e c.toNat)] [.int .i64] (λd:Int=>(decide (d>=0)=Ta->(0<=(0:Int)/\(0:Int)<=c/\c<=e.size)/\(0<=(Ud .i64 (c+1))/\(Ud .i64 (c+1))<=(e.size:Int)/\(e.size:Int)<=(e.size:Int))/\R (e.extract (0:Int).toNat c.toNat,e.extract (Ud .i64 (c+1)).toNat (e.size:Int).toNat,Ta))/\(decide (d>=0)=Tc->(a (Ud .i64 (c+1))/\b (Ud .i64 (c+1))<b c))))/\(decide (c<e.size)=Tc->R (e,(⟨#[]⟩:Bt),Tc)))):
  PC Tp gl 268 [Arg.mk .str e,Arg.mk .str f] [.str,.str,.bool] R:=
 PF ⟨[],[],[(2,⟨[(10,.one (.dat (.int .i64)))],[],[],[100640]⟩)],[]⟩ [.tmp 4,.tmp 5,.tmp 6] 28 Tryz.func268 H
theorem Po(gl:Fr)(b:List Bt)(b1:List Bt)(R:Bool->Prop) (H:PC Tp gl 74 [Arg.mk (.row .str) b,Arg.mk (.row .str) b1] [.int .i64] (λa:Int=>R (a==0))):
  PC Tp gl 40 [Arg.mk (.row .str) b,Arg.mk (.row .str) b1] [.bool] R:=
 PF ⟨[],[],[],[]⟩ [.tmp 4] 9 Tryz.func40 H
theorem Wr(gl:Fr)(h:List Bt)(b1:List Bt)(R:Int->Prop) (H:∃(a:Int->Prop) (b:Int->Nat),a 0/\∀c:Int,a c->(((bif (decide (c<h.length))then(decide (c<b1.length))else Tc)=Ta->∃d,(0<=c/\h[c.toNat]?=Td d)/\∃e,(0<=c/\b1[c.toNat]?=Td e)/\((V9 d.toList e.toList)=Ta->R (-1))/\((V9 d.toList e.toList)=Tc->∃f,(0<=c/\h[c.toNat]?=Td f)/\∃g,(0<=c/\b1[c.toNat]?=Td g)/\((!(V9 f.toList g.toList||(f.toList==g.toList)))=Ta->R 1)/\((!(V9 f.toList g.toList||(f.toList==g.toList)))=Tc->(a (Ud .i64 (c+1))/\b (Ud .i64 (c+1))<b c))))/\((bif (decide (c<h.length))then(decide (c<b1.length))else Tc)=Tc->(decide ((h.length:Int)<(b1.length:Int))=Ta->R (-1))/\(decide ((h.length:Int)<(b1.length:Int))=Tc->(decide ((h.length:Int)>(b1.length:Int))=Ta->R 1)/\(decide ((h.length:Int)>(b1.length:Int))=Tc->R 0))))):
  PC Tp gl 74 [Arg.mk (.row .str) h,Arg.mk (.row .str) b1] [.int .i64] R:=
 PF ⟨[],[],[(2,⟨[(5,.one (.dat (.int .i64)))],[],[],[100320]⟩)],[]⟩ [.tmp 4] 46 Tryz.func74 H

end
section
abbrev bl(l:List UInt8):Bt:=⟨l.toArray⟩
abbrev lb(s:Bt):List UInt8:=s.data.toList
@[simp] theorem jf(l:List UInt8):lb (bl l)=l:=by simp[lb]
@[simp] theorem jF(s:Bt):bl (lb s)=s:=by cases s;simp[lb,bl]
theorem nS{s t:Bt}:lb s=lb t↔s=t:=⟨λh=>by rw[<-jF s,h,jF],λh=>by rw[h]⟩
theorem mr(s:Bt):(lb s).length=s.size:=by cases s;simp[lb,ByteArray.size]
theorem TN(s t:Bt):lb (s++t)=lb s++lb t:=by cases s;cases t;simp[lb]
theorem Lr(s:Bt)(a b:Nat):lb (s.extract a b)=((lb s).drop a).take (b-a):=by cases s;simp[lb,ByteArray.data_extract,List.extract_eq_take_drop]
theorem Ia(s:Bt)(i:Nat):y8 s i=((((lb s)[i]?).getD 0).toNat:Int):=by cases s;simp[lb,y8]
theorem Pk(s:Bt)(i:Nat):s.get! i=((lb s)[i]?).getD 0:=by
 cases s with
 |mk d=>simp[lb,ByteArray.get!,Array.getElem!_eq_getD];rfl
def dec(l:List UInt8):Nat×Nat:=Go.Lib.decodeN l.length (l.getD 0 0).toNat (l.getD 1 0).toNat (l.getD 2 0).toNat (l.getD 3 0).toNat
theorem uG(s:Bt)(i:Nat):YB s i=dec ((lb s).drop i):=by rw[Go.Lib.decode_at,dec];simp only[Pk,Ux,Vd,Vu,mr,XH]
theorem Yp(l:List UInt8):1<=(dec l).2/\(dec l).2<=4:=by
 unfold dec Go.Lib.decodeN;repeat' split
 all_goals simp
theorem zP{l:List UInt8}(h:l≠[]):(dec l).2<=l.length:=by
 have:0<l.length:=Vt.2 h;unfold dec Go.Lib.decodeN;repeat' split
 all_goals simp only
 all_goals omega
def i3(d:Nat×Nat):Bool:=d.1==65533&&d.2==1
def Qd(l:List UInt8):Bool:=if h:l=[]then Ta else if i3 (dec l)then Tc else Qd (l.drop (dec l).2)
termination_by l.length
decreasing_by
 have h1:=Yp l;have h2:0<l.length:=Vt.2 h;simp only[Vu];omega
theorem yP:Qd []=Ta:=by unfold Qd;simp
theorem Yq{l:List UInt8}(h:l≠[]):Qd l=if i3 (dec l)then Tc else Qd (l.drop (dec l).2):=by rw[Qd];simp[h]
theorem Yr{c:UInt8}{l:List UInt8}(h:c.toNat<128):dec (c::l)=(c.toNat,1):=by simp[dec,Go.Lib.decodeN,h]
theorem Iu{c:UInt8}{l:List UInt8}(h:c.toNat<128):i3 (dec (c::l))=Tc:=by
 rw[Yr h,i3];have:(c.toNat==65533)=Tc:=by simp;omega
 simp[this]
theorem SZ{c:UInt8}{l:List UInt8}(h:c.toNat<128):Qd (c::l)=Qd l:=by rw[Yq (by simp),Iu h,Yr h];simp
end
end Go.X
end
section
namespace Go.X
open Go Go.Lib
section
variable {i:Nat}
abbrev Bs:=List UInt8
theorem Ng{sub:Bs}{b:UInt8}{l:Bs}(h:sub.isPrefixOf (b::l)=Ta):index (b::l) sub=0:=by unfold index;rw[zA h]
theorem KT{sub:Bs}{b:UInt8}{l:Bs}(h:sub.isPrefixOf (b::l)=Tc)(h':index l sub=-1):index (b::l) sub=-1:=by unfold index;rw[zv (by simp[h]),zA (by simp[h'])]
theorem Re{sub:Bs}{b:UInt8}{l:Bs}(h:sub.isPrefixOf (b::l)=Tc)(h':index l sub=i):index (b::l) sub=((i+1:Nat):Int):=by
 unfold index;have:((i:Int)==-1)=Tc:=by rw[beq_eq_false_iff_ne];omega
 rw[zv (by simp[h]),h',zv (by simp[this])];omega
theorem tB(l sub:Bs):index l sub=-1\/∃i:Nat,index l sub=i:=by have:=index_ge l sub;by_cases h:index l sub=-1;exact .inl h;exact .inr ⟨(index l sub).toNat,by omega⟩
theorem Hr{sub:Bs}(h:sub≠[]):index [] sub=-1:=by
 unfold index;cases sub with
 |nil=>exact absurd rfl h
 |cons a t=>rfl
theorem AY{l sub:Bs}(h:index l sub=i):i+sub.length<=l.length:=by have:=index_room l sub (by omega);omega
def jI(old new:Bs)(s:Bs):Bs:=
 if h:old=[]\/index s old=-1 then s else s.take (index s old).toNat++new++jI old new (s.drop ((index s old).toNat+old.length))
termination_by s.length
decreasing_by
 have h1:old≠[]:=λe=>h (.inl e);have h2:0<old.length:=Vt.2 h1;have h3:=index_ge s old;have h4:index s old≠-1:=λe=>h (.inr e);have h5:=index_room s old (by omega);simp only[Vu];omega
theorem Ws{old new s:Bs}(h:index s old=-1):jI old new s=s:=by rw[jI,dif_pos (.inr h)]
theorem rQ{old new s:Bs}(b:old≠[])(h:index s old=i):jI old new s=s.take i++new++jI old new (s.drop (i+old.length)):=by rw[jI,dif_neg (λe=>e.elim b λe=>by omega),h];simp
theorem countFrom_fuel{sub:Bs}(b:sub≠[]):∀(f:Nat) (s:Bs),s.length<f->∀g,s.length<g->countFrom sub f s=countFrom sub g s
 |0,_,h,_,_=>absurd h (VJ _)
 |f+1,s,hf,0,hg=>absurd hg (VJ _)
 |f+1,s,hf,g+1,hg=>by
  unfold countFrom;rcases tB s sub with e|⟨i,e⟩;simp[e];have c:((i:Int)==-1)=Tc:=by rw[beq_eq_false_iff_ne];omega
  rw[e,zv (by simp[c]),zv (by simp[c])];have h1:=AY e;have j:0<sub.length:=Vt.2 b;rw[countFrom_fuel b f _ (by simp only[Vu,Ui];omega) g (by simp only[Vu,Ui];omega)]
theorem count_hit{sub s:Bs}(b:sub≠[])(e:index s sub=i):count s sub=1+count (s.drop (i+sub.length)) sub:=by
 have c:((i:Int)==-1)=Tc:=by rw[beq_eq_false_iff_ne];omega
 have h1:=AY e;have f:0<sub.length:=Vt.2 b;rw[count,countFrom,e,zv (by simp[c]),count,Ui,countFrom_fuel b s.length _ (by simp only[Vu];omega) ((s.drop (i+sub.length)).length+1) (by omega)]
theorem EA{old new:Bs}(b:old≠[]):∀(k:Nat) (s:Bs),count s old<=k->replaceK old new k s=jI old new s
 |0,s,h=>by rcases tB s old with e|⟨i,e⟩;rw[Ws e];rfl;rw[count_hit b e]at h;omega
 |k+1,s,h=>by rcases tB s old with e|⟨i,e⟩;rw[Ws e,replaceK,zA (by simp[e])];rw[rQ b e,replaceK_hit _ _ _ _ _ e,EA b k];rw[count_hit b e]at h;omega
theorem Wt{old new s:Bs}(b:old≠[])(c:old≠new):replaceAll s old new=jI old new s:=by unfold replaceAll replace;rw[zv (by simpa using c),replaceNum,zA (.inl (by omega))];exact EA b _ _ (Uf _)
theorem T1{old new:Bs}(b:old≠[]):jI old new []=[]:=Ws (Hr b)
theorem Mw{old new:Bs}(c:old≠[])(b:UInt8)(l:Bs):jI old new (b::l)=if old.isPrefixOf (b::l)then new++jI old new ((b::l).drop old.length)else b::jI old new l:=by
 cases hp:old.isPrefixOf (b::l)with
 |true=>rw[rQ (i:=0) c (Ng hp)];simp
 |false=>simp only[Vm,if_false];rcases tB l old with e|⟨i,e⟩;rw[Ws (KT hp e),Ws e];rw[rQ c (Re hp e),rQ c e,show i+1+old.length=(i+old.length)+1 by omega];simp
theorem rT(c:UInt8)(new:Bs):∀l:Bs,jI [c] new l=l.flatMap λx=>if x=c then new else [x]
 |[]=>T1 (by simp)
 |b::l=>by rw[Mw (by simp),Vq];simp only[List.isPrefixOf,XV,beq_iff_eq,Vs,List.drop_succ_cons,WH];rw[rT c new l];by_cases h:c=b;subst h;simp;rw[zv h,zv (λe=>h e.symm)];simp
end
end Go.X
end
section
namespace Go.X
section
theorem QD{n:Int}(h1:-2147483648<=n)(f:n<=2147483647):Ud .i32 n=n:=by
 unfold Ud;have e:(2:Int) ^ U7 .i32=4294967296:=by decide
 have b:(2:Int) ^ (U7 .i32-1)=2147483648:=by decide
 simp only[e,b];have c:XZ .i32=Ta:=rfl;simp only[c,Vz,zG];split <;> omega
end
end Go.X
end
section
namespace Go.X
open Go Go.Proofs Go.Shelf Go.RowKit
section
def H6:Go.Shelf.Ren:=⟨fun|161=>218|231=>270|227=>271|233=>272|235=>273|228=>321|197=>247|151=>322|260=>298|152=>369|137=>319|119=>394|224=>358|225=>357|217=>356|266=>385|n=>n,fun|9=>9|4=>4|3=>3|5=>5|117=>281|116=>280|0=>0|124=>284|105=>256|21=>21|119=>305|46=>123|139=>308|138=>307|n=>n,fun|3=>0|4=>1|n=>n⟩
theorem Ua:Go.Proofs.Lays.n161 Tp H6:=by constructor <;> intros <;> kernel_rfl
theorem J3(s:Bt)(c:UInt8)(b:c.toNat<128)(w:World): Calls Tp 218 #[.string s,.string ⟨#[c]⟩] w λe w'=>e=.returned (.string ⟨(Lib.trimLeftB s.data.toList c).toArray⟩)/\w'=w:=Any.strings_TrimLeft_one Ua s c b w
def RV:Go.Shelf.Ren:=⟨fun|162=>219|232=>274|227=>271|234=>275|236=>276|228=>321|271=>323|151=>322|120=>370|197=>247|152=>369|260=>298|137=>319|119=>394|224=>358|225=>357|217=>356|266=>385|n=>n,fun|9=>9|4=>4|3=>3|5=>5|117=>281|116=>280|0=>0|124=>284|21=>21|105=>256|46=>123|119=>305|139=>308|138=>307|n=>n,fun|3=>0|4=>1|n=>n⟩
theorem N9:Go.Proofs.Lays.n162 Tp RV:=by constructor <;> intros <;> kernel_rfl
theorem Je(s:Bt)(c:UInt8)(b:c.toNat<128)(w:World)(f:s.size<=9223372036854775807): Calls Tp 219 #[.string s,.string ⟨#[c]⟩] w λe w'=>e=.returned (.string ⟨(Lib.trimRightB s.data.toList c).toArray⟩)/\w'=w:=Any.strings_TrimRight_one N9 s c b w f
def O4:Go.Shelf.Ren:=⟨fun|137=>319|217=>356|266=>385|n=>n,fun|9=>9|5=>5|3=>3|n=>n,fun|n=>n⟩
theorem Od:Go.Proofs.Lays.n137 Tp O4:=by constructor <;> intros <;> kernel_rfl
theorem Se(s:Bt)(c:Int)(w:World): Calls Tp 319 #[.string s,.int .u8 c] w λe w'=>e=.returned (.int .i64 (Lib.indexByte s.data.toList c.toNat.toUInt8))/\w'=w:=Any.strings_IndexByte Od s c w
def HL:Go.Shelf.Ren:=⟨fun|103=>267|210=>318|206=>306|n=>n,fun|9=>9|4=>4|24=>274|3=>3|n=>n,fun|n=>n⟩
theorem TE:Go.Proofs.Lays.n103 Tp HL:=by constructor <;> intros <;> kernel_rfl
theorem NC(s p:Bt)(w:World): Calls Tp 267 #[.string s,.string p] w λe w'=>e=.returned (.tuple #[.string ⟨(Lib.trimPrefix s.data.toList p.data.toList).toArray⟩,.bool (Lib.hasPrefix s.data.toList p.data.toList)])/\w'=w:=Any.strings_CutPrefix TE s p w
def IY:Go.Shelf.Ren:=⟨fun|242=>248|278=>299|n=>n,fun|37=>87|21=>21|51=>176|4=>4|5=>5|46=>123|n=>n,fun|n=>n⟩
theorem Ln:Go.Proofs.Lays.n242 Tp IY:=by constructor <;> intros <;> kernel_rfl
theorem Jf(B:Nat)(v:Value)(n:Nat)(xs:List Value)(r:Int)(f:-2147483648<=r)(i:r<=2147483647)(w:World)(b:w.ownsRow B 5 1 v n xs)(c:n+4<=140737488355328)(h:B<=w.heap.size): Calls Tp 248 #[v,.int .i32 r] w λe w'=>∃j,e=.returned j/\w'.ownsRow B 5 1 j (n+(Lib.runeCells r).length) (xs++Lib.runeCells r)/\∃o,(w.alloc o).grownBy w' v.ownBlock:=Any.utf8_AppendRune_plain Ln (by kernel_rfl) B v n xs r f i w b c h
def Nu:Go.Shelf.Ren:=⟨fun|171=>159|243=>216|246=>249|283=>300|284=>301|285=>302|286=>303|129=>178|317=>352|318=>353|319=>354|320=>355|337=>383|338=>384|n=>n,fun|3=>3|9=>9|2=>2|4=>4|171=>309|0=>0|53=>178|37=>87|5=>5|173=>311|212=>349|51=>176|20=>20|213=>350|46=>123|232=>384|233=>385|n=>n,fun|17=>2|18=>6|19=>7|n=>n⟩
theorem HN:Go.Proofs.LaysM.n171 Tp Nu:=by repeat' first|(intros;kernel_rfl)|constructor
open Go.RowKit Go.Sort Go.Lib in
theorem IM(n : Int)(h0 : -9223372036854775808 ≤ n)(h1 : n ≤ 9223372036854775807)(w : World)(htab : Lib.TabIs Tp w "internal/strconv.uint64pow10" .u64 Lib.pow10Tab): Calls Tp 159 #[.int .i64 n] w λe w'=>e=.returned (.string ⟨(Lib.itoa n).toArray⟩)/\∃k os,w'=grow (w.drewN k) os:=Any.strconv_Itoa HN n h0 h1 w htab
def Lq:Go.Shelf.Ren:=⟨fun|174=>262|247=>313|245=>314|287=>360|279=>361|280=>362|281=>363|282=>364|321=>387|322=>388|316=>389|171=>159|205=>390|243=>216|246=>249|283=>300|284=>301|285=>302|286=>303|129=>178|317=>352|318=>353|319=>354|320=>355|337=>383|338=>384|n=>n,fun|9=>9|3=>3|2=>2|75=>91|85=>269|4=>4|167=>351|5=>5|53=>178|175=>352|46=>123|168=>354|37=>87|0=>0|210=>376|21=>21|127=>133|145=>388|143=>386|171=>309|173=>311|212=>349|51=>176|20=>20|213=>350|232=>384|233=>385|80=>95|n=>n,fun|15=>4|16=>5|17=>2|18=>6|19=>7|n=>n⟩
theorem vF:Go.Proofs.LaysC.n174 Tp Lq:=by repeat' first|(intros;kernel_rfl)|constructor
theorem Zq(s:Bt)(b:s.size<=9223372036854775806)(v:Int)(h:Lib.parseIntB 64 s.data.toList=.ok v)(w:World): Calls Tp 262 #[.string s,.int .i64 10,.int .i64 64] w λe w'=>e=.returned (.tuple #[.int .i64 v,.nilIface])/\(w'=w\/∃t,w'=Lib.bytesWorld w 5 t):=Any.strconv_ParseInt_10_at64_ok vF s b v h w
theorem w8(s:Bt)(c:s.size<=281474976710656)(h:Lib.parseIntB 64 s.data.toList=Lib.parseIntB 64 [])(b:Value)(w:World)(j:w.cell? ⟨4,0,Te⟩=Td b)(f:b=.nilIface\/∃i k,b=.iface i k): Calls Tp 262 #[.string s,.int .i64 10,.int .i64 64] w λe w'=>∃N,e=.returned (.tuple #[.int .i64 (0),.iface 354 (.pointer (Td ⟨N,0,Te⟩))])/\w.heap.size<=N/\w'.heap[N]?=Td (.cells #[.string ⟨#[80,97,114,115,101,73,110,116]⟩,.string s,b] 376 (0,0))/\Below w.heap.size w w':=Any.strconv_ParseInt_10_at64_syntax vF s c h b w j f
theorem xh(s:Bt)(c:s.size<=281474976710656)(h:Lib.parseIntB 64 s.data.toList=.range)(b:Value)(w:World)(j:w.cell? ⟨5,0,Te⟩=Td b)(f:b=.nilIface\/∃i k,b=.iface i k): Calls Tp 262 #[.string s,.int .i64 10,.int .i64 64] w λe w'=>∃N,e=.returned (.tuple #[.int .i64 (Lib.intSat 64 s.data.toList),.iface 354 (.pointer (Td ⟨N,0,Te⟩))])/\w.heap.size<=N/\w'.heap[N]?=Td (.cells #[.string ⟨#[80,97,114,115,101,73,110,116]⟩,.string s,b] 376 (0,0))/\Below w.heap.size w w':=Any.strconv_ParseInt_10_at64_range vF s c h b w j f
def RJ:Go.Shelf.Ren:=⟨fun|101=>269|208=>320|206=>306|n=>n,fun|9=>9|4=>4|3=>3|n=>n,fun|n=>n⟩
theorem PO:Go.Proofs.Lays.n101 Tp RJ:=by constructor <;> intros <;> kernel_rfl
open Go.RowKit Go.Lib in
theorem X3(s p:Bt)(w:World): Calls Tp 269 #[.string s,.string p] w λe w'=>e=.returned (.string ⟨(Lib.trimPrefix s.data.toList p.data.toList).toArray⟩)/\w'=w:=Any.strings_TrimPrefix PO s p w
def BC:Go.Shelf.Ren:=⟨fun|155=>134|154=>205|138=>260|165=>202|143=>261|166=>68|197=>247|169=>70|195=>310|218=>311|240=>123|241=>257|219=>312|260=>298|276=>195|277=>308|217=>356|225=>357|224=>358|267=>359|266=>385|314=>386|n=>n,fun|9=>9|3=>3|4=>4|72=>89|0=>0|76=>92|105=>256|21=>21|5=>5|70=>86|20=>20|37=>87|75=>91|127=>133|164=>199|46=>123|119=>305|139=>308|138=>307|146=>313|51=>176|80=>95|n=>n,fun|1=>3|3=>0|4=>1|n=>n⟩
theorem Ls:Go.Proofs.Lays.n155 Tp BC:=by constructor <;> intros <;> kernel_rfl
theorem KX:Builder.Extra Tp BC:={
 sizeBuilder:=by kernel_rfl
 liesBuilder:=by kernel_rfl
 t5:=XI
 a5:=Tryz.isAgg5
 z5:=Tryz.sizeOf5
 v5:=Tryz.zeroValue5
 infoByte:=by kernel_rfl
 cellsByte:=by kernel_rfl
 sizeByte:=by kernel_rfl
 neB5:=by decide }
open Go.RowKit Go.Lib in
theorem X4(s old new:Bt)(m:Int)(w:World)(f:s.size<4294967281)(c:w.cell? ⟨3,0,Te⟩=Td (.int .i64 m))(h1:1<=old.size)(b:s.size+Lib.countB s old*new.size<=140737488355328):
  Calls Tp 134 #[.string s,.string old,.string new] w λe w'=>
   e=.returned (.string ⟨(Lib.replaceAll s.data.toList old.data.toList new.data.toList).toArray⟩)/\Below w.heap.size w w':=Any.strings_ReplaceAll Ls KX s old new m w f c h1 b
def OJ:Go.Shelf.Ren:=⟨fun|197=>247|260=>298|n=>n,fun|9=>9|21=>21|3=>3|4=>4|5=>5|105=>256|119=>305|0=>0|46=>123|139=>308|138=>307|n=>n,fun|3=>0|4=>1|n=>n⟩
theorem NK:Go.Proofs.Lays.n197 Tp OJ:=by constructor <;> intros <;> kernel_rfl
def EV:Go.Shelf.Ren:=⟨fun|105=>200|212=>250|99=>251|165=>202|166=>68|170=>252|169=>70|263=>304|264=>305|206=>306|240=>123|241=>257|276=>195|277=>308|n=>n,fun|9=>9|3=>3|4=>4|20=>20|0=>0|46=>123|109=>259|5=>5|72=>89|76=>92|51=>176|146=>313|53=>178|148=>315|70=>86|37=>87|75=>91|127=>133|164=>199|80=>95|n=>n,fun|n=>n⟩
theorem Kv:Go.Proofs.Lays.n105 Tp EV:=by constructor <;> intros <;> kernel_rfl
theorem S2:Builder.Extra Tp EV:={
 sizeBuilder:=by kernel_rfl
 liesBuilder:=by kernel_rfl
 t5:=XI
 a5:=Tryz.isAgg5
 z5:=Tryz.sizeOf5
 v5:=Tryz.zeroValue5
 infoByte:=by kernel_rfl
 cellsByte:=by kernel_rfl
 sizeByte:=by kernel_rfl
 neB5:=by decide }
open Go.RowKit Go.Lib in
theorem Mn(s:Bt)(c:Nat)(w:World)(f:c<=9223372036854775807)(b:s.size*c<=140737488355328): Calls Tp 200 #[.string s,.int .i64 c] w λe w'=>e=.returned (.string ⟨(Lib.repeatL s.data.toList c).toArray⟩)/\Below w.heap.size w w':=Any.strings_Repeat Kv S2 s c w f b
open Go.RowKit Go.Lib in
theorem Q2(s:Bt)(w:World)(b:Lib.Utf8Tabs 0 1 w): Calls Tp 247 #[.string s] w λe w'=>e=.returned (.tuple #[.int .i32 (Lib.decodeGo s).1,.int .i64 (Lib.decodeGo s).2])/\Below w.heap.size w w':=Any.utf8_DecodeRuneInString NK s w b
end
end Go.X
end
section
namespace Go.X
open Go Go.X Go.Proofs Go.RowKit
section
variable {gl M:Fr}
theorem Ou{s:Bt}{c:Int}{R:Int->Prop}(h:R (Lib.indexByte (lb s) c.toNat.toUInt8)):PC Tp gl 319 [Arg.mk .str s,Arg.mk (.int .u8) c] [.int .i64] R:= PC.of_same rfl (λ_=>N2 _ _) h λw _=>Se s c w
theorem SA{s p:Bt}{R:Bt×Bool->Prop}(h:R (bl (Lib.trimPrefix (lb s) (lb p)),Lib.hasPrefix (lb s) (lb p))):PC Tp gl 267 [Arg.mk .str s,Arg.mk .str p] [.str,.bool] R:= PC.of_same rfl (λM=>⟨[_,_],⟨_,_,rfl,rfl,_,rfl,rfl⟩,rfl⟩) h λw _=>NC s p w
theorem QX{s p:Bt}{R:Bt->Prop}(h:R (bl (Lib.trimPrefix (lb s) (lb p)))):PC Tp gl 269 [Arg.mk .str s,Arg.mk .str p] [.str] R:= PC.of_same rfl (λ_=>nT _) h λw _=>X3 s p w
theorem Ic{s:Bt}{c:UInt8}(b:c.toNat<128){R:Bt->Prop}(h:R (bl (Lib.trimLeftB (lb s) c))):PC Tp gl 218 [Arg.mk .str s,Arg.mk .str ⟨#[c]⟩] [.str] R:= PC.of_same rfl (λ_=>nT _) h λw _=>J3 s c b w
theorem NP{s:Bt}{c:UInt8}(e:c.toNat<128)(b:s.size<=9223372036854775807){R:Bt->Prop}(h:R (bl (Lib.trimRightB (lb s) c))):PC Tp gl 219 [Arg.mk .str s,Arg.mk .str ⟨#[c]⟩] [.str] R:= PC.of_same rfl (λ_=>nT _) h λw _=>Je s c e w b
def uD(gl:Fr):Prop:=∃(cs:Array Value) (m:Int),gl 3=Td cs/\cs[0]?=Td (.int .i64 m)
theorem LJ(j:uD gl){s old new:Bt}(i:s.size<4294967281)(c:1<=old.size)(b:s.size+Lib.countB s old*new.size<=140737488355328){R:Bt->Prop}(h:R (bl (Lib.replaceAll (lb s) (lb old) (lb new)))):
  PC Tp gl 134 [Arg.mk .str s,Arg.mk .str old,Arg.mk .str new] [.str] R:=by
 obtain⟨cs,m,h1,f⟩:=j;exact PC.of_scal rfl (λ_=>nT _) h λw e=>X4 s old new m w i (e.glob h1 f) c b
theorem u0{s:Bt}{c:Nat}(e:c<=9223372036854775807)(b:s.size*c<=140737488355328){R:Bt->Prop}(h:R (bl (Lib.repeatL (lb s) c))):PC Tp gl 200 [Arg.mk .str s,Arg.mk (.int .i64) (c:Int)] [.str] R:= PC.of_scal rfl (λ_=>nT _) h λw f=>Mn s c w e b
def Tabs(gl:Fr):Prop:=(∃cs:Array Value,gl 0=Td cs/\∀c,c<256->cs[c]?=Td (.int .u8 (Lib.firstT c)))/\∃cs:Array Value,gl 1=Td cs/\∀i,i<16->cs[2*i]?=Td (.int .u8 (Lib.accLo i))/\cs[2*i+1]?=Td (.int .u8 (Lib.accHi i))
theorem Tabs.at(h:Tabs gl){w:World}(b:AgM gl w.heap):Lib.Utf8Tabs 0 1 w:=by obtain⟨⟨c1,a1,b1⟩,c2,a2,b2⟩:=h;exact⟨λc e=>b.glob a1 (b1 c e),λi hi=>⟨b.glob a2 (b2 i hi).1,b.glob a2 (b2 i hi).2⟩⟩
theorem IE(c:Tabs gl){s:Bt}{R:Int×Int->Prop}(h:R ((Lib.decodeGo s).1,(Lib.decodeGo s).2)):PC Tp gl 247 [Arg.mk .str s] [.int .i32,.int .i64] R:= PC.of_scal rfl (λM=>⟨[_,_],⟨_,_,rfl,rfl,_,rfl,rfl⟩,rfl⟩) h λw b=>Q2 s w (c.at b)
theorem Iy(w:World)(k:Nat)(os:Array Obj):Below w.heap.size w (Go.Sort.grow (w.drewN k) os):=⟨rfl,rfl,rfl,by simp[Go.Sort.grow,World.drewN],λi hi=>by show((w.drewN k).heap++os)[i]?=_;exact VU hi⟩
def p7(gl : Fr): Prop := ∃ b cs, Tryz.prog.globalNamed "internal/strconv.uint64pow10" = some b ∧ gl b = some cs ∧ cs = (Lib.pow10Tab.map λz => Value.int .u64 z).toArray
theorem ue(i:p7 gl){n:Int}(h0:-9223372036854775808<=n)(h1:n<=9223372036854775807){R:Bt->Prop}(h:R (bl (Lib.itoa n))):PC Tp gl 159 [Arg.mk (.int .i64) n] [.str] R:=by obtain⟨b,cs,j,q,l⟩:=i;refine PC.of_scal rfl (λ_=>nT _) h λw f=>(IM n h0 h1 w ?_).mono λe w' ⟨o,k,os,c⟩=>⟨o,c ▸ Iy w k os⟩;obtain⟨T,m,p⟩:=f b cs q;unfold Lib.TabIs World.var?;rw[j];simp only[VK,p,l]
def De(gl:Fr):Prop:=(∃(cs:Array Value) (e:Value),gl 4=Td cs/\cs[0]?=Td e/\(e=.nilIface\/∃b c,e=.iface b c))/\∃(cs:Array Value) (e:Value),gl 5=Td cs/\cs[0]?=Td e/\(e=.nilIface\/∃b c,e=.iface b c)
theorem EO(k:IntKind)(i:Int)(t:TypeId)(u:Value):Q5 M [.int k,.err] (i,Tc) (.tuple #[.int k i,.iface t u]):=⟨[_,_],⟨_,_,rfl,rfl,.iface t u,rfl,⟨_,rfl,.inr ⟨rfl,_,_,rfl⟩⟩⟩,rfl⟩
theorem NM(k:IntKind)(i:Int):Q5 M [.int k,.err] (i,Ta) (.tuple #[.int k i,.nilIface]):=⟨[_,_],⟨_,_,rfl,rfl,.nilIface,rfl,⟨_,rfl,.inl ⟨rfl,rfl⟩⟩⟩,rfl⟩
def wY(l:List UInt8):Int×Bool:=match Lib.parseIntB 64 l with
 |.ok v=>(v,Ta)
 |.range=>(Lib.intSat 64 l,Tc)
 |_=>(0,Tc)
theorem NT(o:De gl){s:Bt}(n:s.size<=281474976710656){R:Int×Bool->Prop}(h:R (wY (lb s))):PC Tp gl 262 [Arg.mk .str s,Arg.mk (.int .i64) 10,Arg.mk (.int .i64) 64] [.int .i64,.err] R:=by
 unfold wY at h;cases hx:Lib.parseIntB 64 (lb s)with
 |ok v=>rw[hx]at h;refine PC.of_ex rfl λw f=>(Zq s (by omega) v hx w).mono λe w' ⟨c,i⟩=>⟨_,(v,Ta),c,λM=>NM _ _,h,?_⟩;rcases i with rfl|⟨t,rfl⟩;exact Below.refl _ _;exact Lib.bytesWorld_below _ _ _
 |range=>rw[hx]at h;obtain⟨_,⟨cs,j,k,m,l⟩⟩:=o;exact PC.of_ex rfl λw f=>(xh s n hx j w (f.glob k m) l).mono λe w' ⟨N,c,_,_,b⟩=>⟨_,(Lib.intSat 64 (lb s),Tc),c,λM=>EO _ _ _ _,h,b⟩
 |_=>rw[hx]at h;obtain⟨⟨cs,j,k,m,l⟩,_⟩:=o;exact PC.of_ex rfl λw f=>(w8 s n hx j w (f.glob k m) l).mono λe w' ⟨N,c,_,_,b⟩=>⟨_,(0,Tc),c,λM=>EO _ _ _ _,h,b⟩
end
end Go.X
end
section
namespace Go.X
open Go Go.Lib
section
theorem zy(l:Bs):(bl l).size=l.length:=by rw[<-mr,jf]
theorem Ct(l:Bs)(a b:Nat):(bl l).extract a b=bl ((l.drop a).take (b-a)):=by rw[<-nS,Lr,jf,jf]
theorem jr(a b:Bs):bl a++bl b=bl (a++b):=by rw[<-nS,TN,jf,jf,jf]
theorem Ys(l:Bs)(i:Nat):y8 (bl l) i=((l[i]?.getD 0).toNat:Int):=by rw[Ia,jf]
theorem Zl(s:Bt):s.toList=lb s:=by
 cases s with
 |mk d=>exact Go.Lib.toList_data ⟨d⟩
theorem lS(a b:Bs):((bl a).toList==(bl b).toList)=decide (a=b):=by rw[Zl,Zl,jf,jf];rw[UR];simp
theorem zQ(l:Bs)(p:Nat):iE (bl l) p=decide (p<l.length):=by rw[UR];simp[iE,zy]
theorem rG(l:Bs)(p:Nat):jL (bl l) p=((dec (l.drop p)).1:Int):=by rw[jL,uG,jf]
theorem oS(l:Bs)(p:Nat)(h:p<l.length):iw (bl l) p=p+(dec (l.drop p)).2:=by
 rw[iw,uG,jf];have:Nat.blt p (bl l).size=Ta:=by simp[zy,h]
 rw[this];rfl
theorem Pq{l:Bs}{i:Nat}(h:i<l.length):l[i]?.getD 0=l[i]:=by rw[Ul h];rfl
def js(c:UInt8):Bool:=decide (48<=c.toNat)&&decide (c.toNat<=57)
def Xq(l:Bs):Bool:=l.all js && !l.isEmpty
abbrev Nm:=Bool×Bs×Int
abbrev nt(n:Nm):Bool×Bt×Int:=(n.1,(bl n.2.1,n.2.2))
def mH(n:Nm):Bool:=!n.1&&(n.2.1.isEmpty&&n.2.2==0)
def jg(n:Nm):Bool:=mH n||(Xq n.2.1&&decide (n.2.1.length<=1000)&&n.2.1.head? != Td 48&&n.2.1.getLast? != Td 48&&decide (-1000000<=n.2.2)&&decide (n.2.2<=1000000))
def Jw(n:Nm):Bs:=if jg n then(if n.2.1=[]then [48]else(if n.1 then [45]else [])++n.2.1++(if n.2.2=0 then []else 101::Go.Lib.itoa n.2.2))else []
theorem Jv{n:Nm}(h:jg n=Ta)(e:n.2.1=[]):mH n=Ta:=by unfold jg at h;rcases WU _ _ ▸ h with h|h;exact h;simp[Xq,e]at h
theorem CG{n:Nm}(h:jg n=Ta):n.2.1.length<=1000/\-1000000<=n.2.2/\n.2.2<=1000000:=by unfold jg mH at h;obtain⟨a,d,e⟩:=n;simp at h;rcases h with⟨_,h,h'⟩|h;subst h;subst h';simp;simp only;omega
def cutAt(p:UInt8->Bool):Bs->Bs×Bs×Bool
 |[]=>([],[],Tc)
 |c::l=>if p c then([],l,Ta)else(c::(cutAt p l).1,(cutAt p l).2)
theorem Bl{p:UInt8->Bool}:∀{l},(∀c∈l,p c=Tc)->cutAt p l=(l,[],Tc)
 |[],_=>rfl
 |c::l,h=>by unfold cutAt;rw[zv (by simp[h c (by simp)]),Bl λc b=>h c (by simp[b])]
theorem Eu{p:UInt8->Bool}:∀{l:Bs} {k:Nat} (b:k<l.length),(∀i (hi:i<k),p (l[i]'(by omega))=Tc)->p l[k]=Ta->cutAt p l=(l.take k,l.drop (k+1),Ta)
 |c::l,0,_,_,h=>by unfold cutAt;rw[zA (by simpa using h)];simp
 |c::l,k+1,b,h0,h=>by unfold cutAt;have h1:p c=Tc:=h0 0 (by omega);rw[zv (by simp[h1]),Eu (k:=k) (by simpa using b) (λi hi=>by simpa using h0 (i+1) (by omega)) (by simpa using h)];simp
structure Lit where
 neg:Bool
 whole:Bs
 rest:Bs
 low:Bool
 exp:Bs
def lR(s:Bs):Bs:=if s.head?==Td 45 then s.tail else s
def qD(c:UInt8):Bool:=c==101||c==69
def rE(c:UInt8):Bool:=c==46
def Xr(s:Bs):Bs×Bs×Bool:=cutAt qD (lR s)
def mD(s:Bs):Bool:=(Xr s).2.2&&(Xr s).2.1.head?==Td 45
def jE(s:Bs):Bs:=if mD s then(Xr s).2.1.tail else if(Xr s).2.1.head?==Td 43 then(Xr s).2.1.tail else(Xr s).2.1
def Qe(s:Bs):Bs×Bs×Bool:=cutAt rE (Xr s).1
def l9(s:Bs):Bool:=(!(Xr s).2.2||Xq (jE s))&&Xq (Qe s).1&&(!(Qe s).2.2||Xq (Qe s).2.1)&&((Qe s).1==[48]||(Qe s).1.head? != Td 48)
def kK(s:Bs):Lit:=⟨s.head?==Td 45,(Qe s).1,(Qe s).2.1,mD s,if(Xr s).2.2 then jE s else []⟩
def lI(s:Bs):Option Lit:=if l9 s then Td (kK s)else Te
theorem FN{s:Bs}{x:Lit}(h:lI s=Td x):l9 s=Ta/\x=kK s:=by unfold lI at h;split at h;rename_i e;exact⟨e,(UQ h).symm⟩;exact absurd h (by simp)
theorem uq{p:UInt8->Bool}:∀{l:Bs},(cutAt p l).2.2=Tc->(cutAt p l).1=l/\(cutAt p l).2.1=[]
 |[],_=>⟨rfl,rfl⟩
 |c::l,h=>by unfold cutAt at h ⊢;split;rename_i e;rw[zA e]at h;exact absurd h (by simp);rename_i e;rw[zv e]at h;have:=uq h;exact⟨by simp[this.1],this.2⟩
def y0(l:Bs):Bs:=((l.dropWhile (· == 48)).reverse.dropWhile (· == 48)).reverse
def zu(l:Bs):Nat:=l.foldl (λn c=>10*n+(c.toNat-48)) 0
def qu(s:Bs):Nm×Int:=match lI s with
 |none=>((Tc,[],0),2)
 |some x=>
  if x.whole.length+x.rest.length>1000 then((Tc,[],0),3)
  else if(x.exp.dropWhile (· == 48)).length>9 then((Tc,[],0),4)
  else
   let e:Int:=if x.low then-(zu (x.exp.dropWhile (· == 48)):Int)else zu (x.exp.dropWhile (· == 48))
   let d:=(x.whole++x.rest).dropWhile (· == 48)
   let b:=y0 (x.whole++x.rest)
   if d=[]then((Tc,[],0),0)
   else if -1000000<=e-x.rest.length+d.length-b.length/\e-x.rest.length+d.length-b.length<=1000000 then((x.neg,b,e-x.rest.length+d.length-b.length),0)
   else((Tc,[],0),4)
def rL(n:Nm):Int×Bool:=
 if jg n&&decide (0<=n.2.2)&&decide ((n.2.1.length:Int)+n.2.2<=19)then
  let v:Int:=if n.1 then-((zu n.2.1*10 ^ n.2.2.toNat:Nat):Int)else(zu n.2.1*10 ^ n.2.2.toNat:Nat)
  if -9223372036854775808<=v/\v<=9223372036854775807 then(v,Ta)else(0,Tc)
 else(0,Tc)
end
end Go.X
end
section
namespace Go.X
section
variable {n:Nat} {l:Bs} {gl:Fr} {R:Bool -> Prop}
theorem ja{k n:Nat}(h:k<n)(b:n<=4611686018427387904):Ud .i64 ((k:Int)+1)=((k+1:Nat):Int):=zq (by omega)
theorem R0(h:l≠[]):(48<=(dec l).1/\(dec l).1<=57)->(dec l).2=1/\∃c t,l=c::t/\js c=Ta/\(dec l).1=c.toNat:=by obtain⟨c,t,rfl⟩:=VI h;intro b;by_cases e:c.toNat<128;rw[Yr e]at b ⊢;exact⟨rfl,c,t,rfl,by simp[js];simpa using b,rfl⟩;exfalso;unfold dec at b;have b0:((c::t).getD 0 0).toNat=c.toNat:=rfl;rw[b0]at b;have:=c.toNat_lt;have b1:=((c::t).getD 1 0).toNat_lt;have b2:=((c::t).getD 2 0).toNat_lt;have b3:=((c::t).getD 3 0).toNat_lt;generalize ((c::t).getD 1 0).toNat=x1 at *;generalize ((c::t).getD 2 0).toNat=x2 at *;generalize ((c::t).getD 3 0).toNat=x3 at *;generalize c.toNat=x0 at *;unfold Lib.decodeN at b;rw[zv e]at b;split at b;split at b <;> simp only at b <;> omega;split at b;split at b <;> simp only at b <;> omega;split at b;split at b <;> simp only at b <;> omega;simp only at b;omega
theorem s7(h:R (Xq l)):PC Tp gl 215 [Arg.mk .str (bl l)] [.bool] R:=by
 apply Lv;refine⟨λp=>p.1=bl l/\p.2<=l.length/\(l.drop p.2).all js=l.all js,λp=>l.length-p.2,⟨rfl,by omega,by simp⟩,?_⟩;rintro⟨_,p⟩ ⟨rfl,o,j⟩;simp only at o j ⊢;rw[zQ,rG];refine⟨λm=>⟨m,λf=>?_,λf=>?_⟩,λm=>?_⟩;all_goals first
  |have k:p<l.length:=by simpa using m
  |have k:¬p<l.length:=by simpa using m
 have i:l.drop p≠[]:=λe=>by have:=congrArg Vi e;simp at this;omega
 have n:¬(48<=(dec (l.drop p)).1/\(dec (l.drop p)).1<=57):=by rw[Bool.cond_true_left]at f;rcases WU _ _ ▸ f with f|f <;> simp at f <;> omega
 have q:l.all js=Tc:=by
  rw[<-j];obtain⟨c,t,e⟩:=VI i;rw[e];cases b:js c with
  |false=>simp[b]
  |true=>
   exfalso;apply n;have:c.toNat<128:=by simp[js]at b;omega
   rw[e,Yr this];simpa[js]using b
 have:Xq l=Tc:=by simp[Xq,q]
 rw[this]at h;exact h;have i:l.drop p≠[]:=λe=>by have:=congrArg Vi e;simp at this;omega
 have n:48<=(dec (l.drop p)).1/\(dec (l.drop p)).1<=57:=by rw[Bool.cond_true_left]at f;have:=Bool.or_eq_false_iff.1 f;simp at this;omega
 obtain⟨h1,c,t,e,b,_⟩:=R0 i n;rw[oS l p k,h1];refine⟨⟨trivial,by omega,?_⟩,by omega⟩;have r:l.drop (p+1)=t:=by rw[<-XB,e];rfl
 rw[r,<-j,e];simp[b];have:l.drop p=[]:=VV (by omega);rw[this]at j;have e:Xq l=!(decide (l=[])):=by rw[Xq,<-j];cases l <;> simp
 have:=lS l [];rw[show(⟨#[]⟩:Bt)=bl []from rfl,this,<-e];exact h
abbrev tN:Ty:=.pair .bool (.pair .str (.int .i64))
theorem FI(h:0<l.length):(((l[0]?.getD 0).toNat:Int) != 48)=(l.head? != Td 48):=by
 cases l with
 |nil=>simp at h
 |cons c t=>rw[UR];simp;constructor;intro h1 b;exact h1 (by rw[b];rfl);intro h1 b;exact h1 (UInt8.toNat_inj.1 (by(have:c.toNat=48:=by omega);rw[this];rfl))
theorem Mf(h:0<l.length):(((l[l.length-1]?.getD 0).toNat:Int) != 48)=(l.getLast? != Td 48):=by rw[List.getLast?_eq_getElem?];rw[Ul (by omega)];rw[UR];simp;constructor;intro h1 b;exact h1 (by rw[b];rfl);intro h1 b;exact h1 (UInt8.toNat_inj.1 (by(have:l[l.length-1].toNat=48:=by omega);rw[this];rfl))
theorem Ez(h:Xq l=Ta):0<l.length:=by
 cases l with
 |nil=>simp[Xq]at h
 |cons=>simp
theorem ui(h:0<n)(b:n<=4611686018427387904):Ud .i64 ((n:Int)-1)=((n-1:Nat):Int):=by rw[wrap64 (by omega) (by omega)];omega
theorem wA{n:Nm}(l:n.2.1.length<=4611686018427387904)(h:R (jg n)):PC Tp gl 158 [Arg.mk tN (nt n)] [.bool] R:=by
 apply PM;simp only[show(⟨#[]⟩:Bt)=bl []from rfl,lS,zy,Ys];have e:((n.1==Tc)&&(decide (n.2.1=[])&&((n.2.2==0)&&Ta)))=mH n:=by unfold mH;rcases n with⟨_|_,_|⟨_,_⟩,e⟩ <;> simp
 rw[e];refine⟨λh1=>?_,λh1=>?_⟩;have:jg n=Ta:=by simp[jg,h1]
 rw[this]at h;exact h
 ·unfold jg at h;rw[h1,Bool.false_or]at h;refine s7 ⟨λj=>⟨λ_=>?_,λf=>?_⟩,λj=>⟨λf=>⟨λ_=>?_,λc=>?_⟩,λf=>⟨?_,λc=>⟨λ_=>?_,λb=>?_⟩,λc=>⟨?_,λb=>?_,λb=>?_⟩⟩⟩⟩;have:Xq n.2.1=Tc:=by simpa using j
  rw[this]at h;simpa using h;rw[j]at f;cases f;have:decide (n.2.1.length<=1000)=Tc:=by simp at f ⊢;omega
  rw[this]at h;simpa using h;rw[f]at c;cases c;all_goals
   have m:Xq n.2.1=Ta:=by simpa using j
   have i:=Ez m;have k:decide (n.2.1.length<=1000)=Ta:=by simp at f ⊢;omega
   have o:=FI i;have el:=Mf i
  omega;have:(n.2.1.head? != Td 48)=Tc:=by rw[<-o];simp at c ⊢;exact c
  rw[this]at h;simpa using h;rw[c]at b;cases b;rw[ui i l];omega;have:(n.2.1.getLast? != Td 48)=Tc:=by rw[<-el];rw[ui i l]at b;simp at b ⊢;exact b
  rw[this]at h;simpa using h;have p:(n.2.1.head? != Td 48)=Ta:=by rw[<-o];simp at c ⊢;exact c
  have q:(n.2.1.getLast? != Td 48)=Ta:=by rw[<-el];rw[ui i l]at b;simp at b ⊢;exact b
  rw[m,k,p,q]at h;simp only[Vz]at h;rw[Bool.cond_false_right];exact h
end
section
theorem XF{vs:List Value}{f:FuncId}{fn:Func}{h:zc}{R:Value->zc->Prop}{F:Prop}(pl:Plan)(rs:List ResultVar)(n:Nat)(b:US.funcs[f]?=Td fn)(H:F)(i:Qa fn=Ta:=by kernel_rfl)(c:fn.results.toList=rs:=by kernel_rfl)(j:fn.ntmps=n:=by kernel_rfl)(hz:Nat.ble vs.length n=Ta:=by kernel_rfl)(e:F=W Tp n pl (codeOf fn) (rI Tp rs R) (kf 0 vs) h:=by kernel_rfl):XC Tp f vs.toArray h R:=I2 Tryz.mixed pl vs b i c j hz (Eq.mp e H)
theorem Tq(s0:Bt)(h:zc)(R:Value->zc->Prop) (H:let a:=h.push (.cells #[.bool Tc,.bool Tc,.string (⟨#[]⟩:Bt),.string (⟨#[]⟩:Bt),.string (⟨#[]⟩:Bt)] 221);XC Tp 267 #[.string s0,.string (⟨#[45]⟩:Bt)] a (λb c=>∃d e,b=.tuple #[.string d,.bool e]/\XRunU Tp (Uj 4 (.pointer (Td (Ue ⟨h.size,0,Te⟩ 0))) (.bool e)) c (λf=>XC Tp 268 #[.string d,.string (⟨#[101,69]⟩:Bt)] f (λg i=>∃j k l,g=.tuple #[.string j,.string k,.bool l]/\∀m:Bt->zc->Prop,(∀n:Bt,∀o:zc,(XRunU Tp (Uj 9 (.pointer (Td (Ue ⟨h.size,0,Te⟩ 4))) (.string n)) o (λp=>XC Tp 268 #[.string j,.string (⟨#[46]⟩:Bt)] p (λq r=>∃s t u,q=.tuple #[.string s,.string t,.bool u]/\XRunU Tp (Uj 9 (.pointer (Td (Ue ⟨h.size,0,Te⟩ 2))) (.string s)) r (λv=>XRunU Tp (Uj 9 (.pointer (Td (Ue ⟨h.size,0,Te⟩ 3))) (.string t)) v (λw=>XC Tp 215 #[.string s] w (λx y=>∃z,x=.bool z/\∃A:Value->zc->Prop,(((!(!z))&&u)=Ta->XC Tp 215 #[.string t] y (λB C=>∃D,B=.bool D/\A (.bool D) C))/\(((!(!z))&&u)=Tc->∃E,A (.bool E) y)/\(((!(!z))&&u)=Ta->∀F G,A F G->∃I,F=.bool I)/\∀J:Bool,∀L,A (.bool J) L->((bif (!z)then Ta else(bif u then(!J)else Tc))=Ta->∃M N O P Q,ze L ⟨h.size,0,Te⟩ 0 [.bool M,.bool N,.string O,.string P,.string Q]/\XRunU Tp (Uj 221 (.pointer (Td ⟨h.size,0,Te⟩)) (.agg #[.bool M,.bool N,.string O,.string P,.string Q])) L (λS=>∃T U V W X,ze S ⟨h.size,0,Te⟩ 0 [.bool T,.bool U,.string V,.string W,.string X]/\R (.tuple #[.agg #[.bool T,.bool U,.string V,.string W,.string X],.bool Tc]) S))/\((bif (!z)then Ta else(bif u then(!J)else Tc))=Tc->∃Y Z aa ab ac,ze L ⟨h.size,0,Te⟩ 0 [.bool Y,.bool Z,.string aa,.string ab,.string ac]/\let ad:zc->Prop:=λ(ae:zc)=>(∃af ag ah ai aj,ze ae ⟨h.size,0,Te⟩ 0 [.bool af,.bool ag,.string ah,.string ai,.string aj]/\R (.tuple #[.agg #[.bool af,.bool ag,.string ah,.string ai,.string aj],.bool (bif (s.toList==(⟨#[48]⟩:Bt).toList)then Ta else((y8 s (0:Int).toNat:Int) != 48))]) ae);let ak:zc->Prop:=λ(al:zc)=>(ad al);let am:zc->Prop:=λ(an:zc)=>(ak an);let ao:zc->Prop:=λ(ap:zc)=>(((!(s.toList==(⟨#[48]⟩:Bt).toList))=Ta->(0<=(0:Int)/\(0:Int)<(s.size:Int)))/\am ap);((L)[(⟨h.size,0,Te⟩:Addr).block]?=(L)[(⟨h.size,0,Te⟩:Addr).block]?/\(((!(s.toList==(⟨#[48]⟩:Bt).toList))=Ta->(0<=(0:Int)/\(0:Int)<(s.size:Int)))/\(L)[(⟨h.size,0,Te⟩:Addr).block]?=(L)[(⟨h.size,0,Te⟩:Addr).block]?/\((L)[(⟨h.size,0,Te⟩:Addr).block]?=(L)[(⟨h.size,0,Te⟩:Addr).block]?/\((L)[(⟨h.size,0,Te⟩:Addr).block]?=(L)[(⟨h.size,0,Te⟩:Addr).block]?/\XRunU Tp (Uj 221 (.pointer (Td ⟨h.size,0,Te⟩)) (.agg #[.bool Y,.bool Z,.string aa,.string ab,.string ac])) L (λaq=>ad aq))/\(XRunU Tp (Uj 221 (.pointer (Td ⟨h.size,0,Te⟩)) (.agg #[.bool Y,.bool Z,.string aa,.string ab,.string ac])) L (λar=>ak ar)))/\(XRunU Tp (Uj 221 (.pointer (Td ⟨h.size,0,Te⟩)) (.agg #[.bool Y,.bool Z,.string aa,.string ab,.string ac])) L (λau=>am au)))/\(XRunU Tp (Uj 221 (.pointer (Td ⟨h.size,0,Te⟩)) (.agg #[.bool Y,.bool Z,.string aa,.string ab,.string ac])) L (λav=>ao av)))/\(XRunU Tp (Uj 221 (.pointer (Td ⟨h.size,0,Te⟩)) (.agg #[.bool Y,.bool Z,.string aa,.string ab,.string ac])) L (λaw=>ao aw)))))))))->m n o)->(l=Ta->XC Tp 267 #[.string k,.string (⟨#[45]⟩:Bt)] i (λax ay=>∃az aA,ax=.tuple #[.string az,.bool aA]/\XRunU Tp (Uj 4 (.pointer (Td (Ue ⟨h.size,0,Te⟩ 1))) (.bool aA)) ay (λaB=>∀aC:Bt->zc->Prop,(∀aD:Bt,∀aE:zc,(XC Tp 215 #[.string aD] aE (λaF aG=>∃aH,aF=.bool aH/\((!aH)=Ta->∃aI aJ aL aM aN,ze aG ⟨h.size,0,Te⟩ 0 [.bool aI,.bool aJ,.string aL,.string aM,.string aN]/\XRunU Tp (Uj 221 (.pointer (Td ⟨h.size,0,Te⟩)) (.agg #[.bool aI,.bool aJ,.string aL,.string aM,.string aN])) aG (λaO=>∃aP aQ aS aT aU,ze aO ⟨h.size,0,Te⟩ 0 [.bool aP,.bool aQ,.string aS,.string aT,.string aU]/\R (.tuple #[.agg #[.bool aP,.bool aQ,.string aS,.string aT,.string aU],.bool Tc]) aO))/\((!aH)=Tc->m aD aG)))->aC aD aE)->∃aV,zd aB (Ue ⟨h.size,0,Te⟩ 1)=Td (.bool aV)/\((!aV)=Ta->XC Tp 269 #[.string az,.string (⟨#[43]⟩:Bt)] aB (λaW aX=>∃aY,aW=.string aY/\aC aY aX))/\((!aV)=Tc->aC az aB))))/\(l=Tc->m k i))))):
  XC Tp 217 #[.string s0] h R:=
 XF ⟨[(14,8000)],[],[(9,[(4,.one (.str))]),(7,[(4,.one (.str))])]⟩ [.cell 2 221,.tmp 3] 69 Tryz.func217 H
theorem LB(s0:Bt)(h:zc)(R:Value->zc->Prop) (H:let a:=h.push (.cells #[.bool Tc,.string (⟨#[]⟩:Bt),iV 0] 110);XC Tp 160 #[.string s0] a (λb c=>∃d e f g,b=.tuple #[.agg #[.bool d,.string e,iV f],iV g]/\let i:=c.push (.cells #[.bool Tc,.string (⟨#[]⟩:Bt),iV 0] 110);XRunU Tp (Uj 110 (.pointer (Td ⟨c.size,0,Te⟩)) (.agg #[.bool d,.string e,iV f])) i (λj=>∃k l m,ze j ⟨c.size,0,Te⟩ 0 [.bool k,.string l,iV m]/\let n:Bool->zc->Prop:=λo (p:zc)=>(∃q r s,ze p ⟨h.size,0,Te⟩ 0 [.bool q,.string r,iV s]/\R (.tuple #[.agg #[.bool q,.string r,iV s],.bool o]) p);let t:Bool->zc->Prop:=λu (v:zc)=>(n (bif (g==0)then u else Tc) v);let w:Bt->zc->Prop:=λx (y:zc)=>(t (x.toList==s0.toList) y);let z:Bt->zc->Prop:=λA (B:zc)=>(((B)[(⟨c.size,0,Te⟩:Addr).block]?=(j)[(⟨c.size,0,Te⟩:Addr).block]?/\((B)[(⟨c.size,0,Te⟩:Addr).block]?=(j)[(⟨c.size,0,Te⟩:Addr).block]?/\XRunU Tp (Uj 110 (.pointer (Td ⟨h.size,0,Te⟩)) (.agg #[.bool k,.string l,iV m])) B (λC=>n (bif (g==0)then(A.toList==s0.toList)else Tc) C))/\(XRunU Tp (Uj 110 (.pointer (Td ⟨h.size,0,Te⟩)) (.agg #[.bool k,.string l,iV m])) B (λD=>t (A.toList==s0.toList) D)))/\(XRunU Tp (Uj 110 (.pointer (Td ⟨h.size,0,Te⟩)) (.agg #[.bool k,.string l,iV m])) B (λE=>w A E)));let F:Bool->Bt->Int->zc->Prop:=λG I J (L:zc)=>(∃M:Value->zc->Prop,((g==0)=Ta->XC Tp 92 #[.agg #[.bool G,.string I,iV J]] L (λN O=>∃P,N=.string P/\M (.string P) O))/\((g==0)=Tc->∃Q,M (.string Q) L)/\((g==0)=Ta->∀S T,M S T->∃U,S=.string U)/\∀V:Bt,∀W,M (.string V) W->(W)[(⟨c.size,0,Te⟩:Addr).block]?=(j)[(⟨c.size,0,Te⟩:Addr).block]?/\z V W);(∃X Y Z,((g==0)=Ta->ze j ⟨c.size,0,Te⟩ 0 [.bool X,.string Y,iV Z])/\(j)[(⟨c.size,0,Te⟩:Addr).block]?=(j)[(⟨c.size,0,Te⟩:Addr).block]?/\(∃aa:Value->zc->Prop,((g==0)=Ta->XC Tp 92 #[.agg #[.bool X,.string Y,iV Z]] j (λab ac=>∃ad,ab=.string ad/\aa (.string ad) ac))/\((g==0)=Tc->∃ae,aa (.string ae) j)/\((g==0)=Ta->∀af ag,aa af ag->∃ah,af=.string ah)/\∀ai:Bt,∀aj,aa (.string ai) aj->(aj)[(⟨c.size,0,Te⟩:Addr).block]?=(j)[(⟨c.size,0,Te⟩:Addr).block]?/\((aj)[(⟨c.size,0,Te⟩:Addr).block]?=(j)[(⟨c.size,0,Te⟩:Addr).block]?/\z ai aj)/\(XRunU Tp (Uj 110 (.pointer (Td ⟨h.size,0,Te⟩)) (.agg #[.bool k,.string l,iV m])) aj (λak=>w ai ak)))/\((j)[(⟨c.size,0,Te⟩:Addr).block]?=(j)[(⟨c.size,0,Te⟩:Addr).block]?/\F X Y Z j))/\((j)[(⟨c.size,0,Te⟩:Addr).block]?=(j)[(⟨c.size,0,Te⟩:Addr).block]?/\∃al am an,((g==0)=Ta->ze j ⟨c.size,0,Te⟩ 0 [.bool al,.string am,iV an])/\(j)[(⟨c.size,0,Te⟩:Addr).block]?=(j)[(⟨c.size,0,Te⟩:Addr).block]?/\F al am an j)))):
  XC Tp 148 #[.string s0] h R:=
 XF ⟨[(2,8000)],[],[]⟩ [.cell 2 110,.tmp 3] 20 Tryz.func148 H
theorem Ly(a:Bool)(b:Bt)(c:Int)(h:zc)(R:Value->zc->Prop) (H:let d:=h.push (.cells #[.bool a,.string b,iV c] 110);∃e f g,ze d ⟨h.size,0,Te⟩ 0 [.bool e,.string f,iV g]/\XC Tp 158 #[.agg #[.bool e,.string f,iV g]] d (λi j=>∃k,i=.bool k/\∃l,((!(!k))=Ta->zd j (Ue ⟨h.size,0,Te⟩ 2)=Td (iV l))/\∃m,((!(bif (!k)then Ta else(decide (l<0))))=Ta->zd j (Ue ⟨h.size,0,Te⟩ 1)=Td (.string m))/\∃n,((!(bif (!k)then Ta else(decide (l<0))))=Ta->zd j (Ue ⟨h.size,0,Te⟩ 2)=Td (iV n))/\((bif (bif (!k)then Ta else(decide (l<0)))then Ta else(decide ((Ud .i64 ((m.size:Int)+n))>19)))=Ta->R (.tuple #[iV 0,.bool Tc]) j)/\((bif (bif (!k)then Ta else(decide (l<0)))then Ta else(decide ((Ud .i64 ((m.size:Int)+n))>19)))=Tc->∃o,zd j (Ue ⟨h.size,0,Te⟩ 1)=Td (.string o)/\∃p,zd j (Ue ⟨h.size,0,Te⟩ 2)=Td (iV p)/\XC Tp 200 #[.string (⟨#[48]⟩:Bt),iV p] j (λq r=>∃s,q=.string s/\jh (o.size+s.size)/\(r)[((Ue ⟨h.size,0,Te⟩ 1):Addr).block]?=(j)[((Ue ⟨h.size,0,Te⟩ 1):Addr).block]?/\∀t:Bt->zc->Prop,(∀u:Bt,∀v:zc,(((u.toList==(⟨#[]⟩:Bt).toList)=Ta->R (.tuple #[iV 0,.bool Ta]) v)/\((u.toList==(⟨#[]⟩:Bt).toList)=Tc->XC Tp 262 #[.string u,iV 10,iV 64] v (λw x=>∃y,∃z:Value,w=.tuple #[iV y,z]/\m5 z=Ta/\((!nJ z)=Ta->R (.tuple #[iV 0,.bool Tc]) x)/\((!nJ z)=Tc->R (.tuple #[iV y,.bool Ta]) x))))->t u v)->∃A,zd r (Ue ⟨h.size,0,Te⟩ 0)=Td (.bool A)/\(A=Ta->jh (((⟨#[45]⟩:Bt)).size+(o++s).size)/\t ((⟨#[45]⟩:Bt)++(o++s)) r)/\(A=Tc->t (o++s) r))))):
  XC Tp 209 #[.agg #[.bool a,.string b,.int .i64 c]] h R:=
 XF ⟨[(3,8000)],[],[(6,[(4,.one (.str))])]⟩ [.tmp 2,.tmp 3] 44 Tryz.func209 H
end
end Go.X
end
section
namespace Go.X
open Go Go.RowKit
section
variable {h h':zc} {bs:List Nat} {v:Tr} {M:Fr} {b o n:Nat} {cs:Array Value} {vs:List Value}
def OKeys(h:zc)(ks:List Bt)(bs:List Nat)(s:Sl):Prop:=
 s.len=ks.length/\ks.length<=140737488355328/\ks.length<=s.cap/\((ks=[]/\bs=[]/\s.cap=0)\/∃b cs,bs=[b]/\s.a=Td ⟨b,0,Te⟩/\Blk h b cs/\s.cap<=cs.size/\cut cs 0 ks.length=ks.map UA)
inductive OT (h:zc):Tr->List Nat->List Value->Prop where
 |mk {k:Int} {s:Bt} {ks:List Bt} {xs:List Tr} {sk si:Sl} {bk bb:List Nat} {b:Nat} {cs:Array Value} {bf:Nat->List Nat}
  (hk:OKeys h ks bk sk) (hn:si.len=xs.length/\xs.length<=140737488355328/\xs.length<=si.cap)
  (hz:(xs=[]/\bb=[]/\si.cap=0)\/(bb=[b]/\si.a=Td ⟨b,0,Te⟩/\Blk h b cs/\si.cap*4<=cs.size))
  (hi:∀i (hx:i<xs.length),OT h xs[i] (bf i) (cut cs (i*4) 4))
  (hd:(bk++(bb++(UO xs.length).flatMap bf)).Nodup):
  OT h (.mk k s ks xs) (bk++(bb++(UO xs.length).flatMap bf)) [.int .i64 k,.string s,aK sk,aK si]
theorem OKeys.frame{ks:List Bt}{s:Sl}(H:OKeys h ks bs s)(c:∀b∈bs,h'[b]?=h[b]?):OKeys h' ks bs s:=by obtain⟨h1,i,k,j⟩:=H;refine⟨h1,i,k,j.imp id ?_⟩;rintro⟨b,cs,rfl,e,l,f⟩;exact⟨b,cs,rfl,e,l.keep (c b (by simp)),f⟩
theorem OT.frame{cells:List Value}(H:OT h v bs cells):(∀b∈bs,h'[b]?=h[b]?)->OT h' v bs cells:=by
 induction H with
 | @mk k s ks xs sk si bk bb b cs bf hk hn hz hi hd ih=>intro f;refine OT.mk (b:=b) (cs:=cs) (hk.frame λx c=>f x (by simp[c])) hn (hz.imp id ?_) (λi c=>ih i c λx e=>f x ?_) hd;rintro⟨rfl,j,m,l⟩;exact⟨rfl,j,m.keep (f b (by simp)),l⟩;simp only[Uo,Vy,UT];exact .inr (.inr ⟨i,c,e⟩)
theorem OT.nodup{cells:List Value}(H:OT h v bs cells):bs.Nodup:=by cases H with|mk _ _ _ _ b=>exact b
theorem OT.lt{cells:List Value}(H:OT h v bs cells):∀b∈bs,b<h.size:=by
 induction H with
 | @mk k s ks xs sk si bk bb b cs bf hk hn hz hi hd ih=>intro x c;simp only[Uo,Vy,UT]at c;rcases c with c|c|⟨i,h1,f⟩;obtain⟨_,_,_,j⟩:=hk;rcases j with⟨_,rfl,_⟩|⟨b',cs',rfl,_,e,_⟩;cases c;simp at c;subst c;exact e.lt;rcases hz with⟨_,rfl,_⟩|⟨rfl,_,e,_⟩;cases c;simp at c;subst c;exact e.lt;exact ih i h1 x f
theorem OT.rd{cells:List Value}(H:OT h v bs cells)(m:∀b∈bs,∀cs,Blk h b cs->M b=Td cs):TrRd M v cells:=by
 induction H with
 | @mk k s ks xs sk si bk bb b cs bf hk hn hz hi hd ih=>
  obtain⟨r,k2,t,w⟩:=hk;have n:RowAt M (λs cs=>cs=[.string s]) 1 ks (aK sk):=by
   refine⟨sk.a,sk.cap,by rw[aK,r],⟨k2,t⟩,?_⟩;rcases w with⟨h0,_⟩|⟨b',cs',rfl,p,q,_,u⟩;exact .inl h0;refine .inr ⟨b',0,cs',p,m b' (by simp) cs' q,λi f=>?_⟩;have:(cut cs' 0 ks.length)[i]?=Td (UA ks[i]):=by rw[u,Vk,Ul f];rfl
   unfold cut at this ⊢;rw[UU,zA f,WH]at this;have c:=(UV.1 this).1;rw[Uy,U4,U6 c,WO,List.take_zero];rw[Ul c]at this;rw[UQ this]
  have l:aK si=.slice si.a xs.length si.cap:=by rw[aK,hn.1]
  rw[l];refine TrRd.mk (b:=b) (o:=0) (cs:=cs) n hn.2 (hz.imp (·.1) ?_) λi f=>?_;rintro⟨rfl,p,q,_⟩;exact⟨p,m b (by simp) cs q⟩;rw[Uy];exact ih i f λx j cs' e=>m x (by simp only[Uo,Vy,UT];exact .inr (.inr ⟨i,f,j⟩)) cs' e
def MxL(M:Fr)(h:zc)(bs:List Nat):Fr:=λi=>if i∈bs then(match h[i]? with
 |some (.cells cs _ _)=>Td cs
 |_=>Te)else M i
theorem MxL.ag{M:Fr}{h:zc}(ag:AgM M h)(bs:List Nat):AgM (MxL M h bs) h:=by intro b c e;unfold MxL at e;split at e;split at e;rename_i cs T m f;cases e;exact⟨T,m,f⟩;cases e;exact ag b c e
theorem MxL.later{h0 h:zc}(ag:AgM M h0)(k:Keep h0.size h0 h)(hb:∀b∈bs,h0.size<=b):Later h0 M h (MxL M h bs) where
 keep:=k
 le:=λb c e=>by have:=ag.lt e;unfold MxL;rw[zv (λhm=>by have:=hb b hm;omega)];exact e
 old:=λb hlt=>by unfold MxL;rw[zv (λhm=>by have:=hb b hm;omega)]
 ag:=MxL.ag (ag.keep k) bs
theorem MxL.at(c:b∈bs)(e:Blk h b cs):MxL M h bs b=Td cs:=by obtain⟨T,e⟩:=e;unfold MxL;rw[zA c,e]
theorem OT.rdv{cells:List Value}(H:OT h v bs cells):RdV (MxL M h bs) .tree v (.agg cells.toArray):=by unfold RdV;simp only[Wo,if_true];exact⟨cells,rfl,H.rd λb c cs e=>MxL.at c e⟩
def iF(cs:Array Value)(o:Nat)(vs:List Value):Array Value:=(cs.toList.take o++vs++cs.toList.drop (o+vs.length)).toArray
theorem CN(h:o+vs.length<=cs.size):(iF cs o vs).size=cs.size:=by unfold iF;simp;omega
theorem yI(h:o+vs.length<=cs.size)(q:Nat):(iF cs o vs).toList[q]?=if q<o then cs.toList[q]? else if q<o+vs.length then vs[q-o]? else cs.toList[q]?:=by unfold iF;exact Z1 (by simpa using h) q
theorem qi{o n i:Nat}:(cut cs o n)[i]?=if i<n then cs.toList[o+i]? else Te:=by unfold cut;rw[UU];split;rw[Vd];rfl
theorem IQ(h:o+vs.length<=cs.size):cut (iF cs o vs) o vs.length=vs:=by apply U1;intro i;rw[qi];split;rw[yI h,zv (by omega),zA (by omega)];congr 1;omega;rw[U5 (by omega)]
theorem FX{o p n:Nat}(h:o+vs.length<=cs.size)(b:p+n<=o\/o+vs.length<=p):cut (iF cs o vs) p n=cut cs p n:=by apply U1;intro i;rw[qi,qi];split;rw[yI h];split;rfl;rw[zv (by omega)];rfl
theorem Wu{P:Program}{t:TypeId}(hi:qo P t=Ta)(H:Blk h b cs){v:Value}(c:v.cells.toList=vs)(m:je P t=vs.length)(k:o+vs.length<=cs.size)(h1:∀u∈vs,u.oneCell'=Ta){K:zc->Prop}
  (q:∀h':zc,Blk h' b (iF cs o vs)->h'.size=h.size->(∀j,j≠b->h'[j]?=h[j]?)->K h'):XRunU P (Uj t (.pointer (Td ⟨b,o,Te⟩)) v) h K:=by
 intro B d;obtain⟨T,e⟩:=H;have f:v.cells.size=vs.length:=by rw[<-c];simp
 obtain⟨h',l,n,i,p⟩:=Qc (P:=P) hi m e f k (by rw[c];exact h1) B d;refine⟨d,h',l,q h' ⟨T,?_⟩ i p⟩;rw[n];unfold iF;rw[c]
theorem Blk.ofKeep(H:Blk h b cs)(k:Keep h.size h h'):Blk h' b cs:=H.keepN k H.lt
theorem oI(ag:AgM M h)(bs:List Nat):Fr.le M (MxL M h bs):=by intro b c e;unfold MxL;split;obtain⟨T,m,f⟩:=ag b c e;rw[f];exact e
end
end Go.X
end
section
namespace Go.X
open Go Go.X Go.Proofs Go.Lib
section
variable {cs:Array Value} {M Mg:Fr} {v:Value} {g h g':zc}
theorem AU{vs:List Value}(h:cs.size=vs.length):iF cs 0 vs=vs.toArray:=by unfold iF;simp_all
theorem Db{n:Bool×Bt×Int}{u:Value}(h:RdV M (.pair .bool (.pair .str (.int .i64))) n u):u=.agg #[.bool n.1,.string n.2.1,.int .i64 n.2.2]:=by
 unfold RdV at h;simp only[Wo,if_true]at h;obtain⟨cs,e,c1,c2,rfl,h1,f,i,rfl,b,c⟩:=h;have h1:c1=[.bool n.1]:=by simpa[Rd]using h1
 have b:f=[.string n.2.1]:=by simpa[Rd]using b
 have c:i=[.int .i64 n.2.2]:=by simpa[Rd]using c
 simp_all
theorem zN(a:Bool)(s:Bt)(i:Int):RdV M (.pair .bool (.pair .str (.int .i64))) (a,s,i) (.agg #[.bool a,.string s,.int .i64 i]):=by unfold RdV;simp only[Wo,if_true];exact⟨[.bool a,.string s,.int .i64 i],rfl,[_],[_,_],rfl,rfl,[_],[_],rfl,rfl,rfl⟩
theorem sF(n:Int)(b:Bool):Q5 M [.int .i64,.bool] (n,b) (.tuple #[.int .i64 n,.bool b]):=⟨[_,_],⟨_,_,rfl,Yn .i64 n,_,rfl,rdBool _⟩,rfl⟩
theorem IN{r:Int×Bool}(h:Q5 M [.int .i64,.err] r v):∃e:Value,v=.tuple #[.int .i64 r.1,e]/\m5 e=Ta/\nJ e=r.2:=by
 obtain⟨us,⟨m,l,rfl,f,i,rfl,b⟩,rfl⟩:=h;rw[Jd rfl]at f b;have j:m=.int .i64 r.1:=by simpa[Rd]using f
 subst j;have b:∃v,[i]=[v]/\((r.2=Ta/\v=.nilIface)\/(r.2=Tc/\∃t u,v=.iface t u)):=b;obtain⟨v,c,k⟩:=b;have c:i=v:=by simpa using c
 subst c;rcases k with⟨e,rfl⟩|⟨e,t,u,rfl⟩;exact⟨_,rfl,rfl,e.symm⟩;exact⟨_,rfl,rfl,e.symm⟩
theorem Pw(gl:Fr)(n0:Bool×Bt×Int)(R:(Int×Bool)->Prop) (H:PC Tp gl 158 [Arg.mk (.pair .bool (.pair .str (.int .i64))) (n0.1,(n0.2.1,n0.2.2))] [.bool] (λB:Bool=>((bif (bif (!B)then Ta else(decide ((n0.2.2:Int)<0)))then Ta else(decide ((Ud .i64 (((n0.2.1).size:Int)+n0.2.2):Int)>19)))=Ta->R (0,Tc)) /\ ((bif (bif (!B)then Ta else(decide ((n0.2.2:Int)<0)))then Ta else(decide ((Ud .i64 (((n0.2.1).size:Int)+n0.2.2):Int)>19)))=Tc->PC Tp gl 200 [Arg.mk .str (⟨#[48]⟩:Bt),Arg.mk (.int .i64) n0.2.2] [.str] (λi:Bt=>jh ((n0.2.1).size+(i).size) /\ ∀l:Bt->Prop,(∀f:Bt,((((f:Bt).toList==((⟨#[]⟩:Bt):Bt).toList)=Ta->R (0,Ta)) /\ (((f:Bt).toList==((⟨#[]⟩:Bt):Bt).toList)=Tc->PC Tp gl 262 [Arg.mk .str f,Arg.mk (.int .i64) 10,Arg.mk (.int .i64) 64] [.int .i64,.err] (λj:Int×Bool=>((!j.2)=Ta->R (0,Tc)) /\ ((!j.2)=Tc->R (j.1,Ta)))))->l f)->(n0.1=Ta->jh (((⟨#[45]⟩:Bt)).size+(n0.2.1++i).size) /\ l ((⟨#[45]⟩:Bt)++(n0.2.1++i))) /\ (n0.1=Tc->l (n0.2.1++i)))))):
    PC Tp gl 209 [Arg.mk (.pair .bool (.pair .str (.int .i64))) n0] [.int .i64,.bool] R:=by
  intro h M vs E ag ha
  match vs,ha with
  |[u],⟨J,_⟩=>
  have J:RdV M (.pair .bool (.pair .str (.int .i64))) n0 u:=J;rw[Db J];apply PX.of;apply Ly n0.1 n0.2.1 n0.2.2;intro h1;have Q:Keep h.size h h1:=Keep.push _ _ (Uf _);have b1:Blk h1 h.size #[.bool n0.1,.string n0.2.1,.int .i64 n0.2.2]:=Blk.new _ _ _;clear_value h1;refine⟨_,_,_,b1.ld (cs:=[.bool n0.1,.string n0.2.1,.int .i64 n0.2.2]),?_⟩;refine H.go (vs:=[.agg #[.bool n0.1,.string n0.2.1,.int .i64 n0.2.2]]) E (ag.keep Q) (zn (a:=Arg.mk (.pair .bool (.pair .str (.int .i64))) (n0.1,(n0.2.1,n0.2.2))) (zN _ _ _) qg) λw h6 S r p b hr=>?_;obtain⟨N,D⟩:=hr;have n:=b1.ofKeep p.keep;have C:Later h M h6 S:=(Later.same ag Q).trans p;refine⟨r,Ju b,n0.2.2,λ_=>n.cellAdd (o:=0) (k:=2) rfl,n0.2.1,λ_=>n.cellAdd (o:=0) (k:=1) rfl,n0.2.2,λ_=>n.cellAdd (o:=0) (k:=2) rfl,λL=>⟨S,(0,Tc),C,sF _ _,N L⟩,λL=>?_⟩;refine⟨_,n.cellAdd (o:=0) (k:=1) rfl,_,n.cellAdd (o:=0) (k:=2) rfl,?_⟩;refine(D L).go (vs:=[.string ⟨#[48]⟩,.int .i64 n0.2.2]) (E.trans p.le) p.ag (zn (a:=Arg.mk .str (⟨#[48]⟩:Bt)) (rdStr _) (zn (a:=Arg.mk (.int .i64) n0.2.2) (Yn _ _) qg)) λw y O r2 m b P=>?_;obtain⟨hf,V⟩:=P;refine⟨r2,kL b,hf,m.keep.get _ n.lt,?_⟩;intro G z;have c:=C.trans m;obtain⟨I,F⟩:=V (λs=>G s y) λs ⟨a1,a2⟩=>z s y ⟨λe=>⟨O,(0,Ta),c,sF _ _,a1 e⟩,λe=>by refine(a2 e).go (vs:=[.string s,.int .i64 10,.int .i64 64]) (E.trans c.le) c.ag (zn (a:=Arg.mk .str s) (rdStr _) (zn (a:=Arg.mk (.int .i64) 10) (Yn _ _) (zn (a:=Arg.mk (.int .i64) 64) (Yn _ _) qg))) λw Z A Y q b t=>?_;obtain⟨T,rfl,hi,hn⟩:=IN b;refine⟨_,T,rfl,hi,λU=>⟨A,(0,Tc),c.trans q,sF _ _,t.1 (by grind)⟩,λU=>⟨A,(Y.1,Ta),c.trans q,sF _ _,t.2 (by grind)⟩⟩⟩;exact⟨n0.1,((b1.ofKeep p.keep).ofKeep m.keep).cellAdd (o:=0) (k:=0) rfl,I,F⟩
theorem RL{r:(Bool×Bt×Int)×Int}(h:Q5 M [.pair .bool (.pair .str (.int .i64)),.int .i64] r v):v=.tuple #[.agg #[.bool r.1.1,.string r.1.2.1,.int .i64 r.1.2.2],.int .i64 r.2]:=by
 obtain⟨us,⟨j,f,rfl,e,c,rfl,b⟩,rfl⟩:=h;rw[Db e];rw[Jd rfl]at b;have i:c=.int .i64 r.2:=by simpa[Rd]using b
 rw[i];rfl
theorem Mq(a:Bool)(s:Bt)(i:Int)(b:Bool):Q5 M [.pair .bool (.pair .str (.int .i64)),.bool] ((a,s,i),b) (.tuple #[.agg #[.bool a,.string s,.int .i64 i],.bool b]):=⟨[_,_],⟨_,_,rfl,zN a s i,_,rfl,rdBool _⟩,rfl⟩
theorem FZ{b:Nat}(B:Blk g b cs)(m:cs.size=3){x:Bool}{s:Bt}{i:Int}{t:TypeId}(e:qo Tp t=Ta)(hz:je Tp t=3){K:zc->Prop}(f:∀g',(∀j,j≠b->g'[j]?=g[j]?)->g'.size=g.size->Blk g' b #[.bool x,.string s,.int .i64 i]->K g'):
  XRunU Tp (Uj t (.pointer (Td ⟨b,0,Te⟩)) (.agg #[.bool x,.string s,.int .i64 i])) g K:=by
 refine Wu (vs:=[.bool x,.string s,.int .i64 i]) e B rfl hz (by simp_all) (λu c=>?_) λg' l k h=>f g' h k (by simp_all[AU]);simp at c;rcases c with rfl|rfl|rfl <;> rfl
set_option maxHeartbeats 1000000 in
theorem Ni(gl:Fr)(n:Bt)(R:((Bool×Bt×Int)×Bool)->Prop) (H:PC Tp gl 160 [Arg.mk .str n] [.pair .bool (.pair .str (.int .i64)),.int .i64] (λb:(Bool×Bt×Int)×Int=>∃D:Bt->Prop,(((b.2:Int)==0)=Ta->PC Tp gl 92 [Arg.mk (.pair .bool (.pair .str (.int .i64))) (b.1.1,(b.1.2.1,b.1.2.2))] [.str] D) /\ ∀E:Bt,(((b.2:Int)==0)=Ta->D E)->R ((b.1.1,(b.1.2.1,b.1.2.2)),bif ((b.2:Int)==0)then((E:Bt).toList==(n:Bt).toList)else Tc))):
    PC Tp gl 148 [Arg.mk .str n] [.pair .bool (.pair .str (.int .i64)),.bool] R:=by
  intro h M vs hM ag ha
  match vs,ha with
  |[u],⟨P,_⟩=>
  have P:RdV M .str n u:=P;rw[w7 P];apply PX.of;apply LB n;intro h1;have k1:Keep h.size h h1:=Keep.push _ _ (Uf _);have z1:h1.size=h.size+1:=Uh _;have b1:Blk h1 h.size #[.bool Tc,.string ⟨#[]⟩,.int .i64 0]:=Blk.new _ _ _;clear_value h1;have L1:Later h M h1 M:=Later.same ag k1;refine H.go (vs:=[.string n]) hM L1.ag (zn (a:=Arg.mk .str n) (rdStr _) qg) λw q V r A l hr=>?_;obtain⟨N,hJ,hR⟩:=hr;rw[RL l];refine⟨_,_,_,_,rfl,?_⟩;have z3:=A.keep.size;refine FZ (cs:=#[.bool Tc,.string ⟨#[]⟩,.int .i64 0]) (Blk.new _ _ _) rfl (by kernel_rfl) (by kernel_rfl) λp f9 z9 G=>?_;rw[Uh]at z9;have k9:Keep q.size q p:=⟨by omega,λj S=>(f9 j (by omega)).trans ((Keep.push q _ (Uf _)).get j S)⟩;have I:Later h M p V:=(L1.trans A).trans (Later.same A.ag k9);have C:V h.size=Te:=by
    rw[A.old h.size (by omega)];cases e:M h.size with
    |none=>rfl
    |some c=>have:=ag.lt e;omega
  have Y:Blk p h.size #[.bool Tc,.string ⟨#[]⟩,.int .i64 0]:=(b1.ofKeep A.keep).ofKeep k9;refine⟨r.1.1,r.1.2.1,r.1.2.2,G.ld (cs:=[.bool r.1.1,.string r.1.2.1,.int .i64 r.1.2.2]),?_⟩;intro Z ac aa O U;have fin:∀(g:zc) (Mg:Fr) (x:Bt),Later h M g Mg->Mg h.size=Te->(∃cs,Blk g h.size cs/\cs.size=3)->(((r.2:Int)==0)=Ta->N x) ->
      XRunU Tp (Uj 110 (.pointer (Td ⟨Uw h,0,Te⟩)) (.agg #[.bool r.1.1,.string r.1.2.1,.int .i64 r.1.2.2])) g (λg'=>Z (bif ((r.2:Int)==0)then((x:Bt).toList==(n:Bt).toList)else Tc) g'):=λg Mg x L o ⟨cs,B,hc⟩ k=>
    FZ B hc (by kernel_rfl) (by kernel_rfl) λg' f z B'=>⟨_,_,_,B'.ld (cs:=[.bool r.1.1,.string r.1.2.1,.int .i64 r.1.2.2]),Mg,((r.1.1,(r.1.2.1,r.1.2.2)),_),⟨⟨by have:=L.keep.size;omega,λj S=>(f j (by omega)).trans (L.keep.get j S)⟩,L.le,L.old,λc cc e=>by obtain⟨T,m,e2⟩:=L.ag c cc e;grind⟩,Mq _ _ _ _,hR x k⟩
  have Q:∀(g:zc) (Mg:Fr) (x:Bt),Later h M g Mg->Mg h.size=Te->(∃cs,Blk g h.size cs/\cs.size=3)->(((r.2:Int)==0)=Ta->N x)->g[q.size]?=p[q.size]?->O x g:=λg Mg x L o B k t=>⟨⟨t,⟨t,fin g Mg x L o B k⟩,fin g Mg x L o B k⟩,fin g Mg x L o B k⟩;let F:Value->zc->Prop:=λv g=>∃x:Bt,v=.string x/\(∃Mg,Later h M g Mg/\Mg h.size=Te/\(∃cs,Blk g h.size cs/\cs.size=3)/\g[q.size]?=p[q.size]?)/\(((r.2:Int)==0)=Ta->N x);have call:((r.2:Int)==0)=Ta->XC Tp 92 #[.agg #[.bool r.1.1,.string r.1.2.1,.int .i64 r.1.2.2]] p (λv g=>∃x:Bt,v=.string x/\F (.string x) g):=λe=>
    (hJ e).go (vs:=[.agg #[.bool r.1.1,.string r.1.2.1,.int .i64 r.1.2.2]]) (hM.trans I.le) I.ag (zn (a:=Arg.mk (.pair .bool (.pair .str (.int .i64))) (r.1.1,(r.1.2.1,r.1.2.2))) (zN _ _ _) qg) λw g Mg x J l k=>
      ⟨x,kL l,x,rfl,⟨Mg,I.trans J,by rw[J.old h.size Y.lt];exact C,⟨_,Y.ofKeep J.keep,rfl⟩,J.keep.get _ G.lt⟩,λ_=>k⟩
  have i:((r.2:Int)==0)=Tc->∃x:Bt,F (.string x) p:=λe=>⟨⟨#[]⟩,⟨#[]⟩,rfl,⟨V,I,C,⟨_,Y,rfl⟩,rfl⟩,λe'=>by simp_all⟩;have y:U r.1.1 r.1.2.1 r.1.2.2 p:=⟨F,call,i,λ_ v g ⟨x,e,_⟩=>⟨x,e⟩,λx g ⟨x',e,⟨Mg,L,o,B,t⟩,k⟩=>by injection e with e;subst e;grind⟩;refine⟨⟨_,_,_,λ_=>G.ld (cs:=[.bool r.1.1,.string r.1.2.1,.int .i64 r.1.2.2]),rfl,⟨F,call,i,λ_ v g ⟨x,e,_⟩=>⟨x,e⟩,λx g ⟨x',e,⟨Mg,L,o,B,t⟩,k⟩=>?_⟩,rfl,y⟩,rfl,_,_,_,λ_=>G.ld (cs:=[.bool r.1.1,.string r.1.2.1,.int .i64 r.1.2.2]),rfl,y⟩;injection e with e;subst e;exact⟨t,⟨t,Q g Mg x L o B k t⟩,fin g Mg x L o B k⟩
theorem Hi{r:Bt×Bool}(h:Q5 M [.str,.bool] r v):v=.tuple #[.string r.1,.bool r.2]:=by
 obtain⟨us,⟨j,f,rfl,e,c,rfl,b⟩,rfl⟩:=h;rw[w7 e];rw[Jd rfl]at b;have i:c=.bool r.2:=by simpa[Rd]using b
 rw[i];rfl
theorem Gw{r:Bt×Bt×Bool}(h:Q5 M [.str,.str,.bool] r v):v=.tuple #[.string r.1,.string r.2.1,.bool r.2.2]:=by
 obtain⟨us,⟨l,j,rfl,i,m,e,rfl,c,k,rfl,b⟩,rfl⟩:=h;rw[w7 i,w7 c];rw[Jd rfl]at b;have f:k=.bool r.2.2:=by simpa[Rd]using b
 rw[f];rfl
abbrev N5:=Bool×Bool×Bt×Bt×Bt
def vS(g:zc)(b:Nat)(n:N5):Prop:=Blk g b #[.bool n.1,.bool n.2.1,.string n.2.2.1,.string n.2.2.2.1,.string n.2.2.2.2]
structure St5 (h:zc) (M:Fr) (g:zc) (Mg:Fr) (n:N5):Prop where
 L:Later h M g Mg
 no:Mg h.size=Te
 B:vS g h.size n
theorem St5.call{M Mg b:Fr}{n:N5}(S:St5 h M g Mg n)(L:Later g Mg g' b):St5 h M g' b n:=⟨S.L.trans L,by rw[L.old h.size (Blk.lt S.B)];exact S.no,Blk.ofKeep S.B L.keep⟩
theorem St5.put{n b:N5}(S:St5 h M g Mg n)(f:∀j,j≠h.size->g'[j]?=g[j]?)(z:g'.size=g.size)(B:vS g' h.size b):St5 h M g' Mg b:= ⟨⟨⟨by have:=S.L.keep.size;omega,λj i=>(f j (by omega)).trans (S.L.keep.get j i)⟩,S.L.le,S.L.old,λc k e=>by obtain⟨T,m,l⟩:=S.L.ag c k e;grind [no]⟩,S.no,B⟩
theorem KV(n:N5)(b:Bool):Q5 M [.pair .bool (.pair .bool (.pair .str (.pair .str .str))),.bool] (n,b) (.tuple #[.agg #[.bool n.1,.bool n.2.1,.string n.2.2.1,.string n.2.2.2.1,.string n.2.2.2.2],.bool b]):=by refine⟨[_,_],⟨_,_,rfl,?_,_,rfl,rdBool _⟩,rfl⟩;unfold RdV;simp only[Wo,if_true];exact⟨[_,_,_,_,_],rfl,[_],[_,_,_,_],rfl,rfl,[_],[_,_,_],rfl,rfl,[_],[_,_],rfl,rfl,[_],[_],rfl,rfl,rfl⟩
set_option maxHeartbeats 1000000 in
theorem RQ(gl:Fr)(s0:Bt)(R:((Bool×Bool×Bt×Bt×Bt)×Bool)->Prop) (H:PC Tp gl 267 [Arg.mk .str s0,Arg.mk .str (⟨#[45]⟩:Bt)] [.str,.bool] (λY:Bt×Bool=>PC Tp gl 268 [Arg.mk .str Y.1,Arg.mk .str (⟨#[101,69]⟩:Bt)] [.str,.str,.bool] (λV:Bt×Bt×Bool=>∀az:Bt->Bool->Bool->Bt->Bt->Bt->Prop,(∀t:Bt,∀E:Bool,∀D:Bool,∀ar:Bt,∀au:Bt,∀aA:Bt,(PC Tp gl 268 [Arg.mk .str V.1,Arg.mk .str (⟨#[46]⟩:Bt)] [.str,.str,.bool] (λj:Bt×Bt×Bool=>PC Tp gl 215 [Arg.mk .str j.1] [.bool] (λN:Bool=>∃aj:Bool->Prop,(((!(!N))&&j.2.2)=Ta->PC Tp gl 215 [Arg.mk .str j.2.1] [.bool] aj)/\∀T:Bool,(((!(!N))&&j.2.2)=Ta->aj T)->((bif (!N)then Ta else(bif j.2.2 then(!T)else Tc))=Ta->R ((E,(D,(j.1,(j.2.1,t)))),Tc))/\((bif (!N)then Ta else(bif j.2.2 then(!T)else Tc))=Tc->((!((j.1:Bt).toList==((⟨#[48]⟩:Bt):Bt).toList))=Ta->(0<=(0:Int)/\(0:Int)<((j.1).size:Int)))/\R ((E,(D,(j.1,(j.2.1,t)))),bif ((j.1:Bt).toList==((⟨#[48]⟩:Bt):Bt).toList)then Ta else((y8 j.1 (0:Int).toNat:Int) != 48))))))->az t E D ar au aA)->(V.2.2=Ta->PC Tp gl 267 [Arg.mk .str V.2.1,Arg.mk .str (⟨#[45]⟩:Bt)] [.str,.bool] (λm:Bt×Bool=>∀U:Bt->Bool->Bool->Bt->Bt->Bt->Prop,(∀l:Bt,∀y:Bool,∀A:Bool,∀p:Bt,∀z:Bt,∀C:Bt,(PC Tp gl 215 [Arg.mk .str l] [.bool] (λae:Bool=>((!ae)=Ta->R ((y,(A,(p,(z,C)))),Tc))/\((!ae)=Tc->az l y A p z C)))->U l y A p z C)->((!m.2)=Ta->PC Tp gl 269 [Arg.mk .str m.1,Arg.mk .str (⟨#[43]⟩:Bt)] [.str] (λaJ:Bt=>U aJ Y.2 m.2 (⟨#[]⟩:Bt) (⟨#[]⟩:Bt) (⟨#[]⟩:Bt)))/\((!m.2)=Tc->U m.1 Y.2 m.2 (⟨#[]⟩:Bt) (⟨#[]⟩:Bt) (⟨#[]⟩:Bt))))/\(V.2.2=Tc->az V.2.1 Y.2 Tc (⟨#[]⟩:Bt) (⟨#[]⟩:Bt) (⟨#[]⟩:Bt))))):
  PC Tp gl 217 [Arg.mk .str s0] [.pair .bool (.pair .bool (.pair .str (.pair .str .str))),.bool] R:=by
 intro h M vs hM ag ha
 match vs,ha with
 |[u],⟨hu,_⟩=>
 have hu:RdV M .str s0 u:=hu;rw[w7 hu];apply PX.of;apply Tq s0;intro h1;have k1:Keep h.size h h1:=Keep.push _ _ (Uf _);have b1:vS h1 h.size (Tc,Tc,⟨#[]⟩,⟨#[]⟩,⟨#[]⟩):=Blk.new _ _ _;have L1:Later h M h1 M:=Later.same ag k1;have bH:M h.size=Te:=by
  cases e:M h.size with
  |none=>rfl
  |some c=>have:=ag.lt e;omega
 clear_value h1;have s1:St5 h M h1 M (Tc,Tc,⟨#[]⟩,⟨#[]⟩,⟨#[]⟩):=⟨L1,bH,b1⟩;refine H.go (vs:=[.string s0,.string ⟨#[45]⟩]) hM L1.ag (zn (a:=Arg.mk .str s0) (rdStr _) (zn (a:=Arg.mk .str (⟨#[45]⟩:Bt)) (rdStr _) qg)) λw h3 M3 r1 L3 i H2=>?_;rw[Hi i];refine⟨_,_,rfl,?_⟩;have S3:=s1.call L3;have fin:∀(g:zc) (Mg:Fr) (n:N5) (b:Bool),St5 h M g Mg n->R (n,b)->XRunU Tp (Uj 221 (.pointer (Td ⟨Uw h,0,Te⟩)) (.agg #[.bool n.1,.bool n.2.1,.string n.2.2.1,.string n.2.2.2.1,.string n.2.2.2.2])) g (λak=>∃ai:Bool,∃af:Bool,∃am:Bt,∃al:Bt,∃ah:Bt,ze ak ⟨Uw h,0,Te⟩ 0 [.bool ai,.bool af,.string am,.string al,.string ah]/\∃(M':Fr) (r:hG [.pair .bool (.pair .bool (.pair .str (.pair .str .str))),.bool]),Later h M ak M'/\Q5 M' [.pair .bool (.pair .bool (.pair .str (.pair .str .str))),.bool] r (.tuple #[.agg #[.bool ai,.bool af,.string am,.string al,.string ah],.bool b])/\R r):=λg Mg n b S hR=>
  Wu (o:=0) (vs:=[.bool n.1,.bool n.2.1,.string n.2.2.1,.string n.2.2.2.1,.string n.2.2.2.2]) (by kernel_rfl) S.B rfl (by kernel_rfl) (Uf _) (λu hu=>by simp at hu;rcases hu with rfl|rfl|rfl|rfl|rfl <;> rfl) λg' q1 q2 q3=>
   have S':St5 h M g' Mg n:=S.put q3 q2 (by rw[AU (by rfl)]at q1;exact q1)
   ⟨_,_,_,_,_,Blk.ld (cs:=[.bool n.1,.bool n.2.1,.string n.2.2.1,.string n.2.2.2.1,.string n.2.2.2.2]) S'.B,Mg,(n,b),S'.L,KV n b,hR⟩
 rw[show Ue ⟨Uw h,0,Te⟩ 0=⟨h.size,0,Te⟩from rfl];refine jo (by kernel_rfl) (by kernel_rfl) S3.B (o:=0) (by simp) rfl λh6 B6 z6 f6=>?_;have S6:St5 h M h6 M3 (r1.2,Tc,⟨#[]⟩,⟨#[]⟩,⟨#[]⟩):=S3.put f6 z6 B6;refine H2.go (vs:=[.string r1.1,.string ⟨#[101,69]⟩]) (hM.trans L3.le) S6.L.ag (zn (a:=Arg.mk .str r1.1) (rdStr _) (zn (a:=Arg.mk .str (⟨#[101,69]⟩:Bt)) (rdStr _) qg)) λw h8 M8 r2 L8 i H3=>?_;rw[Gw i];refine⟨_,_,_,rfl,?_⟩;have S8:=S6.call L8;intro bj aN;have aT:Fr.le gl M8:=hM.trans S8.L.le;have O:∀{g:zc} {Mg:Fr} {n:N5},St5 h M g Mg n->Fr.le gl Mg:=λS=>hM.trans S.L.le;have aS:∀{Mg:Fr} (s:Bt),RdV Mg .str s (.string s):=λs=>rdStr s;obtain⟨c1,c2⟩:=H3 (λf G I x2 x3 x4=>∀g Mg,St5 h M g Mg (G,I,x2,x3,x4)->bj f g) λf G I x2 x3 x4 P g Mg S=>aN f g (by rw[show Ue ⟨Uw h,0,Te⟩ 4=⟨h.size,4,Te⟩from rfl];refine jo (by kernel_rfl) (by kernel_rfl) S.B (o:=4) (by simp) rfl λaP bJ bC aU=>?_;have an:St5 h M aP Mg (G,I,x2,x3,f):=S.put aU bC bJ;refine P.go (vs:=[.string r2.1,.string ⟨#[46]⟩]) (O an) an.L.ag (zn (a:=Arg.mk .str r2.1) (rdStr _) (zn (a:=Arg.mk .str (⟨#[46]⟩:Bt)) (rdStr _) qg)) λw bT aF k bm i P2=>?_;rw[Gw i];refine⟨_,_,_,rfl,?_⟩;have aM:=an.call bm;rw[show Ue ⟨Uw h,0,Te⟩ 2=⟨h.size,2,Te⟩from rfl,show Ue ⟨Uw h,0,Te⟩ 3=⟨h.size,3,Te⟩from rfl];refine jo (by kernel_rfl) (by kernel_rfl) aM.B (o:=2) (by simp) rfl λa6 aV bw aO=>?_;have aD:St5 h M a6 aF (G,I,k.1,x3,f):=aM.put aO bw aV;refine jo (by kernel_rfl) (by kernel_rfl) aD.B (o:=3) (by simp) rfl λbI aQ aY bD=>?_;have ax:St5 h M bI aF (G,I,k.1,k.2.1,f):=aD.put bD aY aQ;refine P2.go (vs:=[.string k.1]) (O ax) ax.L.ag (zn (a:=Arg.mk .str k.1) (rdStr _) qg) λw bM a7 aC ba i P3=>?_;obtain⟨bE,hJ,hE⟩:=P3;have Z:=ax.call ba;refine⟨aC,Ju i,λv g'=>∃b,v=.bool b/\(∃ac,St5 h M g' ac (G,I,k.1,k.2.1,f))/\(((!(!aC))&&k.2.2)=Ta->bE b),λJ=>(hJ J).go (vs:=[.string k.2.1]) (O Z) Z.L.ag (zn (a:=Arg.mk .str k.2.1) (rdStr _) qg) λw bO bg b a8 i hb=>⟨b,Ju i,b,rfl,⟨bg,Z.call a8⟩,λ_=>hb⟩,λJ=>⟨Tc,Tc,rfl,⟨a7,Z⟩,λe=>by rw[J]at e;exact nomatch e⟩,λ_ v g' ⟨b,e,_⟩=>⟨b,e⟩,λb g' ⟨b',e,⟨ac,S'⟩,hb⟩=>?_⟩;injection e with e;subst e;obtain⟨e1,e2⟩:=hE b hb;refine⟨λJ=>⟨_,_,_,_,_,Blk.ld (cs:=[.bool G,.bool I,.string k.1,.string k.2.1,.string f]) S'.B,fin g' ac (G,I,k.1,k.2.1,f) Tc S' (e1 J)⟩,λJ=>?_⟩;obtain⟨e3,e4⟩:=e2 J;refine⟨_,_,_,_,_,Blk.ld (cs:=[.bool G,.bool I,.string k.1,.string k.2.1,.string f]) S'.B,?_⟩;intro bQ bS bP bz;have F:=fin g' ac (G,I,k.1,k.2.1,f) _ S' e4;have bu:=XRunU.mono F λh' q=>(⟨e3,q⟩:bz h');repeat' first|exact rfl|exact e3|exact F|exact bu|refine⟨?_,?_⟩);refine⟨λhx=>?_,λhx=>c2 hx h8 M8 S8⟩;refine(c1 hx).go (vs:=[.string r2.2.1,.string ⟨#[45]⟩]) aT S8.L.ag (zn (a:=Arg.mk .str r2.2.1) (rdStr _) (zn (a:=Arg.mk .str (⟨#[45]⟩:Bt)) (rdStr _) qg)) λw bN aH aa bL i H4=>?_;rw[Hi i];refine⟨_,_,rfl,?_⟩;have aE:=S8.call bL;rw[show Ue ⟨Uw h,0,Te⟩ 1=⟨h.size,1,Te⟩from rfl];refine jo (by kernel_rfl) (by kernel_rfl) aE.B (o:=1) (by simp) rfl λaL bB bG be=>?_;have Q:St5 h M aL aH (r1.2,aa.2,⟨#[]⟩,⟨#[]⟩,⟨#[]⟩):=aE.put be bG bB;intro aZ aI;obtain⟨d1,d2⟩:=H4 (λf G I x2 x3 x4=>∀g Mg,St5 h M g Mg (G,I,x2,x3,x4)->aZ f g) λf G I x2 x3 x4 P g Mg S=>aI f g (P.go (vs:=[.string f]) (O S) S.L.ag (zn (a:=Arg.mk .str f) (rdStr _) qg) λw aG aB bF ay i he=>⟨bF,Ju i,λJ=>⟨_,_,_,_,_,Blk.ld (cs:=[.bool G,.bool I,.string x2,.string x3,.string x4]) (S.call ay).B,fin aG aB (G,I,x2,x3,x4) Tc (S.call ay) (he.1 J)⟩,λJ=>he.2 J aG aB (S.call ay)⟩);refine⟨aa.2,Blk.cell Q.B (o:=1) rfl,λJ=>(d1 J).go (vs:=[.string aa.1,.string ⟨#[43]⟩]) (O Q) Q.L.ag (zn (a:=Arg.mk .str aa.1) (rdStr _) (zn (a:=Arg.mk .str (⟨#[43]⟩:Bt)) (rdStr _) qg)) λw bq bn br bA i hk=>⟨br,kL i,hk bq bn (Q.call bA)⟩,λJ=>d2 J aL aH Q⟩
end
end Go.X
end
section
namespace Go.X
open Go Go.Lib
section
variable {l:Bs} {k:Nat}
theorem Ej(c:UInt8):∀l:Bs,-1<=indexByte l c/\(0<=indexByte l c↔c∈l)
 |[]=>by simp[indexByte]
 |b::l=>by have i:=Ej c l;unfold indexByte;by_cases h:b=c;simp[h];have h':¬c=b:=λe=>h e.symm;simp only[beq_iff_eq,h,if_false,Up,h',false_or];obtain⟨j,f⟩:=i;split;rename_i e;rw[e]at f;exact⟨by omega,by rw[<-f]⟩;rename_i e;refine⟨by omega,?_⟩;rw[<-f];omega
theorem Jg(u:Nat):(decDigits u).length<=u+1:=by rw[decDigits];split;simp;rename_i h;have:=Jg (u / 10);simp;omega
theorem itoa_len(n:Int):(itoa n).length<=n.natAbs+2:=by unfold itoa;split;have:=Jg n.natAbs;simp;omega;have:=Jg n.toNat;omega
theorem GC(l:Bs)(c:UInt8):hasPrefix l [c]=(l.head?==Td c):=by
 cases l with
 |nil=>rfl
 |cons b t=>simp[hasPrefix,List.isPrefixOf];rw[UR];simp;exact eq_comm
theorem Gf(l:Bs)(c:UInt8):trimPrefix l [c]=if l.head?==Td c then l.tail else l:=by unfold trimPrefix;rw[GC];split <;> simp
theorem EL(l:Bs)(c:UInt8):zu (l++[c])=10*zu l+(c.toNat-48):=by simp[zu,List.foldl_append]
theorem Fy(b:k<l.length):zu (l.take (k+1))=10*zu (l.take k)+(l[k].toNat-48):=by rw[Un b,EL]
theorem FH{p:UInt8->Bool}(h:l.all p=Ta)(k:Nat):(l.take k).all p=Ta:=by rw[UI]at h ⊢;exact λx b=>h x (XD b)
theorem Gd(h:l.all js=Ta)(b:k<l.length):48<=l[k].toNat/\l[k].toNat<=57:=by have:=UI.1 h _ (Ur b);simpa[js]using this
theorem Bm:∀(n:Nat) (l:Bs),l.length=n->l.all js=Ta->zu l<10 ^ n
 |0,l,h,_=>by have:l=[]:=UN h;subst this;simp[zu]
 |n+1,l,h,hd=>by
  have b:l=l.take (n+1):=by rw[<-h,UE]
  rw[b,Fy (by omega)];have h1:=Bm n (l.take n) (by simp;omega) (FH hd n);have c:=Gd hd (k:=n) (by omega);rw[Nat.pow_succ];omega
theorem uA{n:Nat}(b:l.length<=n)(h:l.all js=Ta):zu l<10 ^ n:= VP (Bm _ l rfl h) (Nat.pow_le_pow_right (by omega) b)
theorem s8(h:Xq l=Ta):l.all js=Ta:=by unfold Xq at h;exact(Bool.and_eq_true_iff.1 h).1
theorem Jh{p q:UInt8->Bool}(h:l.all p=Ta):(l.dropWhile q).all p=Ta:=by rw[UI]at h ⊢;exact λx b=>h x ((List.dropWhile_sublist q).mem b)
theorem w9(l:Bs)(q:UInt8->Bool):(l.dropWhile q).length<=l.length:=(List.dropWhile_sublist q).length_le
theorem GR{q:UInt8->Bool}:∀c,(l.dropWhile q).head?=Td c->q c=Tc:=by
 induction l with
 |nil=>simp
 |cons b t e=>intro c h;rw[List.dropWhile_cons]at h;split at h;exact e c h;rename_i f;simp at h;subst h;exact Bool.eq_false_iff.2 f
theorem FU(h:l.all js=Ta)(i:l.dropWhile (· == 48)≠[]):Xq (y0 l)=Ta/\(y0 l).length<=(l.dropWhile (· == 48)).length/\((y0 l).head? != Td 48)=Ta/\((y0 l).getLast? != Td 48)=Ta:=by
 unfold y0;obtain⟨c,t,f⟩:=VI i;have j:(c==48)=Tc:=by have:=GR (l:=l) (q:=(· == 48)) c (by rw[f];rfl);simpa using this
 have key:∀(t:Bs),∃u,((c::t).reverse.dropWhile (· == 48)).reverse=c::u:=by
  intro t;rw[List.reverse_cons];have k:∀(r:Bs),∃u,(r++[c]).dropWhile (· == 48)=u++[c]:=by
   intro r;induction r with
   |nil=>exact⟨[],by simp[j]⟩
   |cons b r m=>rw[U8,List.dropWhile_cons];split;exact m;exact⟨b::r,rfl⟩
  obtain⟨u,e⟩:=k t.reverse;exact⟨u.reverse,by rw[e];simp⟩
 rw[f];obtain⟨u,e⟩:=key t;refine⟨?_,?_,?_,?_⟩;rw[Xq,Bool.and_eq_true_iff];refine⟨?_,by rw[e];rfl⟩;rw[List.all_reverse];apply Jh;rw[List.all_reverse,<-f];exact Jh h;rw[List.length_reverse];refine Vj (w9 _ _) ?_;simp;rw[e];simp;simpa using j;rw[List.getLast?_reverse];cases hh:((c::t).reverse.dropWhile (· == 48)).head? with
 |none=>rfl
 |some x=>have:=GR (l:=(c::t).reverse) (q:=(· == 48)) x hh;simpa using this
theorem N3(h:l.all js=Ta)(b:l.dropWhile (· == 48)≠[])(k:l.length<=1000)(neg:Bool)(e:Int):jg (neg,y0 l,e)=(decide (-1000000<=e)&&decide (e<=1000000)):=by
 obtain⟨h1,j,i,f⟩:=FU h b;have m:=w9 l (· == 48);have c:(y0 l).isEmpty=Tc:=by rw[Xq]at h1;have:=(Bool.and_eq_true_iff.1 h1).2;simpa using this
 unfold jg mH;simp only[h1,i,f,c,Bool.and_false,Bool.false_and,Bool.false_or,Vz];have:decide ((y0 l).length<=1000)=Ta:=by simp;omega
 rw[this];simp
theorem Mo{s:Bs}{x:Lit}(h:lI s=Td x):Xq x.whole=Ta/\x.rest.all js=Ta/\x.exp.all js=Ta:=by
 obtain⟨b,rfl⟩:=FN h;unfold l9 at b;simp only[Uq]at b;obtain⟨⟨⟨h1,e⟩,c⟩,f⟩:=b;refine⟨e,?_,?_⟩;show(Qe s).2.1.all js=Ta;cases hp:(Qe s).2.2 with
 |true=>rw[hp]at c;exact s8 (by simpa using c)
 |false=>rw[show(Qe s).2.1=[]from(uq hp).2];rfl
 show(if(Xr s).2.2 then jE s else []).all js=Ta;cases hm:(Xr s).2.2 with
 |true=>rw[hm]at h1;simpa using s8 (by simpa using h1)
 |false=>rfl
theorem xV(p:UInt8->Bool)(l:Bs):(cutAt p l).1.length+(cutAt p l).2.1.length<=l.length:=by
 induction l with
 |nil=>simp[cutAt]
 |cons c t b=>unfold cutAt;split <;> simp <;> omega
theorem Ft{s:Bs}{x:Lit}(h:lI s=Td x):x.whole.length+x.rest.length+x.exp.length<=s.length:=by
 obtain⟨b,rfl⟩:=FN h;have h1:(lR s).length<=s.length:=by unfold lR;split <;> simp
 have e:=xV qD (lR s);have i:=xV rE (Xr s).1;have c:(jE s).length<=(Xr s).2.1.length:=by unfold jE;split;simp;split <;> simp
 have f:(if(Xr s).2.2 then jE s else []).length<=(Xr s).2.1.length:=by split;exact c;simp
 show(Qe s).1.length+(Qe s).2.1.length+(if(Xr s).2.2 then jE s else []).length<=s.length;unfold Qe;unfold Xr at *;omega
end
end Go.X
end
section
namespace Go.X
section
variable {gl:Fr} {l:Bs}
theorem Oi(c:UInt8):(((c.toNat:Int)).toNat).toUInt8=c:=by simp
theorem DO{l sep:Bs}{p:UInt8->Bool}(t:∀c,p c=Ta↔c∈sep)(w:l.length<=4611686018427387904){R:Bt×Bt×Bool->Prop}(h:R (bl (cutAt p l).1,bl (cutAt p l).2.1,(cutAt p l).2.2)):
  PC Tp gl 268 [Arg.mk .str (bl l),Arg.mk .str (bl sep)] [.str,.str,.bool] R:=by
 apply SU;simp only[zy,Ys,Ct];refine⟨λi=>∃k:Nat,i=k/\k<=l.length/\∀j (f:j<l.length),j<k->p l[j]=Tc,λi=>l.length-i.toNat,⟨0,rfl,by omega,λj _ h=>by omega⟩,?_⟩;rintro i ⟨k,rfl,z,m⟩;refine⟨λr=>?_,λr=>?_⟩;have b:k<l.length:=by simpa using r
 simp only[Ui,Pq b];refine⟨by omega,Ou ?_⟩;rw[Oi,jf];have u:=(Ej l[k] sep).2;rw[ja b w];refine⟨λq=>⟨by omega,by omega,?_⟩,λq=>⟨⟨k+1,rfl,by omega,λj f y=>?_⟩,by simp;omega⟩⟩;have n:p l[k]=Ta:=(t _).2 (u.1 (by simpa using q));rw[Eu b (λj f=>m j (by omega) f) n]at h;simp only[Ui,Int.toNat_zero,WH,Nat.sub_zero];rw[Vv (l:=l.drop (k+1)) (by simp)];exact h;by_cases e:j=k;subst e;cases hpj:p l[j]with
 |false=>rfl
 |true=>exact absurd (u.2 ((t _).1 hpj)) (by simpa using q)
 exact m j f (by omega);have b:¬k<l.length:=by simpa using r
 rw[Bl (λc o=>by obtain⟨j,f,rfl⟩:=List.getElem_of_mem o;exact m j f (by omega))]at h;exact h
theorem GP{c:UInt8}{R:Bt×Bool->Prop}(h:R (bl (if l.head?==Td c then l.tail else l),l.head?==Td c)):PC Tp gl 267 [Arg.mk .str (bl l),Arg.mk .str (bl [c])] [.str,.bool] R:=by refine SA ?_;rw[jf,jf,Gf,GC];exact h
theorem Tn{c:UInt8}{R:Bt->Prop}(h:R (bl (if l.head?==Td c then l.tail else l))):PC Tp gl 269 [Arg.mk .str (bl l),Arg.mk .str (bl [c])] [.str] R:=by refine QX ?_;rw[jf,jf,Gf];exact h
theorem xB{R:Bt->Prop}(h:R (bl (l.dropWhile (· == 48)))):PC Tp gl 218 [Arg.mk .str (bl l),Arg.mk .str (bl [48])] [.str] R:=by refine Ic (c:=48) (by decide) ?_;rw[jf];exact h
theorem IR(b:l.length<=4611686018427387904){R:Bt->Prop}(h:R (bl (l.reverse.dropWhile (· == 48)).reverse)):PC Tp gl 219 [Arg.mk .str (bl l),Arg.mk .str (bl [48])] [.str] R:=by refine NP (c:=48) (by decide) (by rw[zy];omega) ?_;rw[jf];exact h
theorem PV{s:Bs}(Q:s.length<=4611686018427387904){R:(Bool×Bool×Bt×Bt×Bt)×Bool->Prop} (h1:l9 s=Ta->R (((kK s).neg,(kK s).low,bl (kK s).whole,bl (kK s).rest,bl (kK s).exp),Ta)) (C:l9 s=Tc->∀a b c d e,R ((a,b,bl c,bl d,bl e),Tc)):
  PC Tp gl 217 [Arg.mk .str (bl s)] [.pair .bool (.pair .bool (.pair .str (.pair .str .str))),.bool] R:=by
 apply RQ;refine GP (c:=45) ?_;dsimp only;have S:(lR s).length<=s.length:=by unfold lR;split <;> simp
 have H:=xV qD (lR s);refine DO (l:=lR s) (sep:=[101,69]) (p:=qD) (λc=>by simp[qD]) (by omega) ?_;dsimp only;have L:(Xr s).1.length+(Xr s).2.1.length<=(lR s).length:=H;have r:∀(e:Bs) (low:Bool),((Xr s).2.2=Ta->Xq (jE s)=Ta/\low=mD s/\e=jE s)->((Xr s).2.2=Tc->low=Tc/\e=[]) ->
   PC Tp gl 268 [Arg.mk .str (bl (Xr s).1),Arg.mk .str (bl [46])] [.str,.str,.bool] (λf:Bt×Bt×Bool=>PC Tp gl 215 [Arg.mk .str f.1] [.bool] (λm:Bool=>∃u:Bool->Prop,(((!(!m))&&f.2.2)=Ta->PC Tp gl 215 [Arg.mk .str f.2.1] [.bool] u) /\ ∀o:Bool,(((!(!m))&&f.2.2)=Ta->u o)->((bif (!m)then Ta else(bif f.2.2 then(!o)else Tc))=Ta->R ((s.head?==Td 45,(low,(f.1,(f.2.1,bl e)))),Tc)) /\ ((bif (!m)then Ta else(bif f.2.2 then(!o)else Tc))=Tc->((!((f.1:Bt).toList==((⟨#[48]⟩:Bt):Bt).toList))=Ta->(0<=(0:Int)/\(0:Int)<((f.1).size:Int))) /\ R ((s.head?==Td 45,(low,(f.1,(f.2.1,bl e)))),bif ((f.1:Bt).toList==((⟨#[48]⟩:Bt):Bt).toList)then Ta else((y8 f.1 (0:Int).toNat:Int) != 48))))):=by
  intro e low O k2;have w:(!(Xr s).2.2||Xq (jE s))=Ta/\mD s=low/\(if(Xr s).2.2 then jE s else [])=e:=by
   cases A:(Xr s).2.2 with
   |true=>obtain⟨a,b,c⟩:=O A;exact⟨by simp[a],b.symm,by simp[c]⟩
   |false=>obtain⟨a,b⟩:=k2 A;exact⟨rfl,by unfold mD;rw[A,a];rfl,by simp[b]⟩
  refine DO (l:=(Xr s).1) (sep:=[46]) (p:=rE) (λc=>by simp[rE]) (by omega) ?_;refine s7 ⟨λx=>Xq (Qe s).2.1=x,λ_=>s7 rfl,λy G=>?_⟩;dsimp only;simp only[show(⟨#[48]⟩:Bt)=bl [48]from rfl,lS,zy,Ys];change (_->Xq (Qe s).2.1=y)at G;show((bif (!Xq (Qe s).1)then Ta else(bif (Qe s).2.2 then(!y)else Tc))=Ta->R ((s.head?==Td 45,(low,(bl (Qe s).1,(bl (Qe s).2.1,bl e)))),Tc)) /\ ((bif (!Xq (Qe s).1)then Ta else(bif (Qe s).2.2 then(!y)else Tc))=Tc->((!decide ((Qe s).1=[48]))=Ta->(0<=(0:Int)/\(0:Int)<((Qe s).1.length:Int))) /\ R ((s.head?==Td 45,(low,(bl (Qe s).1,(bl (Qe s).2.1,bl e)))),bif decide ((Qe s).1=[48])then Ta else(((((Qe s).1[(0:Int).toNat]?).getD 0).toNat:Int) != 48)));have B:Xq (Qe s).1=Ta->(Qe s).2.2=Ta->Xq (Qe s).2.1=y:=λa b=>G (by show((!(!Xq (Qe s).1))&&(Qe s).2.2)=Ta;rw[a,b];rfl);refine⟨λi=>C ?_ _ _ _ _ _,λi=>⟨λ_=>?_,?_⟩⟩;unfold l9;cases q:Xq (Qe s).1 with
  |false=>simp
  |true=>
   rw[q]at i;cases hw:(Qe s).2.2 with
   |false=>rw[hw]at i;simp at i
   |true=>rw[hw]at i;have:=B q hw;rw[this];simp at i;simp[i]
  all_goals
   have q:Xq (Qe s).1=Ta:=by
    cases q:Xq (Qe s).1 with
    |true=>rfl
    |false=>rw[q]at i;simp at i
   have P:=Ez q
  omega;have M:(!(Qe s).2.2||Xq (Qe s).2.1)=Ta:=by
   cases hw:(Qe s).2.2 with
   |false=>rfl
   |true=>rw[q,hw]at i;have:=B q hw;rw[this];simpa using i
  have J:(bif decide ((Qe s).1=[48])then Ta else(((((Qe s).1[(0:Int).toNat]?).getD 0).toNat:Int) != 48))=((Qe s).1==[48]||(Qe s).1.head? != Td 48):=by rw[show(0:Int).toNat=0 from rfl,FI P,Bool.cond_true_left,UR];simp
  have t:l9 s=((Qe s).1==[48]||(Qe s).1.head? != Td 48):=by unfold l9;rw[w.1,q,M];simp
  rw[J];cases ho:((Qe s).1==[48]||(Qe s).1.head? != Td 48)with
  |true=>have:=h1 (t.trans ho);unfold kK at this;rw[w.2.1,w.2.2]at this;exact this
  |false=>exact C (t.trans ho) _ _ _ _ _
 intro K F;refine⟨λA=>?_,λA=>?_⟩;have n:(Xr s).2.2=Ta:=A;refine GP (c:=45) (l:=(Xr s).2.1) ?_;dsimp only;intro I E;have step:∀low e,low=mD s->e=jE s->I (bl e) (s.head?==Td 45) low (bl []) (bl []) (bl []):=by
  intro low e D z;refine E _ _ _ _ _ _ (s7 ⟨λi=>?_,λi=>?_⟩);refine C ?_ _ _ [] [] [];unfold l9;rw[n,<-z];have:Xq e=Tc:=by simpa using i
  rw[this];rfl;refine F _ _ _ _ _ _ (r e low (λ_=>⟨by rw[<-z];simpa using i,D,z⟩) λh=>by rw[n]at h;cases h)
 have k:mD s=((Xr s).2.1.head?==Td 45):=by unfold mD;rw[n];rfl
 refine⟨λi=>?_,λi=>?_⟩;have j:((Xr s).2.1.head?==Td 45)=Tc:=by simpa using i
 rw[j];refine Tn (c:=43) ?_;simp only[Vm,if_false];refine step Tc _ (by rw[k,j]) ?_;unfold jE;rw[k,j];simp;have j:((Xr s).2.1.head?==Td 45)=Ta:=by simpa using i
 rw[j];simp only[if_true];refine step Ta _ (by rw[k,j]) ?_;unfold jE;rw[k,j];simp;have n:(Xr s).2.2=Tc:=A;have N:(Xr s).2.1=[]:=(uq n).2;have:=r [] Tc (λh=>by rw[n]at h;cases h) λ_=>⟨rfl,rfl⟩;show K (bl (Xr s).2.1) _ _ _ _ _;rw[N];exact F _ _ _ _ _ _ this
theorem TF{α β γ δ:Type}{B:α->β->γ->δ->Prop}{c:Bool}{a b:α}{x:β}{y:γ}{z:δ}(h:∀e,e=(bif c then a else b)->B e x y z):∀K:α->β->γ->δ->Prop,(∀e x y z,B e x y z->K e x y z)->(c=Ta->K a x y z)/\(c=Tc->K b x y z):= λK i=>⟨λf=>i _ _ _ _ (h _ (by subst f;rfl)),λf=>i _ _ _ _ (h _ (by subst f;rfl))⟩
theorem hH{n:Int}(h:-4611686018427387904<=n/\n<=4611686018427387904):Ud .i64 n=n:=wrap64 (by omega) (by omega)
set_option maxHeartbeats 1000000 in
theorem Di{s:Bs}(T:s.length<=1152921504606846976){R:(Bool×Bt×Int)×Int->Prop}(h:R (nt (qu s).1,(qu s).2)):PC Tp gl 160 [Arg.mk .str (bl s)] [tN,.int .i64] R:=by
 apply OX;refine PV (by omega) (λq=>?_) (λq a b c d e=>?_);rotate_left;refine xB ⟨λ_=>?_,λk=>by cases k⟩;have:lI s=Te:=by unfold lI;simp[q]
 unfold qu at h;rw[this]at h;exact h;have f:lI s=Td (kK s):=by unfold lI;simp[q]
 have I:=Ft f;obtain⟨d1,d2,d3⟩:=Mo f;unfold qu at h;rw[f]at h;simp only at h;generalize kK s=x at *;refine xB ⟨λk=>(by cases k),λ_=>?_⟩;simp only[zy];rw[hH (by omega)];refine⟨λk=>?_,λk=>?_⟩;rw[zA (by simp at k;omega)]at h;exact h;rw[zv (by simp at k;omega)]at h;refine⟨λj=>?_,λj=>?_⟩;rw[zA (by simp at j;omega)]at h;exact h;rw[zv (by simp at j;omega)]at h;have z:x.whole.length+x.rest.length<=1000:=by simp at k;omega
 have O:x.exp.all js=Ta:=d3;generalize M:x.exp.dropWhile (· == 48)=E at *;have t:E.all js=Ta:=by rw[<-M];exact Jh d3
 have C:E.length<=9:=by simp at j;omega
 have N:zu E<10 ^ 9:=uA C t;refine⟨λe _ _ _ p=>p.1=bl E/\p.2<=E.length/\e=(zu (E.take p.2):Int),λ_ _ _ _ p=>E.length-p.2,⟨rfl,by omega,by simp[zu]⟩,?_⟩;rintro e b1 b2 b3 ⟨_,p⟩ ⟨rfl,L,rfl⟩;simp only at L ⊢;rw[zQ,rG];refine⟨λy=>⟨y,?_⟩,λy=>?_⟩;have i:p<E.length:=by simpa using y
 have S:=Gd t i;have G:E.drop p=E[p]::E.drop (p+1):=U6 i;rw[oS E p i,G,Yr (by omega)];have P:=uA (n:=9) (l:=E.take p) (by simp;omega) (FH t p);rw[QD (by omega) (by omega),hH (n:=10*_) (by omega),hH (n:=(_:Int)-48) (by omega),hH (by omega)];simp only;refine⟨⟨trivial,by omega,?_⟩,by omega⟩;rw[Fy i];omega;have i:¬p<E.length:=by simpa using y
 have A:p=E.length:=by omega
 subst A;rw[UE];apply TF;intro u B;refine⟨by unfold jh;omega,?_⟩;rw[jr];refine xB ?_;rw[show(⟨#[]⟩:Bt)=bl []from rfl];simp only[lS];have H:(x.whole++x.rest).all js=Ta:=by rw[WV,s8 d1,d2];rfl
 refine⟨λr=>?_,λr=>?_⟩;rw[zA (by simpa using r)]at h;exact h;have m:(x.whole++x.rest).dropWhile (· == 48)≠[]:=by simpa using r
 rw[zv m]at h;have F:=w9 (x.whole++x.rest) (· == 48);rw[Uk]at F;refine IR (by omega) ?_;have J:=(FU H m).2.1;have D:=N3 H m (by rw[Uk];exact z);simp only[zy,show((List.dropWhile (λx=>x==48) (x.whole++x.rest)).reverse.dropWhile (λx=>x==48)).reverse=y0 (x.whole++x.rest)from rfl];have w:u=if x.low then-(zu E:Int)else(zu E:Int):=by rw[B];cases x.low <;> simp;exact hH (by omega)
 have Q:-1000000000<=u/\u<=1000000000:=by rw[w];split <;> omega
 rw[hH (n:=u-_) (by omega),hH (n:=u-_+_) (by omega),hH (by omega)];refine wA (n:=(x.neg,y0 (x.whole++x.rest),u-(x.rest.length:Int)+(((x.whole++x.rest).dropWhile (· == 48)).length:Int)-((y0 (x.whole++x.rest)).length:Int))) (by simp only;omega) ?_;rw[D];change R (nt (if -1000000<=(if x.low=Ta then-(zu E:Int)else(zu E:Int))-(x.rest.length:Int)+(((x.whole++x.rest).dropWhile (· == 48)).length:Int)-((y0 (x.whole++x.rest)).length:Int)/\(if x.low=Ta then-(zu E:Int)else(zu E:Int))-(x.rest.length:Int)+(((x.whole++x.rest).dropWhile (· == 48)).length:Int)-((y0 (x.whole++x.rest)).length:Int)<=1000000 then((x.neg,y0 (x.whole++x.rest),(if x.low=Ta then-(zu E:Int)else(zu E:Int))-(x.rest.length:Int)+(((x.whole++x.rest).dropWhile (· == 48)).length:Int)-((y0 (x.whole++x.rest)).length:Int)),0)else((Tc,[],0),4)).1,_)at h;rw[<-w]at h;refine⟨λo=>?_,λo=>?_⟩;rw[zv (by simp at o;omega)]at h;exact h;rw[zA (by simp at o;omega)]at h;exact h
end
section
variable {gl:Fr}
theorem mY{a b:Bs}(h:a.length+b.length<=4611686018427387904):jh ((bl a).size+(bl b).size):=by unfold jh;rw[zy,zy];omega
theorem E1(m:p7 gl){n:Nm}(q:n.2.1.length<=4611686018427387904){R:Bt->Prop}(h:R (bl (Jw n))):PC Tp gl 92 [Arg.mk tN (nt n)] [.str] R:=by
 apply HE;refine wA q ⟨λf=>?_,λf=>?_⟩;have:jg n=Tc:=by simpa using f
 have e:Jw n=[]:=by unfold Jw;simp[this]
 rw[e]at h;exact h;have i:jg n=Ta:=by simpa using f
 obtain⟨u,o,k⟩:=CG i;unfold Jw at h;rw[zA i]at h;simp only[show(⟨#[]⟩:Bt)=bl []from rfl,lS];refine⟨λc=>?_,λc=>?_⟩;rw[zA (by simpa using c)]at h;exact h;rw[zv (by simpa using c)]at h;intro K r;have key:∀t:Bs,t=(if n.1 then [45]else [])++n.2.1->K (bl t):=by
  intro t j;have p:t.length<=1001:=by rw[j];split <;> simp <;> omega
  rw[<-j]at h;refine r _ ⟨λb=>?_,λb=>?_⟩;rw[zv (by simpa using b)]at h;have l:=Go.X.itoa_len n.2.2;refine ue m (by omega) (by omega) ?_;refine⟨mY (a:=[101]) (by simp;omega),?_⟩;rw[show(⟨#[101]⟩:Bt)=bl [101]from rfl,jr,jr];exact⟨mY (by simp;omega),h⟩;rw[zA (by simpa using b),Vg]at h;exact h
 refine⟨λb=>⟨mY (a:=[45]) (by simp;omega),?_⟩,λb=>?_⟩;rw[show(⟨#[45]⟩:Bt)=bl [45]from rfl,jr];exact key _ (by rw[zA (by simpa using b)]);exact key _ (by rw[zv (by simpa using b)];rfl)
theorem IW(i:p7 gl){n:Int}(h1:-9223372036854775808<=n)(f:n<=9223372036854775807){R:Bool×Bt×Int->Prop}(h:R (nt (qu (Lib.itoa n)).1)):PC Tp gl 93 [Arg.mk (.int .i64) n] [tN] R:=by
 apply Rj;refine ue i h1 f (Di ?_ h);have:=Go.X.itoa_len n;have b:∀u:Nat,u<10 ^ 20->(Lib.decDigits u).length<=20:=by
  have:∀(k u:Nat),u<10 ^ (k+1)->(Lib.decDigits u).length<=k+1:=by
   intro k;induction k with
   |zero=>intro u c;rw[Lib.decDigits,dif_pos (by simpa using c)];simp
   |succ k e=>intro u c;rw[Lib.decDigits];split;simp;have:=e (u / 10) (by rw[Nat.pow_succ]at c;omega);simp;omega
  exact this 19
 have:(Lib.itoa n).length<=21:=by unfold Lib.itoa;split;have:=b n.natAbs (by omega);simp;omega;have:=b n.toNat (by omega);omega
 omega
end
end Go.X
end
section
namespace Go.X
open Go Go.Proofs Go.Shelf Go.RowKit
section
def Tf:Go.Shelf.Ren:=⟨fun|196=>246|259=>297|n=>n,fun|9=>9|4=>4|3=>3|5=>5|12=>12|119=>305|0=>0|46=>123|139=>308|138=>307|53=>178|n=>n,fun|3=>0|4=>1|n=>n⟩
theorem Mr:Go.Proofs.Lays.n196 Tp Tf:=by constructor <;> intros <;> kernel_rfl
open Go.RowKit Go.Lib in
theorem OA(s:Bt)(w:World)(b:s.size<=9223372036854775807)(c:Lib.Utf8Tabs 0 1 w): Calls Tp 246 #[.string s] w λe w'=>e=.returned (.bool (Lib.validD s.data.toList))/\Below w.heap.size w w':=Any.utf8_ValidString Mr s w b c
end
end Go.X
end
section
namespace Go.X
section
variable {l:Bs}
theorem Kt{n:Int}{k:Nat}(b:n=(k:Int)):(bl l).extract n.toNat ((l.length:Int)).toNat=bl (l.drop k):=by subst b;rw[Ui,Ui,Ct,Vv (by simp)]
theorem EC(l:Bs):Lib.validD l=Qd l:=by
 by_cases h:l=[];subst h;rw[yP];rfl;rw[Lib.validD_step l h,Yq h,Lib.decodeL_N,EC (l.drop _)];have e:i3 (dec l)=decide ((dec l).1=65533/\(dec l).2=1):=by unfold i3;rw[Bool.decide_and];rfl
 rw[e];by_cases c:(dec l).1=65533/\(dec l).2=1;rw[zJ c];exact zA c;rw[decide_eq_false c];exact zv c
termination_by l.length
decreasing_by
 have h1:=Yp l;have h2:0<l.length:=Vt.2 h;unfold dec at h1;simp only[Vu];omega
theorem RB{gl:Fr}(c:Tabs gl)(e:l.length<=4611686018427387904){R:Bool->Prop}(h:R (Qd l)):PC Tp gl 246 [Arg.mk .str (bl l)] [.bool] R:= PC.of_scal rfl (λ_=>Kb _) (by rw[<-EC]at h;exact h) λw b=>OA (bl l) w (by rw[zy];omega) (c.at b)
end
end Go.X
end
section
namespace Go.X
open Go Go.Lib
section
theorem J2(l:Bs)(a:Nat):l.foldl (λn c=>10*n+(c.toNat-48)) a=a*10 ^ l.length+zu l:=by
 induction l generalizing a with
 |nil=>simp[zu]
 |cons c t b=>
  simp only[List.foldl_cons,Uz,zu];rw[b,b (10*0+(c.toNat-48)),Nat.pow_succ];have:(10*a+(c.toNat-48))*10 ^ t.length=a*(10 ^ t.length*10)+(c.toNat-48)*10 ^ t.length:=by rw[VH,WS 10 a,Nat.mul_assoc,WS 10 (10 ^ t.length)]
  rw[this];simp;omega
theorem G4(a b:Bs):zu (a++b)=zu a*10 ^ b.length+zu b:=by rw[zu,List.foldl_append,J2];rfl
theorem Pj(n:Nat):zu (Vx n 48)=0:=by
 induction n with
 |zero=>rfl
 |succ n b=>rw[List.replicate_succ];exact b
theorem CL:∀(l:Bs) (b:Nat),l.all js=Ta->b*10 ^ l.length+zu l<10 ^ 19->parseUintM (2 ^ 64-1) b l=.ok (b*10 ^ l.length+zu l)
 |[],b,_,_=>by simp[parseUintM,zu]
 |c::t,b,hd,hl=>by
  rw[WC,Uq]at hd
  have i:48<=c.toNat/\c.toNat<=57:=by simpa[js]using hd.1
  have e:zu (c::t)=(c.toNat-48)*10 ^ t.length+zu t:=by
   have:=G4 [c] t
   rw[List.singleton_append]at this
   rw[this];simp[zu]
  have f:(b*10+(c.toNat-48))*10 ^ t.length+zu t=b*10 ^ (c::t).length+zu (c::t):=by
   rw[e,Uz,Nat.pow_succ,VH,Nat.mul_assoc,WS 10 (10 ^ t.length)];omega
  have h:1<=10 ^ t.length:=Nat.one_le_pow _ _ (by decide)
  have j:b*10+(c.toNat-48)<=b*10 ^ (c::t).length+zu (c::t):=by
   rw[<-f]
   calc b*10+(c.toNat-48)=(b*10+(c.toNat-48))*1:=by omega
    _<=(b*10+(c.toNat-48))*10 ^ t.length:=Nat.mul_le_mul_left _ h
    _<=_:=by omega
  rw[parseUintM,zA i,zv (by omega),zv (by omega),CL t _ hd.2 (by rw[f];exact hl),f]
def Yt(n:Nm):Bs:=n.2.1++Vx n.2.2.toNat 48
theorem LQ(n:Nm):zu (Yt n)=zu n.2.1*10 ^ n.2.2.toNat:=by rw[Yt,G4,Pj,V2,XH]
theorem O3{n:Nm}(h:jg n=Ta):n.2.1.all js=Ta:=by unfold jg mH at h;rcases WU _ _ ▸ h with h|h;simp at h;rw[h.2.1];rfl;simp only[Uq]at h;exact s8 h.1.1.1.1.1
theorem QO{n:Nm}(h:jg n=Ta):(Yt n).all js=Ta:=by rw[Yt,WV,O3 h,Vz,UI];intro x b;rw[List.mem_replicate]at b;rw[b.2];rfl
theorem Pm{l:Bs}(neg:Bool)(e:l.all js=Ta)(j:l.length<=19)(b:l≠[]):
  parseIntB 64 ((if neg then [45]else [])++l)=if neg then(if zu l<=9223372036854775808 then .ok (-(zu l:Int))else .range)else(if zu l<=9223372036854775807 then .ok (zu l:Int)else .range):=by
 have k:zu l<10 ^ 19:=uA j e;have f:=CL l 0 e (by rw[Nat.zero_mul];omega);rw[Nat.zero_mul,Uy]at f;cases neg with
 |true=>simp only[if_true,List.singleton_append];unfold parseIntB;simp only[show(45:UInt8).toNat=45 from rfl,or_true,if_true];unfold parseUintB;rw[zv b,f];simp only[not_true_eq_false,false_and,if_false,true_and];split;rename_i h;rw[zv (by omega)];rename_i h;rw[zA (by omega)]
 |false=>
  simp only[Vm,if_false,Vw];obtain⟨c,t,rfl⟩:=VI b;have m:48<=c.toNat/\c.toNat<=57:=by rw[WC,Uq]at e;simpa[js]using e.1
  unfold parseIntB;simp only;rw[zv (by omega)];unfold parseUintB;rw[zv (by simp),f];have i:¬c.toNat=45:=by omega
  simp only[i,not_false_eq_true,true_and,false_and,if_false];split;rename_i h;rw[zv (by omega)];rename_i h;rw[zA (by omega)]
theorem Kr{a b:Nat}(j:a<18446744073709551616)(k:b<18446744073709551616):Ud .u64 (((Vp (U7 .u64) (a:Int)) &&& (Vp (U7 .u64) (b:Int))).toNat:Int)=((a &&& b:Nat):Int):=by
 have c:U7 .u64=64:=rfl;have e:((Vp (U7 .u64) (a:Int)) &&& (Vp (U7 .u64) (b:Int))).toNat=a &&& b:=by rw[BitVec.toNat_and,BitVec.ofInt_natCast,BitVec.ofInt_natCast,BitVec.toNat_ofNat,BitVec.toNat_ofNat,c,Nat.mod_eq_of_lt (by omega),Nat.mod_eq_of_lt (by omega)]
 rw[e];have f:a &&& b<2 ^ 64:=Nat.and_lt_two_pow _ (by omega);unfold Ud;have h:(2:Int) ^ U7 .u64=18446744073709551616:=by decide
 simp only[h];have i:XZ .u64=Tc:=rfl;simp only[i,Bool.false_and,Vm,if_false];omega
theorem QE{n:Int}(h1:0<=n)(e:n<18446744073709551616):Ud .u64 n=n:=by
 unfold Ud;have b:(2:Int) ^ U7 .u64=18446744073709551616:=by decide
 simp only[b];have c:XZ .u64=Tc:=rfl;simp only[c,Bool.false_and,Vm,if_false];omega
end
section
variable {v:Tr} {l:List Tr} {k:Nat}
mutual
def bR:Tr->Nat | .mk _ _ _ xs=>1+jz xs
def jz:List Tr->Nat | []=>0|x::l=>bR x+jz l
end
mutual
def gK:Tr->Nat | .mk _ _ _ xs=>fR xs+1
def fR:List Tr->Nat | []=>0|x::l=>max (gK x) (fR l)
end
mutual
def xp(p:Tr->Bool):Tr->Bool | .mk k s ks xs=>p (.mk k s ks xs)&&lP p xs
def lP(p:Tr->Bool):List Tr->Bool | []=>Ta|x::l=>xp p x&&lP p l
end
mutual
def iI(m:Nat):Tr->Prop | .mk _ s ks xs=>(s.size<=m/\ks.length<=m/\∀k∈ks,k.size<=m)/\kW m xs
def kW(m:Nat):List Tr->Prop | []=>True|x::l=>iI m x/\kW m l
end
theorem wq(v:Tr):bR v=1+jz v.items:=by cases v;rw[bR]
theorem Qf(v:Tr):gK v=fR v.items+1:=by cases v;rw[gK]
theorem x9(p:Tr->Bool)(v:Tr):xp p v=(p v&&lP p v.items):=by cases v;rw[xp]
theorem nH(m:Nat)(v:Tr):iI m v↔(v.text.size<=m/\v.keys.length<=m/\∀k∈v.keys,k.size<=m)/\kW m v.items:=by cases v;rw[iI]
theorem Xs{m:Nat}:∀{l:List Tr},kW m l↔∀x∈l,iI m x
 |[]=>by simp[kW]
 |x::l=>by rw[kW,Xs];simp
theorem R7{m:Nat}{v x:Tr}(h:iI m v)(b:x∈v.items):iI m x:=Xs.1 ((nH m v).1 h).2 x b
theorem ju(p:Tr->Bool):∀l:List Tr,lP p l=l.all (xp p)
 |[]=>rfl
 |x::l=>by rw[lP,ju p l];rfl
theorem Za:∀a b:List Tr,jz (a++b)=jz a+jz b
 |[],b=>by simp[jz]
 |x::l,b=>by rw[U8,jz,jz,Za l b];omega
theorem BZ:∀a b:List Tr,fR (a++b)=max (fR a) (fR b)
 |[],b=>by simp[fR]
 |x::l,b=>by rw[U8,fR,fR,BZ l b];omega
theorem Ce{x:Tr}:∀{l:List Tr},x∈l->bR x<=jz l
 |y::l,h=>by rw[jz];rcases Up.1 h with rfl|h;omega;have:=Ce h;omega
theorem qn{v x:Tr}(h:x∈v.items):bR x<bR v:=by have:=Ce h;rw[wq v];omega
theorem Zg:∀l:List Tr,l.length<=jz l
 |[]=>by simp[jz]
 |x::l=>by have:=Zg l;rw[jz,Uz,wq];omega
theorem Qg(v:Tr):0<bR v:=by rw[wq];omega
theorem Pv(b:k<l.length):jz (l.take (k+1))=jz (l.take k)+bR l[k]:=by rw[Un b,Za];simp[jz]
theorem Kw(b:k<l.length):fR (l.take (k+1))=max (fR (l.take k)) (gK l[k]):=by rw[Un b,BZ];simp[fR]
mutual
theorem QP:∀v:Tr,gK v<=bR v
 |.mk _ _ _ xs=>by rw[gK,bR];have:=xK xs;omega
theorem xK:∀l:List Tr,fR l<=jz l
 |[]=>by simp[fR]
 |x::l=>by rw[fR,jz];have:=QP x;have:=xK l;omega
end
def j9(ks:List Bt):Bool:=ks.all (λk=>Qd (lb k))&&decide ks.Nodup
def ku(s:Bs):Nm×Bool:=((qu s).1,(qu s).2==0&&decide (Jw (qu s).1=s))
def yJ(s:Bs):Bool:=(ku s).2&&(rL (ku s).1).2&&decide (0<=(rL (ku s).1).1)
def zm(v:Tr):Bool:=
 if v.kind=1 then lb v.text==[]&&v.keys.isEmpty&&v.items.isEmpty
 else if v.kind=2 then(lb v.text==[116,114,117,101]||lb v.text==[102,97,108,115,101])&&v.keys.isEmpty&&v.items.isEmpty
 else if v.kind=3 then(ku (lb v.text)).2&&v.keys.isEmpty&&v.items.isEmpty
 else if v.kind=4 then Qd (lb v.text)&&v.keys.isEmpty&&v.items.isEmpty
 else if v.kind=5 then lb v.text==[]&&v.keys.isEmpty
 else if v.kind=6 then j9 v.keys&&decide (v.keys.length=v.items.length)&&lb v.text==[]
 else if v.kind=7 then yJ (lb v.text)&&v.keys.isEmpty&&v.items.isEmpty
 else Tc
def xq(v:Tr):Bool:=decide (bR v<=4096)&&decide (gK v<=32)
def j3(v:Tr):Bool:=xq v&&xp zm v
def zi(v:Tr):Bool:=xq v&&xp (λx=>decide (x.kind≠7)&&zm x) v
structure Sm (v:Tr):Prop where
 sz:bR v<=1000000000000
 tx:iI 1048576 v
theorem Sm.item{v x:Tr}(h:Sm v)(b:x∈v.items):Sm x:=⟨by have:=qn b;have:=h.sz;omega,R7 h.tx b⟩
theorem Sm.text(h:Sm v):(lb v.text).length<=1048576:=by rw[mr];exact((nH _ v).1 h.tx).1.1
theorem Sm.key(h:Sm v){k:Bt}(b:k∈v.keys):(lb k).length<=1048576:=by rw[mr];exact((nH _ v).1 h.tx).1.2.2 k b
theorem Sm.keys(h:Sm v):v.keys.length<=1048576:=((nH _ v).1 h.tx).1.2.1
theorem Sm.items(h:Sm v):v.items.length<=1000000000000:=by have:=Zg v.items;have:=h.sz;rw[wq]at this;omega
end
end Go.X
end
section
namespace Go.X
section
variable {gl:Fr} {l:Bs} {R:Bool -> Prop}
theorem xH(t:Tabs gl)(z:l.length<=4611686018427387904){R:Int×Bool->Prop}(h:∀k,R (k,Qd l)):PC Tp gl 196 [Arg.mk .str (bl l)] [.int .i64,.bool] R:=by
 apply KY;refine RB t z ⟨λn=>?_,λn=>?_⟩;have:=h ((bl l).size:Int);rw[n]at this;exact this;refine⟨λp=>p.1=bl l/\p.2<=l.length/\Qd (l.drop p.2)=Tc,λp=>l.length-p.2,⟨rfl,by omega,by simpa using n⟩,?_⟩;rintro⟨_,p⟩ ⟨rfl,w,c⟩;simp only at w c ⊢;rw[zQ,rG];refine⟨λm=>⟨m,m,λq=>?_,λq=>⟨?_,?_⟩⟩,λm=>?_⟩;have f:p<l.length:=by simpa using m
 have b:l.drop p≠[]:=λe=>by have:=congrArg Vi e;simp at this;omega
 have o:i3 (dec (l.drop p))=Tc:=by
  unfold i3;have:¬(dec (l.drop p)).1=65533:=λe=>by rw[e]at q;simp at q
  simp[this]
 rw[Yq b,o]at c;simp only[Vm,if_false,XB]at c;rw[oS l p f];have y:=Yp (l.drop p);have j:=zP b;simp only[Vu]at j;exact⟨⟨trivial,by omega,c⟩,by omega⟩;have f:p<l.length:=by simpa using m
 rw[zy];omega;have f:p<l.length:=by simpa using m
 have b:l.drop p≠[]:=λe=>by have:=congrArg Vi e;simp at this;omega
 rw[zy,Kt (k:=p) rfl];refine IE t ?_;have r:(bl (l.drop p)).size≠0:=by rw[zy];simp;omega
 have u:Lib.decodeGo (bl (l.drop p))=dec (l.drop p):=by unfold Lib.decodeGo;rw[zv r,uG,jf,WH]
 rw[u];refine⟨λi=>?_,λi=>?_⟩;have:=h (p:Int);have A:Qd l=Tc:=n;rw[A]at this;exact this;have o:i3 (dec (l.drop p))=Tc:=by
  unfold i3;have:¬(dec (l.drop p)).2=1:=λe=>by rw[e]at i;simp at i
  simp[this]
 rw[Yq b,o]at c;simp only[Vm,if_false,XB]at c;rw[oS l p f];have y:=Yp (l.drop p);have j:=zP b;simp only[Vu]at j;exact⟨⟨trivial,by omega,c⟩,by omega⟩;have:l.drop p=[]:=VV (by(have:¬p<l.length:=by simpa using m);omega);rw[this,yP]at c;cases c
theorem NN(b:Tabs gl)(c:l.length<=4611686018427387904)(h:R (Qd l)):PC Tp gl 137 [Arg.mk .str (bl l)] [.bool] R:=by apply Iz;exact xH b c λk=>h
theorem AK(b:Tabs gl)(c:l.length<=4611686018427387904)(h:R (Qd l)):PC Tp gl 149 [Arg.mk .str (bl l)] [.bool] R:=by apply JJ;exact xH b c λk=>h
structure GL (gl:Fr):Prop where
 tabs:Tabs gl
 pow:p7 gl
 max:uD gl
 err:De gl
theorem Wv(s:Bs)(h:s.length<=1152921504606846976):(qu s).1.2.1.length<=4611686018427387904:=by
 unfold qu;split;simp;rename_i x f;have h1:=Ft f;split;simp;split;simp;simp only;generalize (if x.low=Ta then-(zu (x.exp.dropWhile (· == 48)):Int)else zu (x.exp.dropWhile (· == 48)))=e;split;simp;rename_i b;have c:(y0 (x.whole++x.rest)).length<=(x.whole++x.rest).length:=by unfold y0;rw[List.length_reverse];refine Vj (w9 _ _) ?_;rw[List.length_reverse];exact w9 _ _
 rw[Uk]at c;split;show(y0 (x.whole++x.rest)).length<=_;omega;simp
theorem zO(f:GL gl){s:Bs}(b:s.length<=1152921504606846976){R:(Bool×Bt×Int)×Bool->Prop}(h:R (nt (ku s).1,(ku s).2)):PC Tp gl 148 [Arg.mk .str (bl s)] [tN,.bool] R:=by
 apply Ni;refine Di b ?_;refine⟨λt=>t=bl (Jw (qu s).1),λ_=>E1 f.pow (Wv s b) rfl,λr c=>?_⟩;have e:(bif ((qu s).2==0)then(r.toList==(bl s).toList)else Tc)=(ku s).2:=by
  unfold ku;cases hc:((qu s).2==0)with
  |false=>rfl
  |true=>rw[c hc,zK,lS];rfl
 simp only at e ⊢;rw[e];exact h
theorem SH(n:Nat):Lib.repeatL [48] n=Vx n 48:=by
 induction n with
 |zero=>rfl
 |succ n b=>rw[Lib.repeatL,b];rfl
theorem Lb(A:GL gl){n:Nm}(E:n.2.1.length<=4611686018427387904){R:Int×Bool->Prop}(h:R (rL n)):PC Tp gl 209 [Arg.mk tN (nt n)] [.int .i64,.bool] R:=by
 apply Pw;refine wA E ?_;unfold rL at h;cases hr:jg n with
 |false=>rw[hr]at h;exact⟨λ_=>by simpa using h,λl=>by simp at l⟩
 |true=>
  obtain⟨F,D,C⟩:=CG hr;rw[hr]at h;simp only[Vz]at h;simp only[zy];rw[hH (by omega)];refine⟨λl=>?_,λl=>?_⟩;rw[zv]at h;exact h;simp at l ⊢;omega;have z:0<=n.2.2/\(n.2.1.length:Int)+n.2.2<=19:=by simp at l;omega
  rw[zA (by simp;omega)]at h;rw[<-LQ]at h;obtain⟨e,w⟩:∃e:Nat,n.2.2=(e:Int):=⟨n.2.2.toNat,by omega⟩;show PC Tp gl 200 [Arg.mk .str (bl [48]),Arg.mk (.int .i64) n.2.2] [.str] _;rw[w];refine u0 (by omega) (by rw[zy];simp;omega) ?_;rw[jf,SH,jr];have o:n.2.1++Vx e 48=Yt n:=by rw[Yt,w,Ui]
  have p:(Yt n).length<=19:=by rw[<-o];simp;omega
  have u:=QO hr;rw[o];refine⟨mY (a:=n.2.1) (by rw[V2];omega),?_⟩;rw[show(⟨#[]⟩:Bt)=bl []from rfl,show(⟨#[45]⟩:Bt)=bl [45]from rfl];simp only[jr];intro K B;have key:∀t:Bs,t=(if n.1 then [45]else [])++Yt n->K (bl t):=by
   intro t c;refine B _ ⟨λhz=>?_,λhz=>?_⟩;have r:t=[]:=by have:=lS t [];rw[this]at hz;simpa using hz
   rw[r]at c;have k:n.1=Tc:=by cases hb:n.1 <;> simp[hb]at c;rfl
   have i:Yt n=[]:=by simp[k]at c;exact c
   rw[k,i]at h;exact h;have j:t≠[]:=by intro e;rw[e,lS]at hz;simp at hz
   refine NT A.err (by rw[zy,c];split <;> simp <;> omega) ?_;rw[jf,c];have i:Yt n≠[]:=by
    intro q;cases hb:n.1 with
    |false=>rw[c,hb,q]at j;exact j rfl
    |true=>
     have y:n.2.1=[]:=by rw[Yt]at q;exact(WB.1 q).1
     have:=Jv hr y;unfold mH at this;rw[hb]at this;simp at this
   unfold wY;rw[Pm n.1 u p i];cases hb:n.1 with
   |true=>rw[hb]at h;simp only[if_true]at h ⊢;by_cases m:zu (Yt n)<=9223372036854775808;rw[zA (by omega)]at h;rw[zA m];exact⟨λf=>(by cases f),λ_=>h⟩;rw[zv (by omega)]at h;rw[zv m];exact⟨λ_=>h,λf=>(by cases f)⟩
   |false=>rw[hb]at h;simp only[Vm,if_false]at h ⊢;by_cases m:zu (Yt n)<=9223372036854775807;rw[zA (by omega)]at h;rw[zA m];exact⟨λf=>(by cases f),λ_=>h⟩;rw[zv (by omega)]at h;rw[zv m];exact⟨λ_=>h,λf=>(by cases f)⟩
  refine⟨λb=>⟨mY (a:=[45]) (by simp;omega),?_⟩,λb=>?_⟩;exact key _ (by rw[zA (by simpa using b)]);exact key _ (by rw[zv (by simpa using b)];rfl)
end
end Go.X
end
