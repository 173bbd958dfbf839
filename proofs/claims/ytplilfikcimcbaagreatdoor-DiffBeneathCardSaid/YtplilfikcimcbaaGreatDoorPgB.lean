/- A part of the proof: nothing is stated here for its own sake. -/
import Derived.Test.YtplilfikcimcbaaGreatDoorPgA
import Derived.Deep.AppendSrc
import Derived.ProofKit
import Derived.OpenShut
import Derived.ShutString
import Derived.SizedLaws
import Derived.LaidSub
import Derived.Lib.LaidU8
import Derived.Test.YtplilfikcimcbaaGreatDoorProg
import Derived.Shelf.Strings.Trim
import Derived.Shelf.Small.Bits
import Derived.Shelf.Small.Wraps
import Derived.Shelf.Strings.BuilderRune
import Derived.Shelf.Utf8.AppendRune
import Derived.Shelf.Utf8.AppendRunePlain
import Derived.Shelf.Strconv.Itoa3
import Derived.Shelf.Strconv.AtoiErr
import Derived.Shelf.Strconv.ErrVarAll
import Derived.Shelf.Strconv.ErrVarParseInt
import Derived.Shelf.Pu.ParseUintPublic10
import Derived.Shelf.Sort.Plain
import Derived.Shelf.Unicode.Decode
import Derived.Shelf.Strings.IndexAnyAll
import Derived.Shelf.Strings.Repeat
import Derived.Shelf.Unicode.DecodeLast
import Derived.Shelf.Strings.BuilderCap
import Derived.Shelf.Slices.Turned
import Derived.Shelf.Slices.Clone
import Derived.Shelf.Slices.In.SortNone
import Derived.Shelf.SlicesE.Clone
import Derived.Shelf.Utf8.RuneCount
import Derived.Shelf.Strings.Shaped
import Derived.Shelf.Strings.SplitShaped
import Derived.Shelf.Strings.RuneCount
import Derived.Shelf.Slices.Cells
import Derived.Shelf.Slices.Empties
import Derived.Shelf.Unicode.ValidAny
open _root_.Go.Addr renaming add->Tl
open _root_.Array renaming getD_eq_getD_getElem?->Uv,getElem?_append_left->U9,getElem?_eq_getElem->UA,getElem?_eq_some_iff->TD,getElem?_toList->Uh,replicate->Ve,size->TG,size_push->To,toList->Vu
open _root_.BitVec renaming ofInt->UC
open _root_.Bool renaming and_eq_true->TC,eq_iff_iff->T8,false_eq_true->Uz,or_eq_true->VC,true_and->UQ
open _root_.Go.Builtin renaming append_->TB,firstCells->U6
open _root_.Go.Code renaming cond->V0,region->V7
open _root_.Go.Deferred renaming ofValue->VL
open _root_.Go.Instr renaming next->Vn,range->VX,storeAt->Tt,sureAddr->VG
open _root_.Int renaming toNat_natCast->Tq
open _root_.Go.IntKind renaming bits->Ul,signed->V6,wrap->Tj
open _root_.List renaming all_append->VV,all_cons->V3,all_eq_true->T7,append_assoc->TR,append_nil->Uq,cons_append->Um,drop_drop->VI,drop_eq_getElem_cons->Uk,drop_eq_nil_of_le->Va,drop_zero->Vp,eq_nil_of_length_eq_zero->TT,exists_cons_of_ne_nil->Vb,ext_getElem?->Uf,flatMap_cons->UE,getD_eq_getElem?_getD->TM,getElem?_drop->Ur,getElem?_eq_getElem->Tv,getElem?_eq_none->Un,getElem?_eq_some_iff->T5,getElem?_map->Us,getElem?_take->Ud,getElem_map->US,getElem_mem->TA,length->Uw,length_append->Ts,length_cons->TI,length_drop->UJ,length_map->Tx,length_nil->Uu,length_pos_iff->UH,length_replicate->Vg,length_singleton->UG,length_take->UD,mapM_cons->VZ,map_cons->TV,mem_append->TE,mem_append_left->TF,mem_append_right->TU,mem_cons->Tz,mem_cons_of_mem->TS,mem_cons_self->TQ,mem_flatMap->Vw,mem_map->Ub,mem_of_mem_take->VJ,mem_range->Ui,nil_append->UO,pairwise_append->Vt,pairwise_cons->UM,range->TZ,replicate->UL,take_append_drop->UF,take_length->TN,take_of_length_le->UK,take_succ_cons->Vv,take_succ_eq_append_getElem->Tu
open _root_.List.cons renaming injEq->U4
open _root_.Nat renaming add_mul->UX,add_zero->VM,blt_eq->V1,eq_of_beq_eq_true->TL,eq_zero_or_pos->Vz,le_of_ble_eq_true->UU,le_refl->Tm,le_trans->Ux,lt_of_lt_of_le->U5,lt_or_ge->Up,mul_comm->VA,mul_le_mul_right->TX,mul_one->Uj,not_lt_zero->UZ,one_mul->V4,zero_add->TJ,zero_le->TK
open _root_.Go.Next renaming value->VF
open _root_.Go.Op renaming bytesLess->U2
open _root_.Option renaming bind_some->U0,map_eq_some_iff->U1
open _root_.Option.some renaming inj->TY,injEq->Tn
open _root_.Prod.mk renaming injEq->Uy
open _root_.Pure renaming pure->VD
open _root_.Go.Proofs.Tryz renaming prog->T6,underlying5->VN
open _root_.UInt8 renaming ofNat->Vj
open _root_.Go.Utf8 renaming decode->V9
open _root_.Go.Value renaming int->UB,string->TH
open _root_.Go.Value.slice renaming injEq->Ua
set_option linter.unusedVariables false
set_option maxRecDepth 100000
namespace Go.X
end Go.X
namespace Go.Proofs
end Go.Proofs
open Go Go.X Go.Proofs
open _root_.Bool renaming true->Ta,false->Tc
open _root_.Option renaming some->Td,none->Te
section
namespace Go.X
section
variable {M gl:Fr} {u:Value} {P:Program} {f:FuncId} {γ:Gh} {cs C R:CS} {o:Oper} {σ:Operand -> Value} {h:za} {tr:TypeId}
variable {h0 : za} {W : Nat -> Prop} {M0 : Fr}
def fR:Ty->Bool
 |.tree=>Ta
 |.unit=>Ta
 |.pair _ _=>Ta
 |_=>Tc
def RdV(M:Fr)(t:Ty)(x:El t)(u:Value):Prop:=if fR t=Ta then ∃cs:List Value,u=.agg cs.toArray/\Rd M t x cs else Rd M t x [u]
theorem RdV.mono{M M':Fr}(c:Fr.le M M'){t:Ty}{x:El t}(h:RdV M t x u):RdV M' t x u:=by unfold RdV at *;by_cases b:fR t=Ta;rw[zA b]at *;grind [Rd.mono];rw[zv b]at *;exact Rd.mono c h
structure Arg where
 t:Ty
 x:El t
def We(M:Fr)(l:List Arg)(vs:List Value):Prop:=All2 (λ(a:Arg) u=>RdV M a.t a.x u) l vs
@[reducible] def hG:List Ty->Type
 |[]=>Unit
 |[t]=>El t
 |t::t'::l=>El t×hG (t'::l)
def AK:(l:List Ty)->hG l
 |[]=>()
 |[t]=>pH t
 |t::t'::l=>(pH t,AK (t'::l))
def tM(M:Fr):(l:List Ty)->hG l->List Value->Prop
 |[],_,us=>us=[]
 |[t],x,us=>∃u,us=[u]/\RdV M t x u
 |t::t'::l,x,us=>∃u b,us=u::b/\RdV M t x.1 u/\tM M (t'::l) x.2 b
def Yg(M:Fr)(l:List Ty)(x:hG l)(v:Value):Prop:=∃us,tM M l x us/\v=kj us
def PC(P:Program)(gl:Fr)(f:FuncId)(args:List Arg)(c:List Ty)(R:hG c->Prop):Prop:=
 ∀(h:za) (M:Fr) (vs:List Value),Fr.le gl M->AgM M h->We M args vs->XC P f vs.toArray h λv h'=>
  Keep h.size h h'/\∃M' r,Fr.le M M'/\(∀b,b<h.size->M' b=M b)/\AgM M' h'/\Yg M' c r v/\R r
theorem PC.mono{args:List Arg}{b:List Ty}{R c:hG b->Prop}(H:PC P gl f args b R)(o:∀r,R r->c r):PC P gl f args b c:= λh M vs h1 i j=>(H h M vs h1 i j).mono λv h' ⟨k,M',r,l,p,m,n,e⟩=>⟨k,M',r,l,p,m,n,o r e⟩
theorem RdV.bd{t:Ty}{x:El t}(h:RdV M t x u):Bd t x:=by unfold RdV at h;split at h;obtain⟨cs,_,h⟩:=h;exact h.bd;exact h.bd
theorem PC.bd{args:List Arg}{e:List Ty}{R:hG e->Prop}(H:(∀a∈args,Bd a.t a.x)->PC P gl f args e R):PC P gl f args e R:=by
 intro h M vs h1 j c;refine H ?_ h M vs h1 j c;clear H h1 j;induction args generalizing vs with
 |nil=>simp
 |cons a args k=>
  cases vs with
  |nil=>exact c.elim
  |cons u us=>intro b i;rcases Tz.1 i with rfl|i;exact RdV.bd c.1;exact k us c.2 b i
def qM(t:Ty)(x:El t):AG:=bif fR t then .agg (Ya t x)else(match Ya t x with
 |[y]=>.a y
 |l=>.agg l)
theorem ue{t:Ty}{x:El t}(h:RdV γ.M t x u):DenG γ (qM t x) u:=by
 unfold RdV at h;unfold qM;split at h;rename_i c;rw[c];obtain⟨cs,e,h⟩:=h;exact⟨cs,e,j7 h⟩;rename_i c;have f:fR t=Tc:=by simpa using c
 rw[f];simp only[zL];have b:=j7 (γ:=γ) h
 match hx:Ya t x,b with
 |[y],b=>exact b.1
 |[],b=>exact b.elim
 |_::_::_,b=>exact b.2.elim
def rT:(l:List Ty)->hG l->List AG
 |[],_=>[]
 |[t],x=>[qM t x]
 |t::t'::l,x=>qM t x.1::rT (t'::l) x.2
theorem AW{γ:Gh}:∀{l:List Ty} {x:hG l} {us:List Value},tM γ.M l x us->All2 (DenG γ) (rT l x) us
 |[],_,_,h=>by rw[h];trivial
 |[_],_,_,⟨u,e,h⟩=>by rw[e];exact⟨ue h,trivial⟩
 |_::_::_,_,_,⟨u,us,e,h,h'⟩=>by rw[e];exact⟨ue h,AW h'⟩
def pN(l:List Ty)(x:hG l):AV:=match rT l x with
 |[g]=>.g g
 |gs=>.tup gs
theorem SU{l:List Ty}{x:hG l}{v:Value}(h:Yg γ.M l x v):DenV γ (pN l x) v:=by
 obtain⟨us,h,rfl⟩:=h;have b:=AW (γ:=γ) h;unfold pN;generalize rT l x=gs at *
 match gs,us,b with
 |[],[],_=>exact⟨[],rfl,trivial⟩
 |[g],[u],b=>exact b.1
 |g::g'::gs,u::u'::us,b=>exact⟨_,rfl,b⟩
 |[],_::_,b=>exact b.elim
 |_::_,[],b=>exact b.elim
 |[_],_::_::_,b=>exact b.2.elim
 |_::_::_,[_],b=>exact b.2.elim
def qI(P:Program)(tr:TypeId):Nat->TypeId->Option Ty
 |0,_=>Te
 |n+1,t=>bif Nat.beq t tr then Td .tree else match P.underlying t with
  |some (.int k)=>Td (.int k)
  |some .bool=>Td .bool
  |some .string=>Td .str
  |some (.slice e)=>match qI P tr n e with
   |some x=>Td (.row x)
   |none=>Te
  |some (.struct fs)=>tysOf P (λt=>qI P tr n t) fs.toList
  |some (.interface _)=>Td .err
  |_=>Te
where tysOf (P:Program) (f:TypeId->Option Ty):List Field->Option Ty
 |[]=>Td .unit
 |[x]=>f x.type
 |x::y::l=>match f x.type,tysOf P f (y::l)with
  |some a,some b=>Td (.pair a b)
  |_,_=>Te
def ui(P:Program)(tr:TypeId):List TypeId->Option (List Ty)
 |[]=>Td []
 |t::l=>match qI P tr 8 t,ui P tr l with
  |some a,some b=>Td (a::b)
  |_,_=>Te
def Fl:AA->List Nat
 |.own c=>[c]
 |_=>[]
def oJ:List AA->List Nat
 |[]=>[]
 |x::l=>Fl x++oJ l
def LZ:AV->List Nat
 |.g (.a x)=>Fl x
 |.g (.agg l)=>oJ l
 |_=>[]
def Wg:List AV->List Nat
 |[]=>[]
 |v::l=>LZ v++Wg l
def frzL:List Nat->CS->CS
 |[],C=>C
 |c::l,C=>frzL l (nh c C)
theorem Inv.frzL{C R:CS}{γ:Gh}{h:za}:∀(l:List Nat) {C:CS} {γ:Gh},Inv h0 W M0 (C++R) γ h->∃γ',Inv h0 W M0 (frzL l C++R) γ' h/\Gx Te γ γ'
 |[],C,γ,I=>⟨γ,I,Gx.refl _ _⟩
 |c::l,C,γ,I=>by obtain⟨j,f,g1⟩:=Inv.freeze c C [] I;obtain⟨b,e,g2⟩:=Inv.frzL (C:=C) (γ:=γ) l f;exact⟨b,e,g1.1.trans g2.1,λi hi=>⟨(g2.2 i hi).1.trans (g1.2 i hi).1,(g2.2 i hi).2.trans (g1.2 i hi).2⟩⟩
def pX(cs:CS)(t:Ty):AV->Option (El t)
 |.g (.agg l)=>bif fR t then(match collect cs t l with
  |some (y,[])=>Td y
  |_=>Te)else Te
 |.g (.a x)=>bif fR t then Te else lh cs t x
 |_=>Te
theorem vL(c:kU γ cs){t:Ty}{av:AV}{y:El t}(h:pX cs t av=Td y)(b:DenV γ av u):RdV γ.M t y u:=by
 unfold pX at h;unfold RdV;split at h;rename_i l;cases ha:fR t with
 |false=>simp_all
 |true=>
  rw[ha]at h;simp only[zK]at h;split at h;rename_i m j;simp only[Tn]at h;subst h;obtain⟨us,e,f⟩:=b;obtain⟨c1,c2,rfl,k,i⟩:=Yc c j f;cases c2 with
  |nil=>simp_all
  |cons _ _=>exact i.elim
  cases h
 rename_i x;cases ha:fR t with
 |true=>simp_all
 |false=>rw[ha]at h;simp only[Uz,if_false];exact y0 c h b
 cases h
def jb(cs:CS):List Ty->List AV->Option (List Arg)
 |[],[]=>Td []
 |t::ts,v::vs=>match pX cs t v,jb cs ts vs with
  |some x,some l=>Td (⟨t,x⟩::l)
  |_,_=>Te
 |_,_=>Te
theorem Qu{γ:Gh}{cs:CS}(b:kU γ cs):∀{ts:List Ty} {vs:List AV} {l:List Arg},jb cs ts vs=Td l->∀{us:List Value},All2 (DenV γ) vs us->We γ.M l us
 |[],[],l,h,[],_=>by simp only[jb,Tn]at h;subst h;trivial
 |[],[],_,_,_::_,hd=>hd.elim
 |t::ts,v::vs,l,h,[],hd=>hd.elim
 |t::ts,v::vs,l,h,u::us,hd=>by simp only[jb]at h;split at h;rename_i x e h1 c;simp only[Tn]at h;subst h;exact⟨vL b h1 hd.1,Qu b c hd.2⟩;cases h
 |[],_::_,_,h,_,_=>by simp[jb]at h
 |_::_,[],_,h,_,_=>by simp[jb]at h
def oH(ρ:Operand->Option AV):List Operand->Option (List AV)
 |[]=>Td []
 |x::l=>match ρ x,oH ρ l with
  |some v,some vs=>Td (v::vs)
  |_,_=>Te
theorem uP{γ:Gh}{ρ:Operand->Option AV}{σ:Operand->Value}(b:∀x av,ρ x=Td av->DenV γ av (σ x)):∀{l:List Operand} {vs:List AV},oH ρ l=Td vs->All2 (DenV γ) vs (l.map σ)
 |[],vs,h=>by simp only[oH,Tn]at h;subst h;trivial
 |x::l,vs,h=>by simp only[oH]at h;split at h;rename_i v e h1 c;simp only[Tn]at h;subst h;exact⟨b _ _ h1,uP b c⟩;cases h
def ExA(P:Program)(s:Sem Next)(h:za)(Post:Value->za->Prop):Prop:=∀B d,
 (∃v b h',s.run P (mk B d h)=.ok (.value v) (mk B b h')/\Post v h') \/
 (∃b h',s.run P (mk B d h)=.ok .skip (mk B b h')/\Post undef h') \/
 (∃f args,s.run P (mk B d h)=.ok (.enter f args) (mk B d h)/\XC P f args h Post)
theorem ExA.upon{Post:Value->za->Prop}(H:ExA P (execOp σ o) h Post)(B:World)(d:Nat){a:Act}{next:Act->World->Prop}{Q:Exit->Act->World->Prop}
  (i:∀v c h',Post v h'->next (a.put o.dst v) (mk B c h')):o.upon P a next Q ((execOp σ o).run P (mk B d h)):=by
 rcases H B d with⟨v,c,h',e,b⟩|⟨c,h',e,b⟩|⟨f,args,e,j⟩;exact upon_value e (i _ _ _ b);exact upon_skip e (i _ _ _ b);rw[e];refine(j B d).mono ?_;simp_all
def jT(h0:za)(W:Nat->Prop)(M0:Fr)(R:CS)(γ:Gh)(K:AV->CS->Option Nat->Prop)(v:Value)(h':za):Prop:=
 ∃av b c γ',K av b c/\DenV γ' av v/\Inv h0 W M0 (b++R) γ' h'/\Gx c γ γ'
theorem uA(b:Fr.le gl M0){ρ:Operand->Option AV}{K:AV->CS->Option Nat->Prop}(H:qA P gl o ρ Te (C++R) λav=>K av C Te)(I:Inv h0 W M0 (C++R) γ h)
  (f:∀x av,ρ x=Td av->DenV γ av (σ x)):ExA P (execOp σ o) h (jT h0 W M0 R γ K):=by
 obtain⟨av,h1,i⟩:=tT (h0:=h0) (W:=W) (M0:=M0) b H;obtain⟨v,c,e⟩:=i trivial γ h σ I f;exact λB d=>.inl ⟨v,d,h,e B d,av,C,Te,γ,h1,c,I,Gx.refl _ _⟩
def rG:Operand->Option FuncId
 |.func f=>Td f
 |_=>Te
def Gf(P:Program)(tr:TypeId)(f:FuncId):Option (List Ty×List Ty):=match P.funcs[f]? with
 |some fn=>match ui P tr fn.params.toList,ui P tr fn.resultTypes.toList with
  |some a,some b=>Td (a,b)
  |_,_=>Te
 |none=>Te
def uj(P:Program)(gl:Fr)(tr:TypeId)(o:Oper)(ρ:Operand->Option AV)(C R:CS)(K:AV->CS->Prop):Prop:=
 match o.op with
 |.call c=>match c.callee with
  |.value x=>match rG x with
   |some f=>bif zj P f then(match Gf P tr f,oH ρ c.args.toList with
    |some (ts,rt),some vs=>match jb (frzL (Wg vs) C++R) ts vs with
     |some args=>PC P gl f args rt λr=>K (pN rt r) (frzL (Wg vs) C)
     |none=>False
    |_,_=>False)else False
   |none=>False
  |_=>False
 |_=>False
def vr(P:Program)(gl:Fr)(tr:TypeId)(o:Oper)(ρ:Operand->Option AV)(b:Bool)(cs:CS)(K:AV->Prop):Prop:=
 match o.op with
 |.call c=>match c.callee with
  |.value x=>match rG x with
   |some f=>bif zj P f then(match Gf P tr f,oH ρ c.args.toList with
    |some (ts,rt),some vs=>match jb cs ts vs with
     |some args=>∃J:hG rt->Prop,(b=Ta->PC P gl f args rt J)/\∀r,(b=Ta->J r)->K (pN rt r)
     |none=>False
    |_,_=>False)else False
   |none=>False
  |_=>False
 |_=>False
theorem Gb{x:Operand}(h:rG x=Td f):x=.func f:=by unfold rG at h;grind
theorem Fq{c:Call}(e:o.op=.call c)(i:c.callee=.value (.func f))(b:zj P f=Ta)(h:σ (.func f)=.func (.func f) #[] #[])(w:World):
  (execOp σ o).run P w=.ok (.enter f (c.args.map σ)) w:=by
 simp only[execOp,e,resolve,i,h,VL,Sem.run_bind,Sem.run_pure,Result.andThen_ok,invoke];rw[J4 b];simp
theorem Aw(c:Fr.le gl M0){args:List Arg}{b:List Ty}{i:hG b->Prop}(H:PC P gl f args b i)(I:Inv h0 W M0 cs γ h){us:List Value}(m:We γ.M args us):
  XC P f us.toArray h λv h'=>∃r γ',i r/\DenV γ' (pN b r) v/\Inv h0 W M0 cs γ' h'/\Gx Te γ γ'/\Keep h.size h h':=
 (H h γ.M us (c.trans I.le) I.ag m).mono λv h' ⟨k,M',r,e,o,l,n,j⟩=>
  ⟨r,{ γ with M:=M' },j,SU (γ:={ γ with M:=M' }) n,I.call k e o l,⟨e,λ_ _=>⟨rfl,rfl⟩⟩,k⟩
theorem It(l:Fr.le gl M0){ρ:Operand->Option AV}{K:AV->CS->Option Nat->Prop}(H:uj P gl tr o ρ C R λav n=>K av n Te)(I:Inv h0 W M0 (C++R) γ h)
  (E:∀f,σ (.func f)=.func (.func f) #[] #[]) (D:∀x av,ρ x=Td av->DenV γ av (σ x)):ExA P (execOp σ o) h (jT h0 W M0 R γ K):=by
 unfold uj at H;split at H;rename_i c w;split at H;rename_i x A;split at H;rename_i f t;cases hcal:zj P f with
 |false=>simp_all
 |true=>
  rw[hcal]at H;simp only[zK]at H;split at H;rename_i ts G vs L k;split at H;rename_i args b;intro B d;have e:=Gb t;subst e;obtain⟨J,m,g1⟩:=Inv.frzL (C:=C) (γ:=γ) (Wg vs) I;have F:=Qu m.fz b ((uP D k).imp λv _ u y=>y.gx g1 rfl);refine .inr (.inr ⟨f,c.args.map σ,Fq w A hcal (E f) _,?_⟩);have q:c.args.map σ=(c.args.toList.map σ).toArray:=by rw[<-Array.toList_map]
  rw[q];refine(Aw l H m F).mono ?_;rintro v h' ⟨r,γ',h1,p,z,j,_⟩;exact⟨_,_,Te,γ',h1,p,z,g1.1.trans j.1,λi hi=>⟨(j.2 i hi).1.trans (g1.2 i hi).1,(j.2 i hi).2.trans (g1.2 i hi).2⟩⟩;exact H.elim;exact H.elim
 exact H.elim;exact H.elim;exact H.elim
theorem C6{ρ:Operand->Option AV}{b:Bool}{K:AV->Prop}(H:vr P gl tr o ρ b cs K):(b=Tc->∃av,K av) /\
  (b=Ta->Fr.le gl M0->∀γ h σ,Inv h0 W M0 cs γ h->(∀f,σ (.func f)=.func (.func f) #[] #[])->(∀x av,ρ x=Td av->DenV γ av (σ x))->∃f args,(∀w,(execOp σ o).run P w=.ok (.enter f args) w) /\ XC P f args h λv h'=>∃av γ',K av/\DenV γ' av v/\Inv h0 W M0 cs γ' h'/\Gx Te γ γ'/\Keep h.size h h'):=by
 unfold vr at H;split at H;rename_i c p;split at H;rename_i x t;split at H;rename_i f m;cases hcal:zj P f with
 |false=>simp_all
 |true=>
  rw[hcal]at H;simp only[zK]at H;split at H;rename_i ts n vs z j;split at H;rename_i args i;obtain⟨J,h1,q⟩:=H;refine⟨λl=>⟨_,q (AK n) (λh=>by simp_all)⟩,λl k γ h σ I y u=>?_⟩;have e:=Gb m;subst e;refine⟨f,c.args.map σ,λw=>Fq p t hcal (y f) w,?_⟩;have r:c.args.map σ=(c.args.toList.map σ).toArray:=by rw[<-Array.toList_map]
  rw[r];refine(Aw k (h1 l) I (Qu I.fz i (uP u j))).mono ?_;grind;exact H.elim;exact H.elim
 exact H.elim;exact H.elim;exact H.elim
end
section
variable {P:Program} {t:TypeId} {o:Oper} {d:Nat} {C R:CS} {γ:Gh} {h:za} {σ:Operand -> Value} {av:AV}
variable {h0 : za} {W : Nat -> Prop} {M0 : Fr}
def xE(P:Program)(t:TypeId)(d:Nat)(C R:CS)(K:AV->CS->Option Nat->Prop):Prop:=match zeroOf P t with
 |some z=>bif Zd d R then(bif jN (z.cells.toList.map .v)then False else K (.g (.a (.box d 0))) ((d,.box (z.cells.toList.map .v))::yb d C) (Td d))else False
 |none=>False
theorem BI(c:Nat):∀l:List Value,jV c (l.map .v)=Tc
 |[]=>rfl
 |_::l=>by simp only[TV,jV,mf,zL,BI c l]
theorem D8(t:TypeId)(v:Value)(B:World)(d:Nat)(h:za):(newVar t v).run P (mk B d h)=.ok ⟨h.size,0,Te⟩ (mk B d (h.push (.cells v.cells t))):=rfl
theorem MV(b:o.op=.alloc t){K:AV->CS->Option Nat->Prop}(H:xE P t d C R K)(I:Inv h0 W M0 (C++R) γ h):ExA P (execOp σ o) h (jT h0 W M0 R γ K):=by
 unfold xE at H;split at H
 ·rename_i z hz;cases hR:Zd d R with
  |false=>simp_all
  |true=>
   rw[hR]at H;cases hit:jN (z.cells.toList.map .v)with
   |true=>simp_all
   |false=>
   rw[hit]at H;intro B e;refine .inl ⟨.pointer (Td ⟨h.size,0,Te⟩),e,h.push (.cells z.cells t),?_,_,_,_,kL γ d h.size,H,?_,?_,nS _ _ _⟩;have f:=vT hz h B e;simp only[execOp,b];refine jc ?_;unfold Instr.alloc;simp_all[Sem.run_bind,Result.andThen_ok,D8];simp only[DenV,DenG,DenA,Yd];have:=I.newBox (c:=d) hR (Yf γ z.cells.toList) (BI d _) hit t;omega
 exact H.elim
def nc(t:TypeId)(d:Nat)(l:List AA)(C R:CS)(K:AV->CS->Option Nat->Prop):Prop:=
 bif Zd d R then(bif jV d l then False else(bif jN l then False else K (.g (.a (.box d 0))) ((d,.box l)::yb d C) (Td d)))else False
theorem Lx{x:Operand}(b:o.op=.box t x){l:List AA}{K:AV->CS->Option Nat->Prop}(H:nc t d l C R K)(I:Inv h0 W M0 (C++R) γ h)
  (f:All2 (DenA γ) l (σ x).cells.toList):ExA P (execOp σ o) h (jT h0 W M0 R γ K):=by
 unfold nc at H;cases hR:Zd d R with
 |false=>simp_all
 |true=>
  rw[hR]at H;cases hm:jV d l with
  |true=>simp_all
  |false=>
   rw[hm]at H;cases hit:jN l with
   |true=>simp_all
   |false=>
   rw[hit]at H;intro B e;refine .inl ⟨.pointer (Td ⟨h.size,0,Te⟩),e,h.push (.cells (σ x).cells t),?_,_,_,_,kL γ d h.size,H,?_,?_,nS _ _ _⟩;simp only[execOp,b];refine jc ?_;unfold Instr.box;rw[Sem.run_bind,D8];rfl;simp only[DenV,DenG,DenA,Yd];have:=I.newBox (c:=d) hR f hm hit t;omega
def uC:AA->Bool
 |.v x=>x.oneCell'
 |_=>Ta
def pm:List AA->Bool
 |[]=>Ta
 |x::l=>bif uC x then pm l else Tc
theorem Hd{x:AA}{u:Value}(h:uC x=Ta)(j:DenA γ x u):u.oneCell'=Ta:=by
 cases x with
 |v y=>rw[show u=y from j];exact h
 |d t y=>exact Rd.one (show Rd γ.M t y [u]from j) u (by simp)
 |box c o=>rw[show u=_ from j];rfl
 |own c=>rw[show u=_ from j];rfl
 |oelt c z i o=>obtain⟨g,_,e⟩:=j;rw[e];rfl
 |elt t y o=>obtain⟨b,f,cs,e,_⟩:=j;rw[e];rfl
 |dc t xs=>obtain⟨s,e,_⟩:=j;rw[e];rfl
theorem FI{γ:Gh}:∀{l:List AA} {us:List Value},pm l=Ta->All2 (DenA γ) l us->∀u∈us,u.oneCell'=Ta
 |[],[],_,_,u,b=>by cases b
 |[],_::_,_,h,_,_=>h.elim
 |_::_,[],_,h,_,_=>h.elim
 |x::l,v::us,h,hd,u,b=>by
  simp only[pm]at h;cases hx:uC x with
  |false=>simp_all
  |true=>rw[hx]at h;rcases Tz.1 b with rfl|b;exact Hd hx hd.1;exact FI h hd.2 u b
def ko(c:Nat):CS->Bool
 |[]=>Ta
 |(j,_)::l=>bif Nat.beq j c then Tc else ko c l
theorem Xd{c:Nat}:∀{l:CS},ko c l=Ta->∀x∈l,x.1≠c
 |[],_,x,b=>by cases b
 |(j,k)::l,h,x,b=>by
  simp only[ko]at h;cases hb:Nat.beq j c with
  |true=>simp_all
  |false=>rw[hb]at h;rcases Tz.1 b with rfl|b;intro e;simp_all;exact Xd h x b
theorem yD{P:Program}{g o:Nat}:∀(vs:List Value) (i:Nat) (w:World),(storeCells ⟨g,o,Te⟩ vs i).run P w=(storeCells ⟨g,0,Te⟩ vs (o+i)).run P w
 |[],i,w=>rfl
 |v::vs,i,w=>by unfold storeCells;rw[Sem.run_bind,Sem.run_bind,zd,zd,TJ];congr 1;funext a w';exact yD vs (i+1) w'
theorem Z6{n:Nat}(hi:qm P t=Ta)(i:y8 P t=n){b o:Nat}{cs:Array Value}{T:TypeId}(e:h[b]?=Td (.cells cs T (0,0))){v:Value}(l:v.cells.size=n)(m:o+n<=cs.size)(h1:∀u∈v.cells.toList,u.oneCell'=Ta)(B:World)(d:Nat):
  ∃h',(Tt t (.pointer (Td ⟨b,o,Te⟩)) v).run P (mk B d h)=.ok () (mk B d h')/\h'[b]?=Td (.cells (cs.toList.take o++v.cells.toList++cs.toList.drop (o+n)).toArray T (0,0))/\h'.size=h.size/\∀j,j≠b->h'[j]?=h[j]?:=by
 obtain⟨h',f,p,c,k⟩:=Qt (P:=P) B d v.cells.toList (o+0) h cs e (by simp;omega) h1;refine⟨h',?_,by grind,c,k⟩;have hz:=QExec.sizeOf (P:=P) (h:=h) (y9 hi).choose_spec B d;unfold Tt VG;simp only[Sem.run_bind,Sem.run_pure,Result.andThen_ok];unfold storeVar;rw[Sem.run_bind,hz];simp only[Result.andThen_ok];rw[i,l];simp only[ne_eq,not_true_eq_false,if_false];rw[yD];exact f
theorem Zr{α:Type}{L vs:List α}{p:Nat}(h:p+vs.length<=L.length)(q:Nat):(L.take p++vs++L.drop (p+vs.length))[q]?=if q<p then L[q]? else if q<p+vs.length then vs[q-p]? else L[q]?:=by grind
theorem RowC.set{M:Fr}{t:Ty}{xs:List (El t)}{cells:List Value}(H:RowC M t xs cells){i:Nat}(hi:i<xs.length){y:El t}{o:Nat}{vs:List Value}(n:o+vs.length<=sz t) (p:Rd M t y ((((cells.drop (i*sz t)).take (sz t)).take o)++vs++(((cells.drop (i*sz t)).take (sz t)).drop (o+vs.length)))):
  RowC M t (xs.set i y) (cells.take (i*sz t+o)++vs++cells.drop (i*sz t+o+vs.length)):=by
 have c:(i+1)*sz t<=cells.length:=by rw[H.1];exact TX _ hi
 rw[UX,V4]at c;have m:((cells.drop (i*sz t)).take (sz t)).length=sz t:=by rw[UD,UJ];omega
 refine⟨?_,λj h=>?_⟩;rw[List.length_set,<-H.1];grind;rw[List.length_set]at h;by_cases b:i=j;subst b;rw[List.getElem_set_self];have e:(((cells.take (i*sz t+o)++vs++cells.drop (i*sz t+o+vs.length)).drop (i*sz t)).take (sz t))=(((cells.drop (i*sz t)).take (sz t)).take o)++vs++(((cells.drop (i*sz t)).take (sz t)).drop (o+vs.length)):=by apply Uf;intro k;rw[Zr (by omega),Ud,Ud,Ur,Ur,Zr (by omega)];by_cases f:k<sz t;grind;grind
 grind;rw[List.getElem_set_ne b];have e:(((cells.take (i*sz t+o)++vs++cells.drop (i*sz t+o+vs.length)).drop (j*sz t)).take (sz t))=(cells.drop (j*sz t)).take (sz t):=by
  apply Uf;intro k;rw[Ud,Ud,Ur,Ur,Zr (by omega)];by_cases f:k<sz t;simp only[f,if_true];rcases Up j i with h1|h1;have:(j+1)*sz t<=i*sz t:=TX _ h1;grind;have l:i+1<=j:=by omega
  have:(i+1)*sz t<=j*sz t:=TX _ l;grind;grind
 rw[e];exact H.2 j h
theorem Inv.setRow{h h':za}(I:Inv h0 W M0 (C++R) γ h){c:Nat}{e:TypeId}{t:Ty}{xs k:List (El t)}(w:(c,Ch.row e t xs)∈C){g:Nat}(l:(γ.σ c).a.map (·.block)=Td g)
  (E:∀i,i≠g->h'[i]?=h[i]?) (H:h'.size=h.size) (z:DenC h0.size γ h' c (.row e t k)) (L:∀x∈R,x.1≠c):Inv h0 W M0 ((c,.row e t k)::ir c C++R) γ h':=by
 have u:=I.sep _ (TF R w) g l;have p:∀x∈ir c C++R,blk γ x.1 x.2≠Td g:=by
  intro x j;have o:x≠(c,Ch.row e t xs):=by rintro rfl;rcases TE.1 j with j|j;exact(Qm j).2 rfl;grind
  have n:x∈C++R:=((wl c C).append_right R).subset j;have B:=@qB _ (λ(x y:Nat×Ch)=>∀b,blk γ x.1 x.2=Td b->blk γ y.1 y.2≠Td b) (λx y h b f q=>h b q f) _ I.apart;intro f;exact B (TF R w) n (λe=>o e.symm) _ l f
 have D:Inv h0 W M0 (ir c C++R) γ h':=by refine I.rest ((wl c C).append_right R) (c:=Te) (Gx.refl _ _) (λx _=>⟨by simp,rfl⟩) (λx j b f=>?_) (λb A F=>?_) (λi hi G=>?_) (by omega) (λb f=>rfl);exact⟨E b λr=>p x j (r ▸ f),(I.sep x (((wl c C).append_right R).subset j) b f).2⟩;obtain⟨J,m,r⟩:=I.ag b A F;grind;grind
 refine D.cons z (λb f=>?_) (λb f x j=>?_);simp only[blk,l,Tn]at f;grind;simp only[blk,l,Tn]at f;simp_all
def yH(P:Program)(t:TypeId)(f:AA)(b:List AA)(C R:CS)(K:AV->CS->Option Nat->Prop):Prop:=
 bif qm P t then(bif Nat.beq b.length (y8 P t)then(bif pm b then(match f with
 |.box c o=>match Yb C c with
  |some (.box l)=>bif ko c R then(bif (bif jN l then Ta else jN (l.take o++b++l.drop (o+b.length)))then False else(bif Nat.ble (o+b.length) l.length then K (nQ undef) ((c,.box (l.take o++b++l.drop (o+b.length)))::ir c C) Te else False))else False
  |_=>False
 |.oelt c z i o=>match Yb (frzL (oJ b) C) c with
  |some (.row e ty xs)=>bif ko c R then(bif Nat.beq z (sz ty)then(bif Nat.ble (o+b.length) (sz ty)then ∃y:El ty,xs[i]?=Td y/\(match collect (frzL (oJ b) C++R) ty ((Ya ty y).take o++b++(Ya ty y).drop (o+b.length))with
   |some (y',[])=>K (nQ undef) ((c,.row e ty (xs.set i y'))::ir c (frzL (oJ b) C)) Te
   |_=>False)else False)else False)else False
  |_=>False
 |_=>False)else False)else False)else False
theorem JY{a x:Operand}(ho:o.op=.store t a x){aa:AA}{f:List AA}{K:AV->CS->Option Nat->Prop}(H:yH P t aa f C R K)(I:Inv h0 W M0 (C++R) γ h)
  (A:All2 (DenA γ) f (σ x).cells.toList) (ha:DenA γ aa (σ a)):ExA P (execOp σ o) h (jT h0 W M0 R γ K):=by
 unfold yH at H;cases hi:qm P t with
 |false=>grind
 |true=>
  rw[hi]at H;cases hn:Nat.beq f.length (y8 P t)with
  |false=>simp_all
  |true=>
   rw[hn]at H;cases hok:pm f with
   |false=>simp_all
   |true=>
    rw[hok]at H;have M:f.length=y8 P t:=TL hn;have r:(σ x).cells.size=y8 P t:=by rw[<-M,A.length];simp
    have h1:=FI hok A;simp only[zK]at H;split at H
    ·rename_i c off;split at H
     ·rename_i l Y;cases hR:ko c R with
      |false=>simp_all
      |true=>
       rw[hR]at H;cases hit:jN l with
       |true=>simp_all
       |false=>
       rw[hit]at H;cases hit2:jN (l.take off++f++l.drop (off+f.length))with
       |true=>simp_all
       |false=>
       rw[hit2]at H;simp only[zK,zL]at H;cases hble:Nat.ble (off+f.length) l.length with
       |false=>grind
       |true=>
        rw[hble]at H;have ah:=UU hble;obtain⟨us,e,O⟩:=I.den _ (TF R (zx Y));rcases e with⟨⟨T,e⟩,_⟩|⟨s,p,e,_⟩;case inr=>grind [tw]
        have au:=O.length;intro B d;obtain⟨h',r1,r2,r3,r4⟩:=Z6 (P:=P) hi rfl e (o:=off) r (by simp;omega) h1 B d;refine .inr (.inl ⟨d,h',?_,_,_,_,γ,H,Wb _ _,?_,Gx.refl _ _⟩);simp only[execOp,ho];rw[show σ a=_ from ha];exact oC r1;refine I.setBox (zx Y) (us:=us.take off++(σ x).cells.toList++us.drop (off+f.length)) (.inl ⟨⟨T,?_⟩,λs p=>tw hit2 (((O.take off).append A).append (O.drop _)) s p⟩) r4 r3 ?_ (Xd hR);rw[r2,M];exact((O.take off).append A).append (O.drop _)
     exact H.elim
    rename_i c z i off;split at H;rename_i e ty xs Y;cases hR:ko c R with
    |false=>simp_all
    |true=>
     rw[hR]at H;cases hz:Nat.beq z (sz ty)with
     |false=>simp_all
     |true=>
      rw[hz]at H;cases hble:Nat.ble (off+f.length) (sz ty)with
      |false=>grind
      |true=>
       rw[hble]at H;simp only[zK]at H;obtain⟨y,hy,H⟩:=H;split at H;rename_i y' Q;have ah:=UU hble;obtain⟨γ1,I1,g1⟩:=Inv.frzL (C:=C) (γ:=γ) (oJ f) I;have D:=ha.gx g1 rfl;have ab:=DenL.gx (c:=Te) g1 rfl A;rw[TL hz]at D;obtain⟨g,hg,af⟩:=D;have n:=zx Y;obtain⟨cells,q,b,m,j⟩:=I1.den _ (TF R n);simp only at q b m j;have w:i<xs.length:=(T5.1 hy).1;have ai:xs[i]=y:=(T5.1 hy).2;rcases q.2 with⟨hv,ar⟩|⟨g',cap,J,hv,aj,ac,ak,G,ae,u⟩;omega;simp only[Ua]at hv;have al:g'=g:=by have:=hv.1;rw[hg]at this;simp only[Tn,Addr.mk.injEq]at this;exact this.1.symm
       subst al;have E:cells.length=xs.length*sz ty:=b.1;have F:(i+1)*sz ty<=xs.length*sz ty:=TX _ w;rw[UX,V4]at F;have Z:xs.length*sz ty<=cap*sz ty:=TX _ (by omega);have am:(σ x).cells.toList.length=f.length:=A.length.symm;intro B d;obtain⟨h',r1,r2,r3,r4⟩:=Z6 (P:=P) hi rfl ac (o:=i*sz ty+off) r (by rw[ae];omega) h1 B d;refine .inr (.inl ⟨d,h',?_,_,_,_,γ1,H,Wb _ _,?_,g1⟩);simp only[execOp,ho];rw[af];exact oC r1;refine I1.setRow n (g:=g') (by rw[hg];rfl) r4 r3 ?_ (Xd hR);have hE:=b.2 i w;rw[ai]at hE;have S:=j7 (γ:=γ1) hE;have V:=((S.take off).append ab).append (S.drop (off+f.length));obtain⟨c1,c2,e1,r5,r6⟩:=Yc I1.fz Q V;cases c2 with
       |cons _ _=>exact r6.elim
       |nil=>
        rw[Uq]at e1;rw[<-e1]at r5;have N:=b.set w (o:=off) (vs:=(σ x).cells.toList) (by omega) (by rw[am];exact r5);refine⟨_,⟨?_,.inr ⟨g',cap,_,by simp[hv],aj,r2,ak,G,?_,?_⟩⟩,N,by grind,by grind⟩;grind;grind;apply Uf;intro k;have U:(σ x).cells.toList.length=y8 P t:=by simpa using r
        rw[Ud,<-U];simp only;rw[Zr (L:=cells) (by omega)];have an:cells=J.toList.take (xs.length*sz ty):=by rw[<-u,j]
        rw[Zr (L:=J.toList) (by grind),an,j];grind
       exact H.elim
    exact H.elim;exact H.elim
def iH(s:Bt)(p:Nat):Bool:=Nat.blt p s.size
def iA(s:Bt)(p:Nat):Nat:=bif Nat.blt p s.size then p+(V9 s p).2 else p
def jO(s:Bt)(p:Nat):Int:=((V9 s p).1:Int)
def wV(P:Program)(t:TypeId)(av:AV)(d:Nat)(C R:CS)(K:AV->CS->Option Nat->Prop):Prop:=match av,P.underlying t with
 |.g (.a (.v (.string s))),Td .string=>bif Zd d R then K (.g (.a (.box d 0))) ((d,.box [.d .iter (s,0)])::yb d C) (Td d)else False
 |_,_=>False
theorem KD{x:Operand}(f:o.op=.range t x){K:AV->CS->Option Nat->Prop}(H:wV P t av d C R K)(I:Inv h0 W M0 (C++R) γ h)
  (b:DenV γ av (σ x)):ExA P (execOp σ o) h (jT h0 W M0 R γ K):=by
 unfold wV at H;split at H;rename_i s j;cases hR:Zd d R with
 |false=>simp_all
 |true=>rw[hR]at H;intro B e;refine .inl ⟨.pointer (Td ⟨h.size,0,Te⟩),e,h.push (.stringIter s 0),?_,_,_,_,kL γ d h.size,H,?_,?_,nS _ _ _⟩;simp only[execOp,f,show σ x=.string s from b];refine jc ?_;have i:=QExec.underlying (h:=h) j B e;unfold VX;rw[Sem.run_bind,i];rfl;simp only[DenV,DenG,DenA,Yd];exact Inv.newBoxO (c:=d) I hR (l:=[.d .iter (s,0)]) (us:=[xd s 0]) ⟨rfl,trivial⟩ rfl (.inr ⟨s,0,rfl,rfl⟩)
 exact H.elim
def wx(av:AV)(C R:CS)(K:AV->CS->Option Nat->Prop):Prop:=match av with
 |.g (.a (.box c 0))=>match Yb C c with
  |some (.box [.d .iter x])=>bif ko c R then K (.nx (iH x.1 x.2) (x.2:Int) (jO x.1 x.2)) ((c,.box [.d .iter (x.1,iA x.1 x.2)])::ir c C) Te else False
  |_=>False
 |_=>False
theorem If{x:Operand}(t:o.op=.next x Ta){K:AV->CS->Option Nat->Prop}(H:wx av C R K)(I:Inv h0 W M0 (C++R) γ h)
  (E:DenV γ av (σ x)):ExA P (execOp σ o) h (jT h0 W M0 R γ K):=by
 unfold wx at H;split at H;rename_i c;split at H;rename_i y f;cases hR:ko c R with
 |false=>simp_all
 |true=>
  rw[hR]at H;simp only[zK]at H;obtain⟨us,ob,k⟩:=I.den _ (TF R (zx f));have m:us=[xd y.1 y.2]:=by
   match us,k with
   |[u],k=>have F:Rd γ.M .iter y [u]:=k.1;simpa[Rd]using F
  subst m;have b:h[γ.β c]?=Td (.stringIter y.1 y.2):=by
   rcases ob with⟨_,e⟩|⟨s,p,D,J⟩;grind;have L:y.1=s/\y.2=p:=by simp only[xd,U4,Value.iface.injEq,Value.agg.injEq,Array.mk.injEq,Value.string.injEq,Value.int.injEq,and_true,true_and]at D;exact⟨D.1,by omega⟩
   grind
  have j:γ.β c<h.size:=(TD.1 b).1;intro B d;have r:∀(w:World),w.heap[γ.β c]?=Td (.stringIter y.1 y.2)->(getObj (γ.β c)).run P w=.ok (.stringIter y.1 y.2) w:=λw e=>by simp[getObj,Sem.run,e]
  have G:∀(w:World) (q:Obj),w.heap[γ.β c]?=Td (.stringIter y.1 y.2)->(setObj (γ.β c) q).run P w=.ok () { w with heap:=w.heap.setIfInBounds (γ.β c) q }:=λw q e=>by simp[setObj,Sem.run,e]
  have z:σ x=.pointer (Td ⟨γ.β c,0,Te⟩):=E;by_cases l:y.2<y.1.size;have n:iH y.1 y.2=Ta:=by simpa[iH,V1]using l
  have A:iA y.1 y.2=y.2+(V9 y.1 y.2).2:=by unfold iA;rw[show Nat.blt y.2 y.1.size=Ta from n];rfl
  refine .inl ⟨.tuple #[.bool Ta,.int .i64 y.2,.int .i32 (jO y.1 y.2)],d,h.setIfInBounds (γ.β c) (.stringIter y.1 (iA y.1 y.2)),?_,_,_,_,γ,H,⟨λ_=>rfl,λf=>by simp_all⟩,?_,Gx.refl _ _⟩;simp only[execOp,t,z];refine jc ?_;unfold Vn;simp only;rw[Sem.run_bind,r _ b];simp only[Result.andThen_ok,l,if_true];rw[Sem.run_bind,G _ _ b,A];rfl;refine I.setBox (zx f) (us:=[xd y.1 (iA y.1 y.2)]) (.inr ⟨_,_,rfl,by simp[j]⟩) (λi hi=>by grind) (by simp) ⟨rfl,trivial⟩ (Xd hR);have n:iH y.1 y.2=Tc:=by
   cases h:iH y.1 y.2 with
   |false=>rfl
   |true=>exact absurd (by simpa[iH,V1]using h) l
  have A:iA y.1 y.2=y.2:=by unfold iA;rw[show Nat.blt y.2 y.1.size=Tc from n];rfl
  refine .inl ⟨.tuple #[.bool Tc],d,h,?_,_,_,_,γ,H,⟨λf=>(by simp_all),λ_=>rfl⟩,?_,Gx.refl _ _⟩;simp only[execOp,t,z];refine jc ?_;unfold Vn;simp only;rw[Sem.run_bind,r _ b];simp;omega;refine I.setBox (zx f) (us:=[xd y.1 (iA y.1 y.2)]) (.inr ⟨_,_,rfl,by grind⟩) (λi hi=>rfl) rfl ⟨rfl,trivial⟩ (Xd hR)
 exact H.elim;exact H.elim
end
section
variable {P:Program} {tr t tx e ty:TypeId} {n d m b:Nat} {C R:CS} {γ:Gh} {h:za} {z u:Value} {xs news:List Value}
variable {h0 : za} {W : Nat -> Prop} {M0 : Fr}
def pA(cs:CS)(t:Ty):Nat->List AA->Option (List (El t)×List AA)
 |0,l=>Td ([],l)
 |n+1,l=>match collect cs t l with
  |some (y,l')=>match pA cs t n l' with
   |some (ys,l'')=>Td (y::ys,l'')
   |none=>Te
  |none=>Te
theorem CC{γ:Gh}{cs:CS}(c:kU γ cs){t:Ty}:∀{n:Nat} {l b:List AA} {ys:List (El t)},pA cs t n l=Td (ys,b)->∀{us:List Value},All2 (DenA γ) l us->∃c1 c2,us=c1++c2/\RowC γ.M t ys c1/\ys.length=n/\All2 (DenA γ) b c2
 |0,l,b,ys,h,us,hu=>by simp only[pA,Tn,Uy]at h;obtain⟨rfl,rfl⟩:=h;exact⟨[],us,rfl,RowC.nil _ _,rfl,hu⟩
 |n+1,l,b,ys,h,us,hu=>by simp only[pA]at h;split at h;rename_i y r h1;split at h;rename_i e u i;simp only[Tn,Uy]at h;obtain⟨rfl,rfl⟩:=h;obtain⟨c1,c2,rfl,j,o⟩:=Yc c h1 hu;obtain⟨k,q,rfl,f,p,m⟩:=CC c i o;exact⟨c1++k,q,by simp,by simpa using (RowC.single j).append f,by simp[p],m⟩;cases h;cases h
def Be(P:Program)(el:TypeId)(k:Nat):Option (List Value):=bif Nat.beq k 0 then Td []else(match zeroOf P el with
 |some z=>Td ((Array.range k).map (z.cells[· % z.cells.size]!)).toList
 |none=>Te)
def sc:List (Nat×AV)->List AV
 |[]=>[]
 |(_,v)::l=>v::sc l
def uD(P:Program)(tr:TypeId)(t:TypeId)(n:Nat)(ps:List (Nat×AV))(d:Nat)(C R:CS)(K:AV->CS->Option Nat->Prop):Prop:=
 match oa P t with
 |some el=>match qI P tr 8 el,Be P el (n*y8 P el)with
  |some ty,some zs=>bif Nat.beq (y8 P el) (sz ty)then(bif Nat.ble (n*y8 P el) 16777216 then(bif Nat.blt 0 (y8 P el)then(bif Zd d R then(match nL (λi=>Td (i*y8 P el,y8 P el)) (zs.map .v) ps with
   |some r=>match pA (frzL (Wg (sc ps)) C++R) ty n r with
    |some (ys,[])=>K (.g (.a (.own d))) ((d,.row el ty ys)::yb d (frzL (Wg (sc ps)) C)) (Td d)
    |_=>False
   |none=>False)else False)else False)else False)else False
  |_,_=>False
 |none=>False
theorem Pb{c:Array (Nat×Operand)}{o:Oper}(Y:o.op=.buildSlice t n c){ps:List (Nat×AV)}{ρ:Operand->Option AV}(G:mR ρ c.toList=Td ps){K:AV->CS->Option Nat->Prop}
  (H:uD P tr t n ps d C R K) {σ:Operand->Value} (I:Inv h0 W M0 (C++R) γ h) (hρ:∀x av,ρ x=Td av->DenV γ av (σ x)):ExA P (execOp σ o) h (jT h0 W M0 R γ K):=by
 unfold uD at H;split at H
 ·rename_i el A;obtain⟨hu,J⟩:=t7 A;split at H
  ·rename_i ty u aa f;cases hz:Nat.beq (y8 P el) (sz ty)with
   |false=>simp_all
   |true=>
   rw[hz]at H;cases hb1:Nat.ble (n*y8 P el) 16777216 with
   |false=>simp_all
   |true=>
   rw[hb1]at H;cases hb2:Nat.blt 0 (y8 P el)with
   |false=>simp_all
   |true=>
   rw[hb2]at H;cases hR:Zd d R with
   |false=>simp_all
   |true=>
   rw[hR]at H;simp only[zK]at H;split at H
   ·rename_i r Z;split at H
    ·rename_i ys D;obtain⟨k,O,g1⟩:=Inv.frzL (C:=C) (γ:=γ) (Wg (sc ps)) I;have M:∀x av,ρ x=Td av->DenV k av (σ x):=λx av hx=>(hρ x av hx).gx g1 rfl;obtain⟨ws,e1,U⟩:=xO Z (Yf k u) (vt M G);obtain⟨c1,c2,rfl,N,Q,V⟩:=CC O.fz D U;cases c2 with
     |cons _ _=>exact V.elim
     |nil=>
     rw[Uq]at *;have E:=TL hz;have l:0<y8 P el:=by simpa[V1]using hb2
     have ab:n*y8 P el<=16777216:=UU hb1;have hn:n<=n*y8 P el:=Nat.le_mul_of_pos_right _ l;have ac:c1.length=n*y8 P el:=by rw[N.1,Q,E]
     intro B e;refine .inl ⟨.slice (Td ⟨h.size,0,Te⟩) n n,e,h.push (.cells c1.toArray el),?_,_,_,_,i9 k d ⟨Td ⟨h.size,0,Te⟩,n,n⟩,H,?_,?_,?_⟩;have y:=QExec.underlying (h:=h) hu B e;have hs:=QExec.sizeOf (P:=P) (h:=h) (y9 J).choose_spec B e;have T:(c.map λx=>(x.1,σ x.2)).toList=c.toList.map λx=>(x.1,σ x.2):=by rw[Array.toList_map]
     have S:Instr.fill (λi=>Td (i*y8 P el,y8 P el)) u.toArray (c.map λx=>(x.1,σ x.2)).toList=Td c1.toArray:=by rw[T];exact e1
     simp only[execOp,Y];refine jc ?_;unfold Instr.buildSlice;rw[Sem.run_bind,y];simp only[Result.andThen_ok];rw[Sem.run_bind,hs];simp only[Result.andThen_ok];rw[zv (by omega)];unfold Be at f;by_cases j:n*y8 P el=0;rw[zA j];rw[j]at f ⊢;simp at f;subst f;simp only[Sem.run_bind,Sem.run_pure,Result.andThen_ok];have m:Array.map (λx=>(#[]:Array Value)[x % (#[]:Array Value).size]!) (Array.range 0)=([]:List Value).toArray:=by simp
     rw[m,S];rfl;rw[zv j];have w:Nat.beq (n*y8 P el) 0=Tc:=by
      cases hh:Nat.beq (n*y8 P el) 0 with
      |false=>rfl
      |true=>simp_all
     rw[w]at f;simp only[zL]at f;split at f;rename_i z L;have F:=vT L h B e;simp only[Tn]at f;rw[Sem.run_bind,F];simp only[Result.andThen_ok,Sem.run_bind,Sem.run_pure];have m:Array.map (λx=>z.cells[x % z.cells.size]!) (Array.range (n*y8 P el))=u.toArray:=by rw[<-f]
     rw[m,S];rfl;cases f;simp only[DenV,DenG,DenA,qk];rfl;refine O.newRow hR (by simp) (p:=Te) (λi hi _=>by grind) (λb w=>by cases w) (cells:=c1) ⟨by grind,.inr ⟨h.size,n,c1.toArray,rfl,I.size,qj _ _,Tm _,by unfold maxLen;omega,by simp_all,?_⟩⟩ (λq y=>.inr (by cases y;rfl)) N (by omega) Q.symm;grind;exact⟨g1.1,λi hi=>⟨((Ze k d _).2 i hi).1.trans (g1.2 i (by simp)).1,((Ze k d _).2 i hi).2.trans (g1.2 i (by simp)).2⟩⟩
    exact H.elim
   exact H.elim
  exact H.elim
 exact H.elim
theorem Yh{n sz:Nat}{s:Sl}{cells:List Value}(k:Arr n h s.a cells)(f:cells.length=s.len*sz)(c:0<sz)(B:World)(d:Nat):
  (U6 sz s.len (.slice s.a s.len s.cap)).run P (mk B d h)=.ok cells.toArray (mk B d h):=by
 rcases k with rfl|⟨b,o,e,_,l⟩;have h0:s.len=0:=by rcases Vz s.len with h0|h0;exact h0;have:=Nat.mul_pos h0 c;grind
 rw[h0];cases s.a with
 |none=>simp[U6]
 |some p=>simp[U6,loadCells,loadCellsFrom]
 rw[e];exact run_firstCells_some (mk B d h) sz s.len ⟨b,o,Te⟩ s.len s.cap cells f λj u i=>by rw[zd];exact l j u i
theorem Fj{n sz:Nat}{s:Sl}{cells:List Value}(e:Arr n h s.a cells)(c:cells.length=s.len*sz)(b:0<sz)(h1:∀u∈cells,u.oneCell'=Ta){tx f:TypeId}(i:P.underlying tx=Td (.slice f))(B:World)(d:Nat):
  Src P sz tx (aK s) s.len cells (mk B d h):=
 ⟨.inl ⟨f,i⟩,λ_=>rfl,Yh e c b B d,Yh e c b B (d+1),c,h1⟩
theorem zZ{g o:Nat}{b:Array Value}{T:TypeId}(c:h[g]?=Td (.cells b T (0,0))){vs:List Value}(k:o+vs.length<=b.size)(h1:∀u∈vs,u.oneCell'=Ta)(B:World)(d:Nat):
  ∃h',(storeCells ⟨g,o,Te⟩ vs 0).run P (mk B d h)=.ok () (mk B d h')/\h'[g]?=Td (.cells (b.toList.take o++vs++b.toList.drop (o+vs.length)).toArray T (0,0))/\h'.size=h.size/\∀j,j≠g->h'[j]?=h[j]?:=by
 obtain⟨h',l,e,i,f⟩:=Qt (P:=P) B d vs (o+0) h b c (by omega) h1;grind [yD]
theorem yR{sz bytes:Nat}(T:ElemT P t e z sz bytes){base:Nat}{s:Sl}(j:xs.length=s.len*sz)(k:∀B d,(U6 sz s.len (aK s)).run P (mk B d h)=.ok xs.toArray (mk B d h)) {x:Value} (y:∀B d,Src P sz tx x m news (mk B d h)) (b:(s.len+m)*bytes<=140737488355328) (u:s.len+m<=140737488355328) (p:base<=h.size) (A:s.cap<s.len+m) (B:World) (d:Nat):
  ∃c blk,(TB #[t,tx] ty #[aK s,x]).run P (mk B d h)=.ok (.slice (Td ⟨h.size,0,Te⟩) (s.len+m) c) (mk B (d+1) (h.push (.cells blk e)))/\s.len+m<=c/\c<=maxLen/\blk.size=c*sz/\blk.toList.take ((s.len+m)*sz)=xs++news:=by
 obtain⟨i,hi,hz,q,n⟩:=T.info;subst q;subst n;have r:=y B d;have f:=r.newsLen;have w:=run_append_grow_src (P:=P) (mk B d h) t tx ty e i z T.slice hi hz s.a s.len s.cap xs (k B (d+1)) x m news r A (by omega) (growslice_fits (by omega) b);have l:=grownCap_ge (mk B d h) (s.len+m) s.cap e;have o:=grownCap_le_maxLen (mk B d h) (s.len+m) s.cap e (by unfold maxLen;omega);generalize grownCap (mk B d h) (s.len+m) s.cap e=c at *;refine⟨c,_,w,l,o,?_,?_⟩;simp only[Array.size_append,List.size_toArray,size_zeroCells,Ts,T.zero,j,f,<-UX];grind;simp only[Array.toList_append];have:(xs++news).length=(s.len+m)*i.size:=by rw[Ts,j,f,UX]
 grind
theorem Y1{sz bytes:Nat}(T:ElemT P t e z sz bytes){h h':za}{s:Sl}{x:Value}{B:World}(c:Src P sz tx x m news (mk B d h))(b:s.len+m<=s.cap)
  (j:∀p,s.a=Td p->(storeCells (p.add (s.len*sz)) news 0).run P (mk B d h)=.ok () (mk B d h')) (f:s.a=Te->h'=h):(TB #[t,tx] ty #[aK s,x]).run P (mk B d h)=.ok (.slice s.a (s.len+m) s.cap) (mk B d h'):=by
 obtain⟨i,hi,hz,n,o⟩:=T.info;subst n;have l:=T.slice;unfold aK;rcases c.kind with⟨q,k⟩|k;cases ha:s.a with
 |none=>rw[f ha];simp[TB,run_underlying l,run_underlying k,sizeOf,typeInfo,hi,c.len,b,c.cells]
 |some p=>simp[TB,run_underlying l,run_underlying k,sizeOf,typeInfo,hi,c.len,b,c.cells,j p ha]
 cases ha:s.a with
 |none=>rw[f ha];simp[TB,run_underlying l,run_underlying k,sizeOf,typeInfo,hi,c.len,b,c.cells]
 |some p=>simp[TB,run_underlying l,run_underlying k,sizeOf,typeInfo,hi,c.len,b,c.cells,j p ha]
theorem Xe{sz bytes:Nat}(T:ElemT P t e z sz bytes){base:Nat}{s:Sl}(H:Owns h base e sz s xs){x:Value}(V:∀B d,Src P sz tx x m news (mk B d h)) (k:(s.len+m)*bytes<=140737488355328) (r:s.len+m<=140737488355328) (f:base<=h.size) {K:Value->za->Prop} (I:∀(C:Sl) (h':za),C.len=s.len+m->Owns h' base e sz C (xs++news)->(∀i,i<h.size->(∀p,s.a=Td p->i≠p.block)->h'[i]?=h[i]?)->h.size<=h'.size->(∀q,C.a=Td q->(∃p,s.a=Td p/\q.block=p.block)\/q.block=h.size)->K (aK C) h'):
  XRun P (TB #[t,tx] ty #[aK s,x]) h K:=by
 intro B d;have D:=V B d;have w:=D.newsLen;have l:=H.1;have u:=H.arr;by_cases b:s.len+m<=s.cap;rcases H.2 with⟨A,aa⟩|⟨g,cap,J,A,M,hg,ab,F,O,n⟩;simp only[Ua]at A;obtain⟨Z,e2,e3⟩:=A;have hm:m=0:=by omega
 subst hm;have Y:news=[]:=TT (by simpa using w);subst Y;have y:=Y1 (P:=P) (ty:=ty) T (s:=s) (h':=h) D b (λp hp=>by simp_all) (λ_=>rfl);refine⟨_,d,h,y,I ⟨s.a,s.len+0,s.cap⟩ h rfl ?_ (λ_ _ _=>rfl) (Tm _) (λq j=>by simp_all)⟩;simp;omega;simp only[Ua]at A;obtain⟨Z,_,e3⟩:=A;have G:h[g]?=Td (.cells J e (0,0)):=hg;have Q:(s.len+m)*sz<=cap*sz:=TX _ (by omega);rw[UX]at Q;obtain⟨h',r1,r2,r3,r4⟩:=zZ (P:=P) G (o:=s.len*sz) (vs:=news) (by rw[O];omega) D.one B d;have y:=Y1 (P:=P) (ty:=ty) T (s:=s) (h':=h') D b (λp hp=>by simp_all[zd,TJ]) (λY=>by simp_all);refine⟨_,d,h',y,I ⟨s.a,s.len+m,s.cap⟩ h' rfl ⟨?_,.inr ⟨g,cap,_,?_,M,r2,(by simp_all),F,?_,?_⟩⟩ (λi hi E=>r4 i λe'=>E _ Z e') (by omega) (λq j=>.inl ⟨q,j,rfl⟩)⟩;grind;grind;grind;simp only;rw[n];have:(xs++news).length=(s.len+m)*sz:=by rw[Ts,l,w,UX]
 grind;obtain⟨c,blk,y,U,N,S,L⟩:=yR (P:=P) (ty:=ty) (base:=base) T l (λB d=>Yh u l T.pos B d) V k r f (by omega) B d;refine⟨_,d+1,_,y,I ⟨Td ⟨h.size,0,Te⟩,s.len+m,c⟩ _ rfl ⟨?_,.inr ⟨h.size,c,blk,rfl,f,qj _ _,U,N,S,L⟩⟩ (λi hi _=>by grind) (by simp) (λq j=>.inr (by cases j;rfl))⟩;grind
def lU(s:Bt):List Int:=s.data.toList.map λb=>(b.toNat:Int)
def AH:(ty:Ty)->Bt->Option (List (El ty))
 |.int .u8,s=>Td (lU s)
 |_,_=>Te
def vC(P:Program)(cs:CS)(tx:TypeId)(ty:Ty):AV->Option (List (El ty))
 |.g (.a (.v (.string s)))=>match P.underlying tx with
  |some .string=>AH ty s
  |_=>Te
 |.g (.a (.v (.slice Te 0 0)))=>match P.underlying tx with
  |some (.slice _)=>Td []
  |_=>Te
 |.g (.a aa)=>match P.underlying tx with
  |some (.slice _)=>match rowOf cs aa with
   |some r=>Qg (.row r.1) (.row ty) r.2
   |none=>match aa with
    |.own c=>match Yb cs c with
     |some (.row _ t xs)=>Qg (.row t) (.row ty) xs
     |_=>Te
    |_=>Te
  |_=>Te
 |_=>Te
theorem RowC.bytes(M:Fr)(s:Bt):RowC M (.int .u8) (lU s) (byteCells s):=by
 have c:(byteCells s).length=(lU s).length:=by unfold byteCells lU;simp
 refine⟨by rw[c];simp[sz],λi hi=>?_⟩;have b:i<(byteCells s).length:=by rw[c];exact hi
 have e:(byteCells s)[i]=.int .u8 (lU s)[i]:=by simp only[byteCells,lU,US]
 have f:((byteCells s).drop (i*1)).take 1=[(byteCells s)[i]]:=by rw[Uj,Uk b];rfl
 show((byteCells s).drop (i*1)).take 1=[.int .u8 (lU s)[i]];rw[f,e]
theorem Yi{t t':Ty}{xs:List (El t)}{ys:List (El t')}(h:Qg (.row t) (.row t') xs=Td ys):∃e:t=t',ys=e ▸ xs:=by unfold Qg at h;grind
theorem KO{cs:CS}(I:Inv h0 W M0 cs γ h){ty:Ty}{av:AV}{ys:List (El ty)}(b:vC P cs tx ty av=Td ys)(m:0<sz ty)(o:DenV γ av u):
  ∃news,RowC γ.M ty ys news/\∀B d,Src P (sz ty) tx u ys.length news (mk B d h):=by
 have row:∀{t:Ty} {xs:List (El t)} {n:Nat} {s:Sl} {cells:List Value} {p:TypeId},Qg (.row t) (.row ty) xs=Td ys->P.underlying tx=Td (.slice p)->u=aK s->s.len=xs.length->RowC γ.M t xs cells->Arr n h s.a cells ->
   ∃news,RowC γ.M ty ys news/\∀B d,Src P (sz ty) tx u ys.length news (mk B d h):=by
  intro t xs n s cells p q i e k l A;obtain⟨z,w⟩:=Yi q;subst z;simp only at w;subst w;refine⟨cells,l,λB d=>?_⟩;rw[e,<-k];exact Fj A (by rw[k];exact l.1) m l.one i B d
 unfold vC at b;split at b
 ·rename_i s;split at b
  ·rename_i i;unfold AH at b;split at b;case h_2=>cases b
   simp only[Tn]at b;subst b;refine⟨byteCells s,RowC.bytes _ s,λB d=>?_⟩;rw[show u=.string s from o];have:=Src.ofString (P:=P) (mk B d h) i s;have e:(lU s).length=s.size:=by unfold lU;rw[Tx,Array.length_toList];rfl
   rw[e];exact this
  cases b
 split at b;rename_i p i;simp only[Tn]at b;subst b;refine⟨[],RowC.nil _ _,λB d=>?_⟩;rw[show u=.slice Te 0 0 from o];exact Src.ofNil (mk B d h) i 0;cases b;rename_i C _ _;split at b;rename_i p i;split at b;rename_i r l;obtain⟨s,e,k,y,cells,f,x⟩:=(qS I l o).rowC I.ag;grind;split at b;rename_i c _ _ _;split at b;rename_i e t xs q;obtain⟨cells,j,f,y,k⟩:=I.den _ (zx q);exact row b i (show u=aK _ from o) k f j.arr;cases b;cases b;cases b;cases b
def uB(P:Program)(el:TypeId)(ty:Ty):Option Nat:=match P.info? el with
 |some i=>match i.zero with
  |some z=>bif (bif Nat.beq i.size (sz ty)then(bif Nat.beq z.cells.size i.size then(bif Nat.blt 0 i.size then Nat.blt 0 i.bytes else Tc)else Tc)else Tc)then Td i.bytes else Te
  |none=>Te
 |none=>Te
theorem QR{t el:TypeId}{ty:Ty}(e:P.underlying t=Td (.slice el))(h:uB P el ty=Td b):(∃z,ElemT P t el z (sz ty) b)/\0<b:=by
 unfold uB at h;split at h
 ·rename_i i hi;split at h
  ·rename_i z hz;cases h1:Nat.beq i.size (sz ty)with
   |false=>simp_all
   |true=>
   cases h2:Nat.beq z.cells.size i.size with
   |false=>simp_all
   |true=>
   cases h3:Nat.blt 0 i.size with
   |false=>simp_all
   |true=>
   cases h4:Nat.blt 0 i.bytes with
   |false=>simp_all
   |true=>
   rw[h1,h2,h3,h4]at h;simp only[zK,Tn]at h;have c:=TL h1;have f:=TL h2;have j:0<i.size:=by simpa[V1]using h3
   have k:0<i.bytes:=by simpa[V1]using h4
   exact⟨⟨z,e,⟨i,hi,hz,c,h⟩,by rw[f,c],by omega⟩,by omega⟩
  cases h
 cases h
def xG(P:Program)(tr:TypeId)(t tx:TypeId)(bv f:AV)(d:Nat)(C R:CS)(K:AV->CS->Option Nat->Prop):Prop:=
 match oa P t with
 |some el=>match qI P tr 8 el with
  |some ty=>match uB P el ty,vC P (C++R) tx ty f with
   |some b,some ys=>match bv with
    |.g (.a (.v (.slice Te 0 0)))=>bif Zd d R then(ys.length*b<=140737488355328/\K (.g (.a (.own d))) ((d,.row el ty ys)::yb d C) (Td d))else False
    |.g (.a (.own c))=>match Yb C c with
     |some (.row e t' xs)=>match Qg (.row t') (.row ty) xs with
      |some xs=>bif Nat.beq e el then(bif Zd d R then((xs.length+ys.length)*b<=140737488355328/\K (.g (.a (.own d))) ((d,.row el ty (xs++ys))::yb d (ir c C)) (Td d))else False)else False
      |none=>False
     |_=>False
    |.g (.a (.dc t' xs))=>match Qg (.row t') (.row ty) xs with
     |some xs=>(xs.length+ys.length)*b<=140737488355328/\K (.g (.a (.d (.row ty) (xs++ys)))) C Te
     |none=>False
    |_=>False
   |_,_=>False
  |none=>False
 |none=>False
theorem vD{n b k:Nat}(c:0<b)(h:n*b<=k):n<=k:=Ux (Nat.le_mul_of_pos_right _ c) h
theorem LV{tr t tx ty':TypeId}{bv sv:AV}{K:AV->CS->Option Nat->Prop}(H:xG P tr t tx bv sv d C R K)(I:Inv h0 W M0 (C++R) γ h)
  {u v:Value} (Q:DenV γ bv u) (ar:DenV γ sv v):XRun P (TB #[t,tx] ty' #[u,v]) h (jT h0 W M0 R γ K):=by
 unfold xG at H;split at H
 ·rename_i el ak;obtain⟨hu,aA⟩:=t7 ak;split at H
  ·rename_i ty az;split at H
   ·rename_i b ys n al;obtain⟨⟨z,T⟩,E⟩:=QR hu n;obtain⟨news,r,A⟩:=KO I al T.pos ar;split at H
    ·cases hR:Zd d R with
     |false=>rw[hR]at H;exact H.elim
     |true=>
     rw[hR]at H;obtain⟨D,U⟩:=H;rw[show u=aK ⟨Te,0,0⟩from Q];have J:=vD E D;refine Xe T (Owns.nil h h0.size el (sz ty)) A (by simpa using D) (by simpa using J) I.size λs' h' hl w hk hs L=>?_;rw[UO]at w;simp only[TJ]at hl;refine⟨_,_,_,i9 γ d s',U,?_,I.newRow hR hs (p:=Te) (λi hi _=>hk i hi (by simp)) (λb n=>by cases n) w (λq hq=>?_) r J hl,Ze _ _ _⟩;simp only[DenV,DenG,DenA,qk];simp_all
    ·rename_i c;split at H
     ·rename_i e t' au hc;split at H
      ·rename_i xs k;cases hee:Nat.beq e el with
       |false=>rw[hee]at H;exact H.elim
       |true=>
       rw[hee]at H;cases hR:Zd d R with
       |false=>rw[hR]at H;exact H.elim
       |true=>
       rw[hR]at H;obtain⟨D,U⟩:=H;have J:=vD E D;have F:=zx hc;obtain⟨e1,e2⟩:=Yi k;subst e1;simp only at e2;subst e2;have e3:=TL hee;subst e3;have ab:=I.den _ (TF R F);obtain⟨cells,l,f,ah,G⟩:=ab;simp only at l f G;rw[show u=aK (γ.σ c)from Q];refine Xe T l A (by grind) (by omega) I.size λs' h' hl w hk hs L=>?_;have Y:=I.sep _ (TF R F);have ay:=vx hR;have am:Inv h0 W M0 (ir c C++R) γ h:=I.sub ((wl c C).append_right R);refine⟨_,_,_,i9 γ d s',U,?_,am.newRow hR hs (p:=(γ.σ c).a.map (·.block)) (λi hi O=>hk i hi λp L e=>O (by rw[L,e];rfl)) (λb n=>?_) w (λq hq=>?_) (f.append r) (by simp_all) (by simp_all),Ze _ _ _⟩;simp only[DenV,DenG,DenA,qk];obtain⟨h1,h2⟩:=Y b n;refine⟨?_,h2,λx Z af=>?_⟩;simp only[U1]at n;obtain⟨p,L,rfl⟩:=n;exact(l.base_le p L).1;have ai:x∈C++R:=((wl c C).append_right R).subset Z;have O:x≠(c,Ch.row e t' xs):=by rintro rfl;rcases TE.1 Z with Z|Z;exact(Qm Z).2 rfl;have aF:=I.apart;grind
       have L:=@qB _ (λ(x y:Nat×Ch)=>∀b,blk γ x.1 x.2=Td b->blk γ y.1 y.2≠Td b) (λx y h b n aa=>h b aa n) _ I.apart;exact L ai (TF R F) O b af n;grind
      exact H.elim
     exact H.elim
    rename_i t' au;split at H;rename_i xs k;obtain⟨D,U⟩:=H;have J:=vD E D;obtain⟨e1,e2⟩:=Yi k;subst e1;simp only at e2;subst e2;obtain⟨s,e,aG,ac⟩:=(show ∃s:Sl,u=aK s/\s.cap=s.len/\Rd γ.M (.row t') xs [u]from Q);subst e;obtain⟨s2,e,G,ah,cells,f,V⟩:=ac.rowC I.ag;have e':s=s2:=by cases s;cases s2;simp only[aK,Ua]at e;simp[e]
    subst e';have N:cells.length=s.len*sz t':=by rw[G];exact f.1
    intro B dr;by_cases hm:ys.length=0;have an:ys=[]:=TT hm;subst an;have ax:news=[]:=TT (by rw[r.1];simp);subst ax;have hr:=Y1 (P:=P) (ty:=ty') T (s:=s) (h':=h) (A B dr) (by simp;omega) (λp L=>by simp[storeCells]) (λ_=>rfl);refine⟨_,dr,h,hr,_,C,Te,γ,U,?_,I,Gx.refl _ _⟩;rw[Uq];exact ac;obtain⟨c,j,hr,aH,aD,aE,aC⟩:=yR (P:=P) (ty:=ty') (base:=0) T N (λB d=>Yh V N T.pos B d) A (by grind) (by omega) (TK _) (by omega) B dr;have aB:γ.M h.size=Te:=I.ag.none (Tm _);have hM:Fr.le γ.M (iR γ h.size j).M:=by
     intro b cc S;have:Nat.beq b h.size=Tc:=by
      cases n:Nat.beq b h.size with
      |false=>rfl
      |true=>simp_all
     simp[iR,this,S]
    have aj:AgM (iR γ h.size j).M (h.push (.cells j el)):=by
     intro b cc S;by_cases n:b=h.size;subst n;have:cc=j:=by simp[iR]at S;exact S.symm
     simp_all;have:Nat.beq b h.size=Tc:=by
      cases aa:Nat.beq b h.size with
      |false=>rfl
      |true=>simp_all
     simp only[iR,this,zL]at S;obtain⟨T',m,e'⟩:=I.ag b cc S;grind
    refine⟨_,dr+1,_,hr,_,C,Te,iR γ h.size j,U,?_,I.call (Keep.push h _ (Tm _)) hM (λb n=>?_) aj,⟨hM,λ_ _=>⟨rfl,rfl⟩⟩⟩;have ae:=((f.append r).mono hM).rd (b:=h.size) (o:=0) (c:=c) (cs:=j) (by simp[iR]) (by simp_all) (by simp_all);rw[Ts,<-G]at ae;exact ae;grind [TL];exact H.elim;exact H.elim
   exact H.elim
  exact H.elim
 exact H.elim
end
section
variable {cs C R:CS} {γ b:Gh} {h:za} {u:Value} {P:Program} {o:Oper} {σ:Operand -> Value} {n:Nat} {gl:Fr} {tr:TypeId} {c:qf} {a:Act} {S:List Nat}
variable {h0 : za} {W : Nat -> Prop} {M0 : Fr}
def rK(b:List Int):Bt:=b.foldl (λr n=>r.push (Vj n.toNat)) ByteArray.empty
def HQ(t:Ty)(xs:List (El t)):Option (List Int):=Qg (.row t) (.row (.int .u8)) xs
def sE(cs:CS):AA->Option ((t:Ty)×List (El t))
 |.own c=>match Yb cs c with
  |some (.row _ t xs)=>Td ⟨t,xs⟩
  |some (.fz t xs)=>Td ⟨t,xs⟩
  |_=>Te
 |aa=>rowOf cs aa
theorem Cg(I:Inv h0 W M0 cs γ h){n:AA}{r:(t:Ty)×List (El t)}(b:sE cs n=Td r)(j:DenA γ n u):
  ∃s:Sl,u=aK s/\s.len=r.2.length/\∃cells,RowC γ.M r.1 r.2 cells/\Arr h.size h s.a cells:=by
 unfold sE at b;split at b;split at b;rename_i c e t xs l;simp only[Tn]at b;subst b;obtain⟨cells,f,i,m,k⟩:=I.den _ (zx l);exact⟨_,j,k,cells,i,f.arr⟩;rename_i c t xs l;simp only[Tn]at b;subst b;have:Rd γ.M (.row t) xs [u]:=by rw[show u=_ from j];exact I.den _ (zx l)
 obtain⟨s,e,k,m,cells,h1,o⟩:=this.rowC I.ag;grind;cases b;obtain⟨s,e,k,m,cells,h1,o⟩:=(qS I b j).rowC I.ag;grind
def yA(P:Program)(s t:TypeId)(av:AV)(cs:CS)(K:AV->Prop):Prop:=
 match P.underlying s,P.underlying t with
 |some (.slice e),Td .string=>match P.underlying e,av with
  |some (.int .u8),.g (.a aa)=>match sE cs aa with
   |some r=>match HQ r.1 r.2 with
    |some b=>K (.g (.a (.v (.string (rK b)))))
    |none=>False
   |none=>False
  |_,_=>False
 |some (.int _),Td .string=>match av with
  |.g (.a (.v (.int _ n)))=>K (.g (.a (.v (.string (Utf8.encode n)))))
  |_=>False
 |_,_=>False
theorem KQ{M:Fr}{k:IntKind}:∀{b:List Int} {cells:List Value},RowC M (.int k) b cells->cells=b.map (UB k)
 |b,cells,H=>by
  apply Uf;intro i;have f:cells.length=b.length:=by rw[H.1];simp[sz]
  rw[Us];by_cases hi:i<b.length;have:((cells.drop (i*1)).take 1)=[.int k b[i]]:=H.2 i hi;have e:cells[i]?=Td (.int k b[i]):=by
   have c:((cells.drop (i*1)).take 1)[0]?=Td (.int k b[i]):=by rw[this];rfl
   rw[Ud,zA (by omega),Ur]at c;simpa using c
  simp_all;simp_all
theorem JK{s t:TypeId}{x:Operand}(N:o.op=.convert s t x){av:AV}{K:AV->Prop}(H:yA P s t av cs K)(I:Inv h0 W M0 cs γ h)(G:DenV γ av (σ x)):
  ∃l v,K l/\DenV γ l v/\QExec P (execOp σ o) h (.value v):=by
 have val:∀{v:Value},QExec P (convert s t (σ x)) h v->QExec P (execOp σ o) h (.value v):=λS=>by simp only[execOp,N];exact QExec.val S
 unfold yA at H;split at H;rename_i e C u;split at H;rename_i V O;split at H;rename_i r T;split at H;rename_i i A;refine⟨_,.string (rK i),H,rfl,val λB d=>?_⟩;obtain⟨sl,F,m,cells,f,j⟩:=Cg I T G;obtain⟨tt,xs⟩:=r;obtain⟨E,L⟩:=Yi A;simp only at E;subst E;simp only at L m f;subst L;have Q:=KQ f;subst Q;have h1:=QExec.underlying (h:=h) C B d;have q:=QExec.underlying (h:=h) u B d;have U:=QExec.underlying (h:=h) O B d;have c:(Conv.bytesToString (σ x)).run P (mk B d h)=.ok (.string (rK i)) (mk B d h):=by
  rw[F];unfold aK;rcases j with y|⟨b,J,w,_,z⟩;have D:i=[]:=by simpa using y
  subst D;simp only[Uu]at m;cases ha:sl.a with
  |none=>simp[Conv.bytesToString,rK]
  |some p=>have:=run_bytesToString (P:=P) (mk B d h) p sl.len sl.cap [] (by rw[m];simp[loadCells,loadCellsFrom]);exact this
  rw[w];refine run_bytesToString (mk B d h) ⟨b,J,Te⟩ sl.len sl.cap i ?_;have:=Yh (P:=P) (h:=h) (n:=b+1) (sz:=1) (s:=sl) (cells:=i.map (UB .u8)) (.inr ⟨b,J,w,by omega,z⟩) (by rw[m];simp) (by omega) B d;rw[w]at this;simpa[U6]using this
 unfold convert;rw[Sem.run_bind,h1];simp only[Result.andThen_ok];rw[Sem.run_bind,q];simp only[Result.andThen_ok];rw[F]at c ⊢;unfold aK at c ⊢;simp_all;exact H.elim;exact H.elim;exact H.elim;rename_i k C u;split at H;rename_i M n;refine⟨_,.string (Utf8.encode n),H,rfl,val λB d=>?_⟩;have h1:=QExec.underlying (h:=h) C B d;have q:=QExec.underlying (h:=h) u B d;have e:σ x=.int M n:=G;unfold convert;rw[Sem.run_bind,h1];simp only[Result.andThen_ok];rw[Sem.run_bind,q,e];rfl;exact H.elim;exact H.elim
def Az:BinOp->Option Bool
 |.eql=>Td Ta
 |.neq=>Td Tc
 |_=>Te
def ug(P:Program)(o:Oper)(ρ:Operand->Option AV)(cs:CS):Option (Bool×Nat):=match o.op with
 |.binOp b t x y _=>match Az b,ρ x,ρ y with
  |some pol,Td (.g (.a aa)),Td (.g (.a (.v (.slice Te 0 0))))=>match sE cs aa,P.underlying t with
   |some ⟨ty,xs⟩,Td (.slice _)=>bif Nat.blt 0 (sz ty)then Td (pol,xs.length)else Te
   |_,_=>Te
  |_,_,_=>Te
 |_=>Te
theorem JZ(e:BinOp)(t:TypeId)(x y:Operand)(a b:Option Addr)(l c f h:Nat)(w:World):(eqGuard e t x y (.slice a l c) (.slice b f h)).run P w=.ok () w:=by unfold eqGuard;simp
theorem Kr{ρ:Operand->Option AV}{i:Bool}(c:ug P o ρ (C++R)=Td (i,n)){K:AV->CS->Option Nat->Prop}(H:∀b:Bool,(b=Ta->n=0)->K (.g (.a (.v (.bool (bif i then b else !b))))) C Te)
  (I:Inv h0 W M0 (C++R) γ h) (u:∀x av,ρ x=Td av->DenV γ av (σ x)):ExA P (execOp σ o) h (jT h0 W M0 R γ K):=by
 unfold ug at c;split at c
 ·rename_i L t x y N z;split at c
  ·rename_i q Q f A G;split at c
   ·rename_i ty xs e J p;cases hz:Nat.blt 0 (sz ty)with
    |false=>rw[hz]at c;cases c
    |true=>
     rw[hz]at c;simp only[zK,Tn,Uy]at c;obtain⟨rfl,rfl⟩:=c;have M:0<sz ty:=by simpa[V1]using hz
     obtain⟨s,D,O,cells,l,j⟩:=Cg I J (u _ _ A);have w:σ y=.slice Te 0 0:=u _ _ G;have k:s.a.isNone=Ta->xs.length=0:=by
      intro r;have m:cells=[]:=by rcases j with m|⟨b,o,E,_⟩;exact m;rw[E]at r;cases r
      have:=l.1;rw[m]at this;simp only[Uu]at this;rcases Nat.mul_eq_zero.1 this.symm with h1|h1;exact h1;omega
     have F:=H s.a.isNone k;intro B d;refine .inl ⟨_,d,h,?_,_,C,Te,γ,F,rfl,I,Gx.refl _ _⟩;simp only[execOp,z];refine jc ?_;rw[D,w];simp only[aK];rw[Sem.run_bind,JZ];simp only[Result.andThen_ok];cases L <;> simp only[Az,Tn]at f <;> (try (cases f;done)) <;> subst f;simp only[binOp,Sem.run_bind,run_equal_slice_nil _ t _ _ _ _ p];rfl;simp only[binOp,Sem.run_bind,run_equal_slice_nil _ t _ _ _ _ p];rfl
   cases c
  cases c
 cases c
def nX(P:Program)(gl:Fr)(tr:TypeId)(o:Oper)(ρ:Operand->Option AV)(C R:CS)(K:AV->CS->Option Nat->Prop):Prop:=
 match o.op with
 |.alloc t=>match o.dst with
  |some d=>xE P t d C R K
  |none=>False
 |.box t x=>match o.dst,ρ x with
  |some d,some av=>match pY av with
   |some l=>nc t d l C R K
   |none=>False
  |_,_=>False
 |.store t a x=>match ρ a,ρ x with
  |some (.g (.a aa)),some xv=>match pY xv with
   |some h=>yH P t aa h C R K
   |none=>False
  |_,_=>False
 |.buildSlice t n b=>match o.dst,mR ρ b.toList with
  |some d,some ps=>uD P tr t n ps d C R K
  |_,_=>False
 |.convert s t x=>bif l8 P o then qA P gl o ρ Te (C++R) (λav=>K av C Te)else(match ρ x with
  |some av=>yA P s t av (C++R) λe=>K e C Te
  |none=>False)
 |.call c=>match c.callee with
  |.builtin .append=>match c.args.toList,c.argTypes.toList,o.dst with
   |[s,x],[t,tx],some d=>match ρ s,ρ x with
    |some bv,some sv=>xG P tr t tx bv sv d C R K
    |_,_=>False
   |_,_,_=>False
  |.builtin _=>qA P gl o ρ Te (C++R) λav=>K av C Te
  |_=>uj P gl tr o ρ C R λav f=>K av f Te
 |.range t x=>match o.dst,ρ x with
  |some d,some av=>wV P t av d C R K
  |_,_=>False
 |.next x true=>match ρ x with
  |some av=>wx av C R K
  |none=>False
 |_=>qA P gl o ρ Te (C++R) λav=>K av C Te
theorem toList_eq{α:Type}{x:Array α}{l:List α}(h:x.toList=l):x=l.toArray:=by grind
theorem Kd(j:Fr.le gl M0){ρ:Operand->Option AV}{K:AV->CS->Option Nat->Prop}(H:nX P gl tr o ρ C R K)(I:Inv h0 W M0 (C++R) γ h)
  (G:∀f,σ (.func f)=.func (.func f) #[] #[]) (b:∀x av,ρ x=Td av->DenV γ av (σ x)):ExA P (execOp σ o) h (jT h0 W M0 R γ K):=by
 unfold nX at H;split at H;grind [MV];grind [Lx,zO];rename_i t a x m;split at H;rename_i Q N J q;split at H;rename_i l A;exact JY m H I (zO A (b _ _ q)) (b _ _ J);exact H.elim;exact H.elim;grind [Pb];rename_i s t x m;cases hq:l8 P o with
 |true=>grind [uA]
 |false=>rw[hq]at H;simp only[zL]at H;split at H;rename_i av p;obtain⟨u,v,h1,w,E⟩:=JK m H I (b _ _ p);exact λB d=>.inl ⟨v,d,h,E B d,u,C,Te,γ,h1,w,I,Gx.refl _ _⟩;exact H.elim
 rename_i c m;split at H;rename_i L;split at H;rename_i s x t tx d i k M;split at H;rename_i bv O F q;have n:=LV (ty':=o.type) H I (b _ _ F) (b _ _ q);intro B e;obtain⟨v,D,h',r,z⟩:=n B e;refine .inl ⟨v,D,h',?_,z⟩;have y:execOp σ o=(TB c.argTypes o.type (c.args.map σ) >>= λx=>(VD (VF x):Sem Next)):=by simp only[execOp,m,resolve,L];rfl
 rw[y,toList_eq i,toList_eq k];simp_all;exact H.elim;exact H.elim;exact uA j H I b;exact It j H I G b;grind [KD];grind [If];exact uA j H I b
def hA(P:Program)(gl:Fr)(tr:TypeId)(o:Oper)(ρ:Operand->Option AV)(C R:CS)(K:AV->CS->Option Nat->Prop):Prop:=match ug P o ρ (C++R)with
 |some (pol,n)=>∀b:Bool,(b=Ta->n=0)->K (.g (.a (.v (.bool (bif pol then b else !b))))) C Te
 |none=>nX P gl tr o ρ C R K
theorem MK(i:Fr.le gl M0){ρ:Operand->Option AV}{K:AV->CS->Option Nat->Prop}(H:hA P gl tr o ρ C R K)(I:Inv h0 W M0 (C++R) γ h)
  (j:∀f,σ (.func f)=.func (.func f) #[] #[]) (b:∀x av,ρ x=Td av->DenV γ av (σ x)):ExA P (execOp σ o) h (jT h0 W M0 R γ K):=by
 unfold hA at H;split at H;rename_i c n e;exact Kr e H I b;grind [Kd]
def rY:Option AV->Option AV->Option AV
 |some v,_=>Td v
 |none,w=>w
def wK(b:Bool)(x y:AV):Option AV:=match oE x,oE y with
 |some u,some v=>Td (nQ (pC b u v))
 |_,_=>match x,y with
  |.g (.a (.d t xs)),.g (.a (.d t' ys))=>match Qg t' t ys with
   |some ys=>Td (.g (.a (.d t (bif b then xs else ys))))
   |none=>Te
  |_,_=>Te
theorem IM{b:Bool}{x y z:AV}(h:wK b x y=Td z){u v:Value}(f:b=Ta->DenV γ x u)(c:b=Tc->DenV γ y v):DenV γ z (if b=Ta then u else v):=by
 unfold wK at h;split at h;rename_i p q i k;simp only[Tn]at h;subst h;have e:(if b=Ta then u else v)=pC b p q:=by
  rw[Dv];cases b with
  |true=>simp only[if_true];exact xB i (f rfl)
  |false=>simp only[Uz,if_false];exact xB k (c rfl)
 rw[e];exact Wb γ _;split at h;rename_i t xs t' ys _;split at h;rename_i j l;simp only[Tn]at h;subst h;cases b with
 |true=>exact f rfl
 |false=>exact Y0 l (c rfl)
 cases h;cases h
def rN(e:yp)(c:qf)(x a b:Operand)(K:AV->Prop):Prop:=
 match x with
 |.tmp s=>match lW e s with
  |some (cs,v)=>match oo v with
   |some t=>bif kw cs c then(match rY (jn e c a) (jn e ((s,Ta)::cs) a),rY (jn e c b) (jn e ((s,Tc)::cs) b)with
    |some va,some vb=>match wK t va vb with
     |some z=>K z
     |none=>False
    |_,_=>False)else False
   |none=>False
  |none=>False
 |_=>False
theorem xC{e:yp}{x a b:Operand}{K:AV->Prop}(H:rN e c x a b K):
  ∃z,K z/\∀(n:Nat) (γ:Gh) (f:Act),SatA n e γ f->valid (qc f) c->∃t,f.eval x=.bool t/\DenV γ z (if t=Ta then f.eval a else f.eval b):=by
 unfold rN at H;split at H;rename_i s;split at H;rename_i cs v p;split at H;rename_i t q;cases hsf:kw cs c with
 |false=>simp_all
 |true=>rw[hsf]at H;simp only[zK]at H;split at H;rename_i u w o i;split at H;rename_i z hz;refine⟨z,H,λn γ f j r=>?_⟩;have h:=Q2 hsf r;have m:qc f s=.bool t:=vP q ((j.all _ (xu p)).1 h);refine⟨t,m,IM hz (λl=>?_) (λk=>?_)⟩;unfold rY at o;split at o;grind [Tn,xe];exact xe j (c:=(s,Ta)::cs) ⟨by rw[m,l],h⟩ o;unfold rY at i;split at i;grind [Tn,xe];exact xe j (c:=(s,Tc)::cs) ⟨by rw[m,k],h⟩ i;exact H.elim;exact H.elim
 exact H.elim;exact H.elim;exact H.elim
def oP(P:Program)(gl:Fr)(tr:TypeId)(o:Oper)(e:yp)(c:qf)(C R:CS)(K:AV->CS->Option Nat->Prop):Prop:=
 match o.op with
 |.pick x a b=>rN e c x a b λav=>K av C Te
 |_=>match Xb e c with
  |some none=>hA P gl tr o (jn e c) C R K
  |some (Td b)=>bif qR o then vr P gl tr o (jn e c) b (C++R) (λav=>K av C Te)else qA P gl o (jn e c) (Td b) (C++R) (λav=>K av C Te)
  |none=>False
theorem NT(j:Fr.le gl M0){e:yp}{K:AV->CS->Option Nat->Prop}(H:oP P gl tr o e c C R K)(k:SatA n e γ a)(I:Inv h0 W M0 (C++R) γ h)(l:valid (qc a) c):
  ExA P (execOp a.eval o) h (jT h0 W M0 R γ K):=by
 have F:∀f,a.eval (.func f)=.func (.func f) #[] #[]:=λ_=>rfl;have p:∀x av,jn e c x=Td av->DenV γ av (a.eval x):=λx av D=>xe k l D;unfold oP at H;split at H;rename_i x y z u;obtain⟨av,h1,i⟩:=xC H;obtain⟨t,w,G⟩:=i n γ a k l;refine λB d=>.inl ⟨_,d,h,?_,av,C,Te,γ,h1,G,I,Gx.refl _ _⟩;simp only[execOp,u,w,asBool,Sem.run_bind,Sem.run_pure,Result.andThen_ok];split at H;grind [MK];rename_i b A;have m:=Ez k A l;cases hic:qR o with
 |true=>rw[hic]at H;simp only[zK]at H;obtain⟨f,args,h1,i⟩:=(C6 (h0:=h0) (W:=W) (M0:=M0) H).2 m j γ h a.eval I F p;refine λB d=>.inr (.inr ⟨f,args,h1 _,i.mono ?_⟩);rintro v h' ⟨av,γ',g1,g2,J,r,_⟩;exact⟨av,C,Te,γ',g1,g2,J,r⟩
 |false=>rw[hic]at H;simp only[zL]at H;obtain⟨av,h1,i⟩:=tT (h0:=h0) (W:=W) (M0:=M0) j H;obtain⟨v,q,E⟩:=i m γ h a.eval I p;exact λB d=>.inl ⟨v,d,h,E B d,av,C,Te,γ,h1,q,I,Gx.refl _ _⟩
 exact H.elim
theorem PE{e:yp}{K:AV->CS->Option Nat->Prop}(H:oP P gl tr o e c C R K)(j:SatA n e γ a)(h:¬valid (qc a) c):∃av,K av C Te:=by
 unfold oP at H;split at H;grind [xC];split at H;grind [FG];rename_i b i;have f:=FG j i h;simp only[Tn]at f;cases hic:qR o with
 |true=>rw[hic]at H;simp only[zK]at H;exact(C6 (h0:=#[]) (W:=λ_=>False) (M0:=λ_=>Te) H).1 f
 |false=>rw[hic]at H;simp only[zL]at H;obtain⟨av,h1,_⟩:=tT (h0:=#[]) (W:=λ_=>False) (M0:=gl) (Fr.le.refl _) H;grind
 exact H.elim
def GxS(S:List Nat)(γ γ':Gh):Prop:=Fr.le γ.M γ'.M/\∀i,i∉S->γ'.β i=γ.β i/\γ'.σ i=γ.σ i
theorem GxS.refl(S:List Nat)(γ:Gh):GxS S γ γ:=⟨Fr.le.refl _,λ_ _=>⟨rfl,rfl⟩⟩
theorem GxS.trans{a b c:Gh}(h:GxS S a b)(k:GxS S b c):GxS S a c:=⟨h.1.trans k.1,λi hi=>⟨(k.2 i hi).1.trans (h.2 i hi).1,(k.2 i hi).2.trans (h.2 i hi).2⟩⟩
theorem GxS.mono{S c:List Nat}{a b:Gh}(h:GxS S a b)(f:∀x∈S,x∈c):GxS c a b:=⟨h.1,λi hi=>h.2 i λe=>hi (f i e)⟩
def t8(c:Option Nat)(d:Option Nat):Bool:=match c,d with
 |none,_=>Ta
 |some x,some y=>Nat.beq x y
 |some _,none=>Tc
theorem Gx.toS{c d:Option Nat}{γ γ':Gh}(g:Gx c γ γ')(h:t8 c d=Ta)(b:∀i,d=Td i->i∈S):GxS S γ γ':=by
 refine⟨g.1,λi hi=>g.2 i λe=>?_⟩;subst e;cases d with
 |none=>cases h
 |some y=>have:i=y:=TL h;simp_all
def nV(P:Program)(gl:Fr)(tr:TypeId)(n:Nat)(ops:Array Oper)(R:CS)(K:yp->CS->Prop):List Oper->yp->CS->Prop
 |[],e,C=>K (mD e) C
 |o::rest,e,C=>match pt ops e o.guard with
  |some c=>bif jy n c o.dst then oP P gl tr o e c C R (λav b i=>bif t8 i o.dst then nV P gl tr n ops R K rest (tH (sS i e) o.dst c av) b else False)else False
  |none=>False
theorem wk{P:Program}{gl:Fr}(r:Fr.le gl M0){tr:TypeId}{n:Nat}{ops:Array Oper}{R:CS}{K:yp->CS->Prop}{Q:Exit->Act->World->Prop}(B:World):
  ∀(l:List Oper) (e:yp) (C:CS) (γ:Gh) (h:za) (a:Act) (d:Nat),nV P gl tr n ops R K l e C->SatA n e γ a->Inv h0 W M0 (C++R) γ h -> (∀t j γ' k m h',SatA n t γ' k->Inv h0 W M0 (j++R) γ' h'->Same (wb l) a k->GxS (wb l) γ γ'->K t j->Q .normal k (mk B m h'))->wpList P ops Q l a (mk B d h)
 |[],e,C,γ,h,a,d,H,hs,I,hQ=>hQ _ _ _ _ _ _ hs.clean I (Same.refl _ _) (GxS.refl _ _) H
 |o::rest,e,C,γ,h,a,d,H,hs,I,hQ=>by
  unfold nV at H;split at H
  ·rename_i c T;cases hd:jy n c o.dst with
   |false=>simp_all
   |true=>
    rw[hd]at H;simp only[zK]at H;have D:=FF hs T;have f:∀i,o.dst=Td i->i∈wb (o::rest):=λi hi=>by simp[wb,hi]
    have b:∀x∈wb rest,x∈wb (o::rest):=λx F=>by unfold wb;grind
    have q:∀av u m h' j i γ',(valid (qc a) c->DenV γ' av u)->(¬valid (qc a) c->u=undef)->Inv h0 W M0 (j++R) γ' h'->Gx i γ γ'->(bif t8 i o.dst then nV P gl tr n ops R K rest (tH (sS i e) o.dst c av) j else False) ->
      wpList P ops Q rest (a.put o.dst u) (mk B m h'):=λav u m h' j i γ' h1 G L g E=>by
     cases hid:t8 i o.dst with
     |false=>simp_all
     |true=>
      rw[hid]at E;exact wk r B rest _ _ _ _ _ _ E ((hs.gx g).putO hd h1 G) L λt w A k z h'' J U N S O=>
       hQ t w A k z h'' J U ((Same.put a o.dst u f).trans (N.mono b)) ((g.toS hid f).trans (S.mono b)) O
    unfold wpList;by_cases p:valid (qc a) c;rw[zA (D.2 p)];refine .inl ((NT r H hs I p).upon B d ?_);rintro v m h' ⟨av,j,i,γ',g1,g2,V,Y⟩;grind;rw[zv (λF=>p (D.1 F))];obtain⟨av,M⟩:=PE H hs p;exact q av undef d h C Te γ (λy=>absurd y p) (λ_=>rfl) I (Gx.refl _ _) M
  exact H.elim
end
section
variable {cs C R:CS} {γ:Gh} {h:za} {i:Nat} {e:TypeId} {t:Ty}
variable {h0 : za} {W : Nat -> Prop} {M0 : Fr}
inductive Shp where
 |dat (t:Ty)
 |own (e:TypeId) (t:Ty)
 deriving DecidableEq
@[reducible] def DS:Shp->Type
 |.dat t=>El t
 |.own _ t=>List (El t)
inductive SG where
 |one (s:Shp)
 |agg (l:List Shp)
structure AnnA where
 slots:List (Nat×SG)
 boxes:List (Nat×List Shp)
 ro:List Nat
 ids:List Nat
abbrev Dy:=(s:Shp)×DS s
@[reducible] def jK:List Shp->Type->Type
 |[],X=>X
 |s::l,X=>DS s->jK l X
def xA(s b:Shp)(x:DS s):Option (DS b):=if h:s=b then Td (h ▸ x)else Te
def qV{X:Type}:(l:List Shp)->jK l X->(List Dy->X->Prop)->Prop
 |[],f,k=>k [] f
 |s::l,f,k=>∀x:DS s,qV l (f x) λvs y=>k (⟨s,x⟩::vs) y
def jW{X:Type}:(l:List Shp)->List Dy->jK l X->Option X
 |[],[],f=>Td f
 |s::l,d::ds,f=>match xA d.1 s d.2 with
  |some x=>jW l ds (f x)
  |none=>Te
 |_,_,_=>Te
def pj{X:Type}:(l:List Shp)->(List Dy->X)->jK l X
 |[],f=>f []
 |s::l,f=>λx=>pj l λvs=>f (⟨s,x⟩::vs)
def pB{X Y:Type}:(l:List Shp)->jK l X->jK l Y->jK l (X×Y)
 |[],f,g=>(f,g)
 |_::l,f,g=>λx=>pB l (f x) (g x)
theorem Cl{s b:Shp}{x:DS s}{y:DS b}(h:xA s b x=Td y):(⟨b,y⟩:Dy)=⟨s,x⟩:=by unfold xA at h;grind
theorem F4{X:Type}:∀{l:List Shp} {vs:List Dy} {f:jK l X} {x:X} {k:List Dy->X->Prop},jW l vs f=Td x->qV l f k->k vs x
 |[],[],f,x,k,h,g=>by have h:=TY h;subst h;exact g
 |[],_::_,f,x,k,h,g=>by simp[jW]at h
 |_::_,[],f,x,k,h,g=>by simp[jW]at h
 |s::l,d::ds,f,x,k,h,g=>by simp only[jW]at h;split at h;rename_i y b;have:=F4 h (g y);grind [Cl];cases h
theorem GF{X:Type}:∀{l:List Shp} {vs:List Dy} {f:List Dy->X} {x:X},jW l vs (pj l f)=Td x->x=f vs
 |[],[],f,x,h=>(TY h).symm
 |[],_::_,f,x,h=>by simp[jW]at h
 |_::_,[],f,x,h=>by simp[jW]at h
 |s::l,d::ds,f,x,h=>by simp only[jW,pj]at h;split at h;rename_i y b;have:=GF h;grind [Cl];cases h
theorem Ea{X:Type}:∀{l:List Shp} {f:List Dy->X} {k:List Dy->X->Prop},(∀vs,k vs (f vs))->qV l (pj l f) k
 |[],_,_,h=>h []
 |_::_,_,_,h=>λ_=>Ea λ_=>h _
structure Pl where
 id:Nat
 s:Shp
 a:AA
def mt(base:Nat):List Shp->List AA->Option (List Pl)
 |[],[]=>Td []
 |s::ss,a::as1=>match mt (base+1) ss as1 with
  |some l=>Td (⟨base,s,a⟩::l)
  |none=>Te
 |_,_=>Te
def pz(e:yp):List (Nat×SG)->Option (List Pl)
 |[]=>Td []
 |(i,sg)::l=>match lW e i,pz e l with
  |some ([],.g x),some r=>match sg,x with
   |.one s,.a a=>Td (⟨100000+64*i,s,a⟩::r)
   |.agg ss,.agg as1=>match mt (100000+64*i) ss as1 with
    |some q=>Td (q++r)
    |none=>Te
   |_,_=>Te
  |_,_=>Te
def qK(C:CS):List (Nat×List Shp)->Option (List Pl)
 |[]=>Td []
 |(c,ss)::l=>match Yb C c,qK C l with
  |some (.box as1),some r=>match mt (1000000+64*c) ss as1 with
   |some q=>Td (q++r)
   |none=>Te
  |_,_=>Te
def NA:SG->List Shp
 |.one s=>[s]
 |.agg l=>l
def DV:List (Nat×SG)->List Shp
 |[]=>[]
 |(_,sg)::l=>NA sg++DV l
def EE:List (Nat×List Shp)->List Shp
 |[]=>[]
 |(_,ss)::l=>ss++EE l
def i5(J:AnnA):List Shp:=DV J.slots++EE J.boxes
def oF:List Pl->List Nat
 |[]=>[]
 |⟨_,.dat _,.own c⟩::l=>c::oF l
 |_::l=>oF l
def oN(c:Nat):List Pl->Bool
 |[]=>Tc
 |p::l=>bif (bif Nat.beq p.id c then Ta else mf c p.a)then Ta else oN c l
def lL(R:CS):List Pl->CS->Option CS
 |[],C=>Td C
 |p::l,C=>match p.s with
  |.dat _=>lL R l C
  |.own e t=>bif oN p.id l then Te else(match p.a with
   |.own c=>match Yb C c with
    |some (.row e' t' xs)=>match Qg (.row t') (.row t) xs with
     |some ys=>bif Nat.beq e e' then(bif Nat.beq c p.id then lL R l C else(bif Zd p.id R then lL R l ((p.id,.row e t ys)::yb p.id (ir c C))else Te))else Te
     |none=>Te
    |_=>Te
   |.v (.slice Te 0 0)=>bif Zd p.id R then lL R l ((p.id,.row e t [])::yb p.id C)else Te
   |_=>Te)
theorem CN(I:Inv h0 W M0 cs γ h){x y:Nat×Ch}(j:x∈cs)(f:y∈cs)(e:x≠y):∀b,blk γ x.1 x.2=Td b->blk γ y.1 y.2≠Td b:= @qB _ (λ(x y:Nat×Ch)=>∀b,blk γ x.1 x.2=Td b->blk γ y.1 y.2≠Td b) (λx y h b i c=>h b c i) _ I.apart _ _ j f e
theorem Inv.rename(I:Inv h0 W M0 (C++R) γ h){c i:Nat}(o:Zd i R=Ta){xs:List (El t)}(B:(c,Ch.row e t xs)∈C):
  Inv h0 W M0 ((i,.row e t xs)::yb i (ir c C)++R) (i9 γ i (γ.σ c)) h:=by
 have f:(yb i (ir c C)++R).Sublist (C++R):=(((jh i _).trans (wl c C))).append_right R;have j:(c,Ch.row e t xs)∈C++R:=TF R B;have r:∀x∈yb i (ir c C)++R,∀b,blk γ c (.row e t xs)=Td b->blk γ x.1 x.2≠Td b:=by
  intro x k b l n;have m:x≠(c,Ch.row e t xs):=by rintro rfl;rcases TE.1 k with k|k;exact(Qm ((jh i _).subset k)).2 rfl;have y:=I.apart;grind
  exact CN I (f.subset k) j m b n l
 have z:Inv h0 W M0 (yb i (ir c C)++R) (i9 γ i (γ.σ c)) h:= I.rest f (Ze γ i _) (m0 o) (λx k b l=>⟨rfl,(I.sep x (f.subset k) b l).2⟩) I.ag (λ_ _ _=>rfl) (Tm _) (λ_ _=>rfl);obtain⟨cells,h1,p,A,q⟩:=I.den _ j;have w:∀b,blk (i9 γ i (γ.σ c)) i (.row e t xs)=Td b->blk γ c (.row e t xs)=Td b:=λb l=>by simpa[blk,qk]using l
 refine z.cons ⟨cells,by rw[qk];exact h1,p,A,by rw[qk];exact q⟩ (λb l=>I.sep _ j b (w b l)) (λb l x k u=>?_);rw[nH (Ze γ i _) _ (m0 o x k).1]at u;simp_all
theorem Inv.nilRow(I:Inv h0 W M0 (C++R) γ h)(k:Zd i R=Ta)(e:TypeId)(t:Ty):
  Inv h0 W M0 ((i,.row e t [])::yb i C++R) (i9 γ i ⟨Te,0,0⟩) h:=by
 have c:=(jh i C).append_right R;have j:Inv h0 W M0 (yb i C++R) (i9 γ i ⟨Te,0,0⟩) h:= I.rest c (Ze γ i _) (m0 k) (λx l b f=>⟨rfl,(I.sep x (c.subset l) b f).2⟩) I.ag (λ_ _ _=>rfl) (Tm _) (λ_ _=>rfl);refine j.cons ⟨[],by rw[qk];exact Owns.nil _ _ _ _,RowC.nil _ _,by simp,by rw[qk];rfl⟩ (λb f=>by simp[blk,qk]at f) (λb f=>by simp[blk,qk]at f)
theorem Dr{c:Nat}:∀{l:List Pl},oN c l=Tc->∀p∈l,p.id≠c/\mf c p.a=Tc
 |[],_,p,b=>by cases b
 |q::l,h,p,b=>by
  simp only[oN]at h;cases hq:(bif Nat.beq q.id c then Ta else mf c q.a)with
  |true=>simp_all
  |false=>
   rw[hq]at h;rcases Tz.1 b with rfl|b;cases hb:Nat.beq p.id c with
   |true=>simp_all
   |false=>rw[hb]at hq;exact⟨λe=>by simp_all,hq⟩
   exact Dr h p b
def jQ:List Pl->List Nat
 |[]=>[]
 |p::l=>p.id::jQ l
theorem uH{R:CS}{h:za}:∀{l:List Pl} {C o:CS} {γ:Gh},lL R l C=Td o->Inv h0 W M0 (C++R) γ h ->
  ∃f,Inv h0 W M0 (o++R) f h/\GxS (jQ l) γ f/\(f.M=γ.M/\f.β=γ.β)/\∀p∈l,∀e t,p.s=.own e t->∀u,DenA γ p.a u->DenA f (.own p.id) u
 |[],C,o,γ,hn,I=>by simp only[lL,Tn]at hn;grind [GxS.refl]
 |p::l,C,o,γ,hn,I=>by
  have O:∀{S:List Nat} {a b:Gh},GxS (jQ l) a b->GxS (jQ (p::l)) a b:=λg=>g.mono λx Z=>TS _ Z;have j:∀s,GxS (jQ (p::l)) γ (i9 γ p.id s):=λs=>⟨Fr.le.refl _,λi hi=>(Ze γ p.id s).2 i (by simp only[jQ,Tz,not_or]at hi;grind)⟩;simp only[lL]at hn;split at hn;rename_i t Y;obtain⟨f,F,g1,A,h1⟩:=uH hn I;exact⟨f,F,O (S:=[]) g1,A,λq w e t' z=>by grind⟩
  ·rename_i e t Y;cases hm:oN p.id l with
   |true=>simp_all
   |false=>
    rw[hm]at hn;simp only[zL]at hn;have r:=Dr hm;have fin:∀{E:CS} {k:Gh},lL R l E=Td o->Inv h0 W M0 (E++R) k h->GxS (jQ (p::l)) γ k->(k.M=γ.M/\k.β=γ.β)->(∀i,i≠p.id->k.σ i=γ.σ i/\k.β i=γ.β i)->(∀u,DenA γ p.a u->DenA k (.own p.id) u) ->
      ∃f,Inv h0 W M0 (o++R) f h/\GxS (jQ (p::l)) γ f/\(f.M=γ.M/\f.β=γ.β)/\∀q∈p::l,∀e t,q.s=.own e t->∀u,DenA γ q.a u->DenA f (.own q.id) u:=by
     intro E k H U g2 D J B;obtain⟨f,F,g1,A,h1⟩:=uH H U;refine⟨f,F,g2.trans (O (S:=[]) g1),⟨A.1.trans D.1,A.2.trans D.2⟩,λq w G t' z u m=>?_⟩;rcases Tz.1 w with rfl|w;have T:=B u m;have L:q.id∉jQ l:=by
      intro hi;have:∀{l:List Pl},q.id∈jQ l->∃p∈l,p.id=q.id:=by
       intro l;induction l with
       |nil=>intro h;cases h
       |cons x l ih=>intro h;simp only[jQ,Tz]at h;grind
      obtain⟨y,V,e⟩:=this hi;exact(r y V).1 e
     rw[show u=_ from T];simp only[DenA,(g1.2 _ L).2];refine h1 q w G t' z u ?_;have gx:Gx (Td p.id) γ k:=⟨by rw[D.1];exact Fr.le.refl _,λi hi=>by grind⟩;exact m.gx gx (r q w).2
    split at hn;rename_i c N;split at hn;rename_i G t' xs hc;split at hn;rename_i ys n;obtain⟨e1,P⟩:=Yi n;subst e1;simp only at P;subst P;cases hee:Nat.beq e G with
    |false=>simp_all
    |true=>
     rw[hee]at hn;have:=TL hee;subst this;simp only[zK]at hn;cases hci:Nat.beq c p.id with
     |true=>rw[hci]at hn;simp only[zK]at hn;have Q:=TL hci;exact fin hn I (GxS.refl _ _) ⟨rfl,rfl⟩ (λ_ _=>⟨rfl,rfl⟩) (λu m=>by simp_all)
     |false=>
      rw[hci]at hn;simp only[zL]at hn;cases hR:Zd p.id R with
      |false=>simp_all
      |true=>rw[hR]at hn;simp only[zK]at hn;refine fin hn (I.rename hR (zx hc)) (j _) ⟨rfl,rfl⟩ (λi hi=>?_) (λu m=>?_);have:=(Ze γ p.id (γ.σ c)).2 i (by grind);simp_all;rw[N]at m;rw[show u=_ from m];simp only[DenA,qk]
    cases hn;cases hn;rename_i N;cases hR:Zd p.id R with
    |false=>simp_all
    |true=>rw[hR]at hn;simp only[zK]at hn;refine fin hn (I.nilRow hR e t) (j _) ⟨rfl,rfl⟩ (λi hi=>?_) (λu m=>?_);have:=(Ze γ p.id ⟨Te,0,0⟩).2 i (by grind);simp_all;rw[N]at m;rw[show u=_ from m];simp only[DenA,qk];rfl
    cases hn
def Cj(b cs:CS)(p:Pl):Option Dy:=match p.s with
 |.dat t=>match lh b t p.a with
  |some x=>Td ⟨.dat t,x⟩
  |none=>Te
 |.own e t=>match Yb cs p.id with
  |some (.row e' t' xs)=>match Qg (.row t') (.row t) xs with
   |some ys=>bif Nat.beq e e' then Td ⟨.own e t,ys⟩else Te
   |none=>Te
  |_=>Te
def jJ(b cs:CS):List Pl->Option (List Dy)
 |[]=>Td []
 |p::l=>match Cj b cs p,jJ b cs l with
  |some d,some v=>Td (d::v)
  |_,_=>Te
def tW(i:Nat):Dy->AA
 |⟨.dat t,x⟩=>match Ya t x with
  |[a]=>a
  |_=>.v undef
 |⟨.own _ _,_⟩=>.own i
def sh:Nat->List Dy->List AA
 |_,[]=>[]
 |i,d::l=>tW i d::sh (i+1) l
def oy(i:Nat):Dy->CS
 |⟨.own e t,xs⟩=>[(i,.row e t xs)]
 |_=>[]
def nT:Nat->List Dy->CS
 |_,[]=>[]
 |i,d::l=>oy i d++nT (i+1) l
theorem Bm{x:El t}{u:Value}(h:Rd γ.M t x [u]):DenA γ (tW i ⟨.dat t,x⟩) u:=by
 have b:=j7 (γ:=γ) h;unfold tW
 match hx:Ya t x,b with
 |[a],b=>simp only[hx];exact b.1
 |[],b=>exact b.elim
 |_::_::_,b=>exact b.2.elim
theorem NO{t':Ty}{xs:List (El t')}{ys:List (El t)}(h:Qg (.row t') (.row t) xs=Td ys):Ch.row e t' xs=Ch.row e t ys:=by grind [Yi]
theorem Bj{b cs:CS}{p:Pl}{l:List Pl}{v:List Dy}(h:jJ b cs (p::l)=Td v):∃d w,v=d::w/\jJ b cs l=Td w /\
  ((∃t x,p.s=.dat t/\d=⟨.dat t,x⟩/\lh b t p.a=Td x)\/(∃e t xs,p.s=.own e t/\d=⟨.own e t,xs⟩/\(p.id,Ch.row e t xs)∈cs)):=by
 simp only[jJ]at h;split at h;rename_i d w h1 c;have h:=TY h;refine⟨d,w,h.symm,c,?_⟩;unfold Cj at h1;split at h1;grind;rename_i e t f;split at h1;rename_i i t' xs j;split at h1;rename_i ys k;cases he:Nat.beq e i with
 |false=>simp_all
 |true=>rw[he]at h1;refine .inr ⟨e,t,ys,f,(TY (show Td (⟨.own e t,ys⟩:Dy)=Td d from h1)).symm,?_⟩;grind [zx,NO,TL]
 cases h1;cases h1;cases h
theorem Y2{b cs:CS}:∀{q r:List Pl} {v:List Dy},jJ b cs (q++r)=Td v->∃c e,v=c++e/\c.length=q.length/\jJ b cs q=Td c/\jJ b cs r=Td e
 |[],r,v,h=>⟨[],v,rfl,rfl,rfl,h⟩
 |p::q,r,v,h=>by simp only[Um,jJ]at h;split at h;rename_i d w h1 j;have h:=TY h;obtain⟨c,e,rfl,f,k,i⟩:=Y2 j;exact⟨d::c,e,by rw[<-h];rfl,by simp[f],by simp only[jJ,h1,k],i⟩;cases h
theorem Gd{base:Nat}:∀{ss:List Shp} {b:List AA} {l:List Pl},mt base ss b=Td l->l.length=ss.length/\∀{γ k:Gh} {c f:CS} {v:List Dy} {us:List Value},kU γ c->k.M=γ.M->jJ c f l=Td v ->
   (∀p∈l,∀e t,p.s=.own e t->∀u,DenA γ p.a u->DenA k (.own p.id) u)->All2 (DenA γ) b us->All2 (DenA k) (sh base v) us/\∀x∈nT base v,x∈f:=by
 intro ss;induction ss generalizing base with
 |nil=>
  intro b l h;cases b with
  |nil=>
   simp only[mt,Tn]at h;subst h;refine⟨rfl,λn m j o i=>?_⟩;have j:=TY j;subst j;refine⟨?_,λx G=>by cases G⟩;rename_i us;cases us with
   |nil=>trivial
   |cons _ _=>exact i.elim
  |cons a b=>simp[mt]at h
 |cons s ss r=>
  intro b l h;cases b with
  |nil=>simp[mt]at h
  |cons a b=>
   simp only[mt]at h;split at h;rename_i L E;simp only[Tn]at h;subst h;obtain⟨H,r⟩:=r E;refine⟨by simp[H],λ {γ k c f v us} n m j o i=>?_⟩;obtain⟨d,w,rfl,B,F⟩:=Bj j;cases us with
   |nil=>exact i.elim
   |cons u us=>obtain⟨A,C⟩:=r n m B (λp D=>o p (TS _ D)) i.2;rcases F with⟨t,x,z,rfl,I⟩|⟨e,t,xs,z,rfl,J⟩;have:=y0 n I i.1;rw[<-m]at this;refine⟨⟨Bm this,A⟩,λy q=>C y ?_⟩;simpa[nT,oy]using q;refine⟨⟨o _ TQ e t z u i.1,A⟩,λy q=>?_⟩;simp only[nT,oy,Um,UO,Tz]at q;grind
   cases h
def nk:List (Nat×SG)->List Dy->yp
 |[],_=>[]
 |(i,.one _)::l,d::ds=>(i,[],.g (.a (tW (100000+64*i) d)))::nk l ds
 |(_,.one _)::_,[]=>[]
 |(i,.agg ss)::l,ds=>(i,[],.g (.agg (sh (100000+64*i) (ds.take ss.length))))::nk l (ds.drop ss.length)
def Y3:List (Nat×SG)->List Dy->CS
 |[],_=>[]
 |(i,.one _)::l,d::ds=>oy (100000+64*i) d++Y3 l ds
 |(_,.one _)::_,[]=>[]
 |(i,.agg ss)::l,ds=>nT (100000+64*i) (ds.take ss.length)++Y3 l (ds.drop ss.length)
def sy:List (Nat×List Shp)->List Dy->CS
 |[],_=>[]
 |(c,ss)::l,ds=>(c,.box (sh (1000000+64*c) (ds.take ss.length)))::(nT (1000000+64*c) (ds.take ss.length)++sy l (ds.drop ss.length))
def ng:List (Nat×SG)->Nat
 |[]=>0
 |(_,.one _)::l=>1+ng l
 |(_,.agg ss)::l=>ss.length+ng l
def mM(J:AnnA)(b:List Dy):yp:=nk J.slots b
def mi(J:AnnA)(b:List Dy):CS:=Y3 J.slots b++sy J.boxes (b.drop (ng J.slots))
theorem Y4{e:yp}{n:Nat}{a:Act}:∀{ss:List (Nat×SG)} {l:List Pl},pz e ss=Td l->l.length=ng ss/\∀{γ A:Gh} {f j:CS} {v w:List Dy},SatA n e γ a->kU γ f->A.M=γ.M->jJ f j l=Td v ->
   (∀p∈l,∀e t,p.s=.own e t->∀u,DenA γ p.a u->DenA A (.own p.id) u)->(∀x∈nk ss (v++w),mB A (qc a) x)/\∀x∈Y3 ss (v++w),x∈j
 |[],l,h=>by simp only[pz,Tn]at h;subst h;refine⟨rfl,λ_ _ _ k _=>?_⟩;have k:=TY k;subst k;exact⟨λx L=>(by cases L),λx L=>(by cases L)⟩
 |(i,sg)::ss,l,h=>by
  simp only[pz]at h;split at h;rename_i x r Q S;split at h;rename_i s aa;simp only[Tn]at h;subst h;obtain⟨N,O⟩:=Y4 (n:=n) (a:=a) S;refine⟨by simp[N,ng];omega,λ {γ A f j v w} E C z k D=>?_⟩;obtain⟨d,v',rfl,V,h3⟩:=Bj k;obtain⟨i1,P⟩:=O (w:=w) E C z V (λp m=>D p (TS _ m));have c:DenA γ aa (qc a i):=(E.all _ (xu Q)).1 trivial;rcases h3 with⟨t,x,o,rfl,hc⟩|⟨Z,t,xs,o,rfl,hm⟩;have:=y0 C hc c;rw[<-z]at this;refine⟨λy b=>?_,λy b=>?_⟩;simp only[Um,nk,Tz]at b;rcases b with rfl|b;exact⟨λ_=>Bm this,λF=>absurd trivial F⟩;grind;simp only[Um,Y3,oy,UO]at b;exact P y b;refine⟨λy b=>?_,λy b=>?_⟩;simp only[Um,nk,Tz]at b;rcases b with rfl|b;exact⟨λ_=>D _ TQ Z t o _ c,λF=>absurd trivial F⟩;grind;simp only[Um,Y3,oy,UO,Tz]at b;grind;rename_i B G;split at h;rename_i q Y;simp only[Tn]at h;subst h;obtain⟨N,O⟩:=Y4 (n:=n) (a:=a) S;obtain⟨I,m⟩:=Gd Y;refine⟨by simp[N,I,ng],λ {γ A f j v w} E C z k D=>?_⟩;obtain⟨H,J,rfl,U,d1,d2⟩:=Y2 k;obtain⟨i1,P⟩:=O (w:=w) E C z d2 (λp m=>D p (TU _ m));obtain⟨us,hu,c⟩:=(show ∃us,qc a i=.agg us.toArray/\All2 (DenA γ) G us from(E.all _ (xu Q)).1 trivial);obtain⟨p1,p2⟩:=m C z d1 (λp m=>D p (TF _ m)) c;have et:(H++J++w).take B.length=H:=by rw[<-I,<-U,TR,List.take_left]
  have T:(H++J++w).drop B.length=J++w:=by rw[<-I,<-U,TR,List.drop_left]
  refine⟨λy b=>?_,λy b=>?_⟩;simp only[nk,et,T,Tz]at b;rcases b with rfl|b;exact⟨λ_=>⟨us,hu,p1⟩,λF=>absurd trivial F⟩;grind;simp only[Y3,et,T,TE]at b;grind;cases h;cases h;cases h
theorem GN{y:CS}:∀{bs:List (Nat×List Shp)} {l:List Pl},qK y bs=Td l->∀{R:CS} {γ m:Gh} {i j:CS} {v:List Dy} {h:za},Inv h0 W M0 (y++R) γ h->kU γ i->m.M=γ.M->m.β=γ.β->jJ i j l=Td v -> (∀p∈l,∀e t,p.s=.own e t->∀u,DenA γ p.a u->DenA m (.own p.id) u) ->
   ∀x∈sy bs v,x∈j\/(DenC h0.size m h x.1 x.2/\(∃f,(x.1,Ch.box f)∈y)/\(∃f,x.2=Ch.box f)/\∃ss,(x.1,ss)∈bs)
 |[],l,b,R,γ,m,i,j,v,h,I,hf,hM,hβ,hd,ho,x,k=>by cases k
 |(c,ss)::bs,l,b,R,γ,m,i,j,v,h,I,hf,hM,hβ,hd,ho,x,k=>by
  simp only[qK]at b;split at b;rename_i f r C F;split at b;rename_i q D;simp only[Tn]at b;subst b;obtain⟨A,o⟩:=Gd D;obtain⟨w,z,rfl,B,d1,d2⟩:=Y2 hd;obtain⟨us,O,n⟩:=I.den _ (TF R (zx C));obtain⟨E,L⟩:=o hf hM d1 (λp b=>ho p (TF _ b)) n;have et:(w++z).take ss.length=w:=by rw[<-A,<-B,List.take_left]
  have G:(w++z).drop ss.length=z:=by rw[<-A,<-B,List.drop_left]
  simp only[sy,et,G,Tz,TE]at k;rcases k with rfl|k|k;exact .inr ⟨⟨us,by grind,E⟩,⟨f,zx C⟩,⟨_,rfl⟩,ss,TQ⟩;simp_all;rcases GN F I hf hM hβ d2 (λp b=>ho p (TU _ b)) x k with h1|⟨h1,J,P,H,N⟩;grind;grind;cases b;cases b
def pL(C:CS):List (Nat×List Shp)->Bool
 |[]=>Ta
 |(c,_)::l=>match Yb C c with
  |some (.box _)=>pL C l
  |_=>Tc
theorem F7{C:CS}:∀{l:List (Nat×List Shp)},pL C l=Ta->∀c ss,(c,ss)∈l->∃b,(c,Ch.box b)∈C
 |[],_,c,ss,h=>by cases h
 |(c',ss')::l,hb,c,ss,h=>by simp only[pL]at hb;split at hb;rename_i b e;rcases Tz.1 h with h|h;grind [zx];exact F7 hb c ss h;cases hb
def nF:CS->Bool
 |[]=>Ta
 |(c,_)::l=>bif ko c l then nF l else Tc
theorem BG:∀{l:CS},nF l=Ta->l.Pairwise λx y=>x.1≠y.1
 |[],_=>.nil
 |(c,k)::l,h=>by
  simp only[nF]at h;cases hn:ko c l with
  |false=>simp_all
  |true=>rw[hn]at h;exact UM.2 ⟨λy b e=>Xd hn y b e.symm,BG h⟩
def allIn(S:List Nat):List Nat->Bool
 |[]=>Ta
 |i::l=>bif Jr S i then allIn S l else Tc
theorem Rp{l:List Nat}(h:Jr l i=Ta):i∈l:=by
 induction l with
 |nil=>cases h
 |cons j l b=>simp only[Jr]at h;grind [TL,TQ,TS]
theorem BJ{S:List Nat}:∀{l:List Nat},allIn S l=Ta->∀i∈l,i∈S
 |[],_,i,h=>by cases h
 |j::l,hl,i,h=>by
  simp only[allIn]at hl;cases hm:Jr S j with
  |false=>simp_all
  |true=>rw[hm]at hl;rcases Tz.1 h with rfl|h;exact Rp hm;exact BJ hl i h
theorem Inv.pick{C F R:CS}(I:Inv h0 W M0 (C++R) γ h)(hnd:nF F=Ta)(hsrc:∀x∈F,DenC h0.size γ h x.1 x.2/\∃k,(x.1,k)∈C/\blk γ x.1 k=blk γ x.1 x.2):Inv h0 W M0 (F++R) γ h where
 ag:=I.ag
 frame:=I.frame
 size:=I.size
 old:=I.old
 le:=I.le
 den:=λx hx=>by rcases TE.1 hx with hx|hx;simp_all;exact I.den x (TU _ hx)
 sep:=λx hx b hb=>by rcases TE.1 hx with hx|hx;obtain⟨_,k,hk,e⟩:=hsrc x hx;exact I.sep _ (TF _ hk) b (by grind);exact I.sep x (TU _ hx) b hb
 apart:=by have hI:=I.apart;rw[Vt]at hI ⊢;refine⟨(BG hnd).imp_of_mem λ {x y} hx hy hne b hb hb'=>?_,hI.2.1,λx hx y hy b hb=>?_⟩;obtain⟨_,k,hk,e⟩:=hsrc x hx;obtain⟨_,k',hk',e'⟩:=hsrc y hy;exact CN I (TF R hk) (TF R hk') (λe2=>hne (Prod.mk.inj e2).1) b (by grind) (by grind);grind
def rJ(J:AnnA)(R:CS)(e:yp)(C:CS):Option (List Dy):=
 match pz e J.slots,qK C J.boxes with
 |some ps,some pb=>match qK (frzL (oF (ps++pb)) C) J.boxes with
  |some b=>match lL R (ps++b) (frzL (oF (ps++pb)) C)with
   |some c=>bif pL c J.boxes then(bif allIn J.ids (jQ (ps++b))then(match jJ (frzL (oF (ps++pb)) C++R) c (ps++b)with
    |some f=>bif nF (mi J f)then Td f else Te
    |none=>Te)else Te)else Te
   |none=>Te
  |none=>Te
 |_,_=>Te
theorem vj{J:AnnA}{e:yp}{k:List Dy}(b:rJ J R e C=Td k){n:Nat}{a:Act}(U:SatA n e γ a)(I:Inv h0 W M0 (C++R) γ h):
  ∃c,Inv h0 W M0 (mi J k++R) c h/\GxS J.ids γ c/\∀x∈mM J k,mB c (qc a) x:=by
 unfold rJ at b;split at b
 ·rename_i ps pb A H;split at b
  ·rename_i m f;split at b
   ·rename_i S B;cases hbi:pL S J.boxes with
    |false=>simp_all
    |true=>
    rw[hbi]at b;cases hai:allIn J.ids (jQ (ps++m))with
    |false=>simp_all
    |true=>
    rw[hai]at b;simp only[zK]at b;split at b
    ·rename_i j o;cases hnd:nF (mi J j)with
     |false=>simp_all
     |true=>
     rw[hnd]at b;have b:=TY (show Td j=Td k from b);subst b;obtain⟨γ0,l,g0⟩:=Inv.frzL (C:=C) (γ:=γ) (oF (ps++pb)) I;have r:=U.gx0 g0;obtain⟨c,q,g1,⟨E,Q⟩,G⟩:=uH B l;obtain⟨P,z,rfl,l1,d1,d2⟩:=Y2 o;obtain⟨e1,t⟩:=Y4 (n:=n) (a:=a) A;obtain⟨N,Z⟩:=t (w:=z) r l.fz E d1 (λp y=>G p (TF _ y));have u:=GN f l l.fz E Q d2 (λp y=>G p (TU _ y));have V:(P++z).drop (ng J.slots)=z:=by rw[<-e1,<-l1,List.drop_left]
     have L:GxS J.ids γ c:=⟨g0.1.trans g1.1,λi hi=>by have D:=g1.2 i (λY=>hi (BJ hai i Y));have h1:=g0.2 i (by simp);simp_all⟩;refine⟨c,q.pick hnd λx b=>?_,L,N⟩;unfold mi at b;rw[V]at b;rcases TE.1 b with b|b;have:=Z x b;exact⟨q.den x (TF _ this),x.2,this,rfl⟩;rcases u x b with h1|⟨h1,_,⟨M,D⟩,ss,T⟩;exact⟨q.den x (TF _ h1),x.2,h1,rfl⟩;obtain⟨F,O⟩:=F7 hbi _ _ T;exact⟨h1,_,O,by rw[D];rfl⟩
    cases b
   cases b
  cases b
 cases b
theorem Mq{α:Type}{R:α->α->Prop}(i:∀x y,R x y->R y x){l b:List α}(p:l.Perm b):l.Pairwise R->b.Pairwise R:=by
 induction p with
 |nil=>exact id
 |cons x p f=>intro h;rw[UM]at h ⊢;grind
 |swap x y l=>simp_all
 |trans _ _ c e=>simp_all
theorem Inv.perm{cs cs':CS}(I:Inv h0 W M0 cs γ h)(p:cs.Perm cs'):Inv h0 W M0 cs' γ h where
 ag:=I.ag
 frame:=I.frame
 size:=I.size
 old:=I.old
 le:=I.le
 den:=λx hx=>I.den x (p.symm.subset hx)
 sep:=λx hx=>I.sep x (p.symm.subset hx)
 apart:=Mq (λx y h b hb hb'=>h b hb' hb) p I.apart
end
section
variable {P:Program} {gl:Fr}
variable {h0 : za} {W : Nat -> Prop} {M0 : Fr}
def u0(P:Program)(gl:Fr)(o:Oper)(e:yp)(c:qf)(cs:CS)(K:AV->Prop):Prop:=
 match o.op with
 |.pick x a b=>rN e c x a b K
 |_=>match Xb e c with
  |some g=>qA P gl o (jn e c) g cs K
  |none=>False
def o5(P:Program)(gl:Fr)(n:Nat)(ops:Array Oper)(cs:CS)(K:yp->Prop):List Oper->yp->Prop
 |[],e=>K e
 |o::rest,e=>match pt ops e o.guard with
  |some c=>bif jy n c o.dst then u0 P gl o e c cs λv=>o5 P gl n ops cs K rest (tH e o.dst c v)else False
  |none=>False
theorem JE(j:Fr.le gl M0){o:Oper}{e:yp}{c:qf}{cs:CS}{K:AV->Prop}(H:u0 P gl o e c cs K):∃av,K av/\∀(n:Nat) (γ:Gh) (a:Act) (h:za),SatA n e γ a->Inv h0 W M0 cs γ h->valid (qc a) c->∃v,DenV γ av v/\QExec P (execOp a.eval o) h (.value v):=by unfold u0 at H;split at H;rename_i x y z k;obtain⟨av,h1,i⟩:=xC H;refine⟨av,h1,λn γ a h b I f=>?_⟩;obtain⟨t,l,q⟩:=i n γ a b f;refine⟨_,q,λB d=>?_⟩;simp only[execOp,k,l,asBool,Sem.run_bind,Sem.run_pure,Result.andThen_ok];split at H;rename_i g m;obtain⟨av,h1,i⟩:=tT (h0:=h0) (W:=W) (M0:=M0) j H;exact⟨av,h1,λn γ a h b I f=>i (Ez b m f) γ h a.eval I λx av p=>xe b f p⟩;exact H.elim
theorem vg{P:Program}{gl:Fr}(q:Fr.le gl M0){n:Nat}{ops:Array Oper}{cs:CS}{K:yp->Prop}{Q:Act->Prop}{γ:Gh}{h:za}(I:Inv h0 W M0 cs γ h)(B:World)(d:Nat):
  ∀(l:List Oper) (e:yp) (a:Act),o5 P gl n ops cs K l e->SatA n e γ a->(∀r k,SatA n r γ k->Same (wb l) a k->K r->Q k)->wpStill P ops (mk B d h) Q l a
 |[],e,a,H,hs,hQ=>hQ _ _ hs (Same.refl _ _) H
 |o::rest,e,a,H,hs,hQ=>by
  unfold o5 at H;split at H;rename_i c E;cases hd:jy n c o.dst with
  |false=>rw[hd]at H;exact H.elim
  |true=>
   rw[hd]at H;simp only[zK]at H;have y:=FF hs E;have m:∀i,o.dst=Td i->i∈wb (o::rest):=λi hi=>by simp[wb,hi]
   have j:∀x∈wb rest,x∈wb (o::rest):=λx t=>by unfold wb;split;exact TS _ t;exact t
   obtain⟨av,A,D⟩:=JE (h0:=h0) (W:=W) (M0:=M0) q H;have b:∀u,(valid (qc a) c->DenV γ av u)->(¬valid (qc a) c->u=undef)->wpStill P ops (mk B d h) Q rest (a.put o.dst u):=λu h1 w=>
    vg q I B d rest _ _ A (hs.putO hd h1 w) λr k z F C=>hQ r k z ((Same.put a o.dst u m).trans (F.mono j)) C
   unfold wpStill;by_cases p:valid (qc a) c;rw[zA (y.2 p)];unfold Oper.still;obtain⟨v,h1,w⟩:=D n γ a h hs I p;rw[w B d,Oper.stillUpon_value];exact b v (λ_=>h1) (λf=>absurd p f);rw[zv (λt=>p (y.1 t))];exact b undef (λf=>absurd f p) (λ_=>rfl)
  exact H.elim
abbrev pk:=List (Nat×Nat)
def vO(P:Program)(gl:Fr)(tr:TypeId)(n:Nat)(f:pk)(id:Nat)(ops:Array Oper)(b:Bool)(R:CS)(K:yp->CS->Prop)(e:yp)(C:CS):Prop:=
 bif b then(match vu f id with
  |none=>bif Region.lexB .any ops then o5 P gl n ops (C++R) (λc=>K (mD c) C) ops.toList e else False
  |some m=>bif Region.lexTailB .any ops m then o5 P gl n ops (C++R) (λc=>nV P gl tr n ops R K (ops.toList.drop m) c C) (ops.toList.take m) e else False)
 else nV P gl tr n ops R K ops.toList e C
theorem KM(F:P.follows .mixedOrders=Ta)(f:Fr.le gl M0){tr:TypeId}{n:Nat}{G:pk}{id:Nat}{ops:Array Oper}{c:Bool}{R C:CS}{K:yp->CS->Prop}{e:yp} (H:vO P gl tr n G id ops c R K e C) {γ:Gh} {h:za} (B:World) (d:Nat) {a:Act} (z:SatA n e γ a) (I:Inv h0 W M0 (C++R) γ h) {Q:Exit->Act->World->Prop}
  (r:∀k E γ' i O h',SatA n k γ' i->Inv h0 W M0 (E++R) γ' h'->Same (wb ops.toList) a i->GxS (wb ops.toList) γ γ'->K k E->Q .normal i (mk B O h')):(V7 id ops c).wp P Q a (mk B d h):=by
 unfold vO at H;cases c with
 |false=>exact wp_region_list (wk f B _ _ _ _ _ _ _ H z I r)
 |true=>
  simp only[zK]at H;split at H;cases hB:Region.lexB .any ops with
  |false=>rw[hB]at H;exact H.elim
  |true=>rw[hB]at H;refine wp_region_still F hB ?_;exact vg f I B (d+1) _ _ _ H z λk i t A u=>r _ _ _ _ _ _ t.clean I A (GxS.refl _ _) u
  rename_i m _;cases hB:Region.lexTailB .any ops m with
  |false=>rw[hB]at H;exact H.elim
  |true=>
   rw[hB]at H;have b:wb ops.toList=wb (ops.toList.take m)++wb (ops.toList.drop m):=by rw[<-Yw,UF]
   have:=wp_region_still_tail (id:=id) (Q:=Q) (a:=a) (w:=mk B d h) (l:=ops.toList) m F (by simpa using hB) (by simp only[Array.toArray_toList];refine vg f I B (d+1) _ _ _ H z λk i t A u=>?_;refine wk f B _ _ _ _ _ _ (d+1) u t I λp q D o y h'' N M L J S=>r p q D o y h'' N M ?_ ?_ S;rw[b];exact(A.mono λx j=>TF _ j).trans (L.mono λx j=>TU _ j);rw[b];exact J.mono λx j=>TU _ j);simpa using this
end
section
variable {h0 : za} {W : Nat -> Prop} {M0 : Fr}
abbrev sD:=List (Nat×Nat×List Nat×List Nat×List Nat)
def DZ:sD->Nat->Option (Nat×List Nat×List Nat×List Nat)
 |[],_=>Te
 |(j,x)::l,i=>bif Nat.beq i j then Td x else DZ l i
def uI(P:Program)(gl:Fr)(tr:TypeId)(n:Nat)(c:pk)(f:sD)(id:Nat)(ops:Array Oper)(b:Bool)(R:CS)(K:yp->CS->Prop)(e:yp)(C:CS):Prop:=
 match DZ f id with
 |none=>vO P gl tr n c id ops b R K e C
 |some _=>False
theorem Nf{P:Program}(q:P.follows .mixedOrders=Ta){gl:Fr}(f:Fr.le gl M0){tr:TypeId}{n:Nat}{k:pk}{m:sD}{id:Nat}{ops:Array Oper}{b:Bool}{R C:CS}{K:yp->CS->Prop}{e:yp} (H:uI P gl tr n k m id ops b R K e C) {γ:Gh} {h:za} (B:World) (d:Nat) {a:Act} (o:SatA n e γ a) (I:Inv h0 W M0 (C++R) γ h) {Q:Exit->Act->World->Prop}
  (p:∀j i γ' c l h',SatA n j γ' c->Inv h0 W M0 (i++R) γ' h'->Same (wb ops.toList) a c->GxS (wb ops.toList) γ γ'->K j i->Q .normal c (mk B l h')):(V7 id ops b).wp P Q a (mk B d h):=by
 unfold uI at H;split at H;exact KM q f H B d o I p;exact H.elim
end
section
variable {S:List Nat} {γ γ':Gh} {u:Value} {C R:CS} {h:za} {n:Nat} {a:Act} {P:Program} {f:FuncId}
variable {h0 : za} {W : Nat -> Prop} {M0 : Fr}
structure PlanA where
 tails:pk
 draws:sD
 loops:List (Nat×AnnA)
 joins:List (Nat×AnnA)
def pR:List (Nat×AnnA)->Option Nat->Option AnnA
 |[],_=>Te
 |(j,m)::l,some i=>bif Nat.beq i j then Td m else pR l (Td i)
 |_,none=>Te
def nK:AA->List Nat
 |.box j _=>[j]
 |.own j=>[j]
 |.oelt j _ _ _=>[j]
 |_=>[]
def oX(S:List Nat):List AA->Bool
 |[]=>Ta
 |x::l=>bif (match nK x with
  |[]=>Ta
  |j::_=>!(Jr S j))then oX S l else Tc
def rE(S:List Nat):AG->Bool
 |.a x=>oX S [x]
 |.agg l=>oX S l
def su(S:List Nat):List AG->Bool
 |[]=>Ta
 |x::l=>bif rE S x then su S l else Tc
def yY(S:List Nat):AV->Bool
 |.g x=>rE S x
 |.tup l=>su S l
 |.nx _ _ _=>Ta
theorem DenA.gxS(g:GxS S γ γ'){x:AA}(c:(match nK x with
  |[]=>Ta
  |j::_=>!(Jr S j))=Ta)(h:DenA γ x u):DenA γ' x u:=by
 have key:∀j,Jr S j=Tc->γ'.β j=γ.β j/\γ'.σ j=γ.σ j:=λj n=>g.2 j (Q4 n);cases x with
 |v y=>exact h
 |d t y=>exact Rd.mono g.1 h
 |box j o=>rw[show u=_ from h];simp only[DenA,(key j (by simpa[nK]using c)).1]
 |own j=>rw[show u=_ from h];simp only[DenA,(key j (by simpa[nK]using c)).2]
 |oelt j z i o=>obtain⟨b,k,l⟩:=h;exact⟨b,by rw[(key j (by simpa[nK]using c)).2];exact k,l⟩
 |elt t y o=>obtain⟨b,f,cs,e,h1,m⟩:=h;exact⟨b,f,cs,e,g.1 _ _ h1,Rd.mono g.1 m⟩
 |dc t xs=>obtain⟨s,k,l,h⟩:=h;exact⟨s,k,l,Rd.mono g.1 h⟩
theorem DenL.gxS{S:List Nat}{γ γ':Gh}(g:GxS S γ γ'):∀{l:List AA} {us:List Value},oX S l=Ta->All2 (DenA γ) l us->All2 (DenA γ') l us
 |[],[],_,_=>trivial
 |[],_::_,_,h=>h.elim
 |_::_,[],_,h=>h.elim
 |x::l,u::us,hm,h=>by
  simp only[oX]at hm;cases hx:(match nK x with
   |[]=>Ta
   |j::_=>!(Jr S j))with
  |false=>simp_all
  |true=>rw[hx]at hm;exact⟨DenA.gxS g hx h.1,DenL.gxS g hm h.2⟩
theorem DenG.gxS(g:GxS S γ γ'){x:AG}(b:rE S x=Ta)(h:DenG γ x u):DenG γ' x u:=by
 cases x with
 |a x=>have:All2 (DenA γ') [x] [u]:=DenL.gxS g b (show All2 (DenA γ) [x] [u]from⟨h,trivial⟩);exact this.1
 |agg l=>obtain⟨us,e,h⟩:=h;exact⟨us,e,DenL.gxS g b h⟩
theorem DenV.gxS(g:GxS S γ γ'){x:AV}(f:yY S x=Ta)(h:DenV γ x u):DenV γ' x u:=by
 cases x with
 |g x=>exact DenG.gxS g f h
 |tup l=>
  obtain⟨us,e,h⟩:=h;refine⟨us,e,?_⟩;have:∀{l:List AG} {us:List Value},su S l=Ta->All2 (DenG γ) l us->All2 (DenG γ') l us:=by
   intro l;induction l with
   |nil=>intro us _ h;cases us with
    |nil=>trivial
    |cons _ _=>exact h.elim
   |cons x l i=>
    intro us f h;cases us with
    |nil=>exact h.elim
    |cons u us=>
     simp only[su]at f;cases hx:rE S x with
     |false=>simp_all
     |true=>rw[hx]at f;exact⟨DenG.gxS g hx h.1,i f h.2⟩
  exact this f h
 |nx b p c=>exact h
def kv(ms S:List Nat):yp->yp
 |[]=>[]
 |(i,[],v)::e=>bif Jr ms i then kv ms S e else(bif yY S v then(i,[],v)::kv ms S e else kv ms S e)
 |(_,_::_,_)::e=>kv ms S e
theorem Y5{ms S:List Nat}{γ j:Gh}{a a1:Act}(g:GxS S γ j)(b:Same ms a a1):∀{e:yp},(∀x∈e,mB γ (qc a) x)->∀x∈kv ms S e,mB j (qc a1) x
 |[],_,x,c=>by cases c
 |(i,[],v)::e,h,x,c=>by
  have k:=Y5 g b (e:=e) λx c=>h x (TS _ c);simp only[kv]at c;cases hm:Jr ms i with
  |true=>simp_all
  |false=>
   rw[hm]at c;simp only[zL]at c;cases hn:yY S v with
   |false=>simp_all
   |true=>rw[hn]at c;rcases Tz.1 c with rfl|c;refine⟨λ_=>?_,λf=>absurd trivial f⟩;have:=(h _ TQ).1 trivial;simp only at this ⊢;rw[b _ (Q4 hm)];exact this.gxS g hn;grind
 |(_,_::_,_)::e,h,x,c=>Y5 g b (e:=e) (λx c=>h x (TS _ c)) x c
def iU(ro:List Nat):CS->CS
 |[]=>[]
 |(c,k)::l=>bif Jr ro c then(c,k)::iU ro l else iU ro l
def nD(ro:List Nat):CS->CS
 |[]=>[]
 |(c,k)::l=>bif Jr ro c then nD ro l else(c,k)::nD ro l
theorem BH(ro:List Nat):∀C:CS,(nD ro C++iU ro C).Perm C
 |[]=>.nil
 |(c,k)::l=>by
  have b:=BH ro l;simp only[iU,nD];cases Jr ro c with
  |true=>exact List.perm_middle.trans (b.cons _)
  |false=>exact b.cons _
theorem Inv.part(I:Inv h0 W M0 (C++R) γ h)(ro:List Nat):Inv h0 W M0 (nD ro C++(iU ro C++R)) γ h:=by rw[<-TR];exact I.perm ((BH ro C).symm.append_right R)
abbrev X3:=Exit->yp->CS->Prop
def N2(K:yp->CS->Prop)(Q:X3):X3
 |.normal,e,C=>K e C
 |x,e,C=>Q x e C
def F8(id:Nat)(Q:X3):X3
 |.exit i,e,C=>bif Nat.beq i id then Q .normal e C else Q (.exit i) e C
 |x,e,C=>Q x e C
def GO(m:CS)(K:yp->CS->Prop)(Q:X3):X3
 |.normal,e,C=>K e C
 |x,e,C=>Q x e (C++m)
def ib(pl:PlanA):Code->List Nat
 |.region _ ops _=>wb ops.toList
 |.seq a b=>ib pl a++(ib pl b++(match pR pl.joins (yc b)with
  |some J=>J.ids
  |none=>[]))
 |.cond _ a b=>ib pl a++ib pl b
 |.block _ b=>ib pl b
 |.loop b=>ib pl b++(match pR pl.loops (yc b)with
  |some J=>J.ids
  |none=>[])
 |_=>[]
def pZ{X:Type}(J:AnnA)(R:CS)(F:jK (i5 J) X)(e:yp)(C:CS)(k:X->Prop):Prop:=
 match rJ J R e C with
 |some b=>match jW (i5 J) b F with
  |some q=>k q
  |none=>False
 |none=>False
theorem vY{X:Type}{J:AnnA}{F:jK (i5 J) X}{e:yp}{k:X->Prop}(h:pZ J R F e C k):∃b q,rJ J R e C=Td b/\jW (i5 J) b F=Td q/\k q:=by unfold pZ at h;grind
def WA(P:Program)(gl:Fr)(tr:TypeId)(n:Nat)(pl:PlanA):Code->CS->X3->yp->CS->Prop
 |.skip,_,Q,e,C=>Q .normal e C
 |.ret,_,Q,e,C=>Q .ret e C
 |.exit id,_,Q,e,C=>Q (.exit id) e C
 |.label _,_,Q,e,C=>Q .normal e C
 |.goto l,_,Q,e,C=>Q (.goto l) e C
 |.region id ops draw,R,Q,e,C=>uI P gl tr n pl.tails pl.draws id ops draw R (λe C=>Q .normal e C) e C
 |.seq x y,R,Q,e,C=>match pR pl.joins (yc y)with
  |none=>WA P gl tr n pl x R (N2 (λe C=>WA P gl tr n pl y R Q e C) Q) e C
  |some J=>∀K:jK (i5 J) Prop,qV (i5 J) K (λf q=>WA P gl tr n pl y R Q (mM J f++kv (j3 x) (J.ids++ib pl x) e) (mi J f++iU J.ro C)->q) ->
    WA P gl tr n pl x (iU J.ro C++R) (GO (iU J.ro C) (λh i=>pZ J (iU J.ro C++R) K h i λq=>q) Q) e (nD J.ro C)
 |.cond c x y,R,Q,e,C=>match jn e [] c with
  |some v=>match oo v with
   |some b=>(b=Ta->WA P gl tr n pl x R Q e C)/\(b=Tc->WA P gl tr n pl y R Q e C)
   |none=>False
  |none=>False
 |.block id x,R,Q,e,C=>WA P gl tr n pl x R (F8 id Q) e C
 |.loop x,R,Q,e,C=>match pR pl.loops (yc x)with
  |some J=>∃(I:jK (i5 J) Prop) (μ:jK (i5 J) Nat),pZ J (iU J.ro C++R) (pB (i5 J) I μ) e (nD J.ro C) (λp=>p.1) /\
    qV (i5 J) (pB (i5 J) I μ) λf p=>p.1->WA P gl tr n pl x (iU J.ro C++R) (GO (iU J.ro C) (λh i=>pZ J (iU J.ro C++R) (pB (i5 J) I μ) h i λq=>q.1/\q.2<p.2) Q)
     (mM J f++kv (j3 x) (J.ids++ib pl x) e) (mi J f)
  |none=>False
 |_,_,_,_,_=>False
def QZ(h0:za)(W:Nat->Prop)(M0:Fr)(n:Nat)(B:World)(ms S:List Nat)(c:Act)(b:Gh)(R:CS)(Q:X3):Exit->Act->World->Prop:=
 λx a w=>∃e C γ d h,w=mk B d h/\SatA n e γ a/\Inv h0 W M0 (C++R) γ h/\Same ms c a/\GxS S b γ/\Q x e C
theorem Ib{e:yp}{h γ f:Gh}{a a1:Act}(k:SatA n e h a){ms S ids:List Nat}(j:a1.defers=[])(hz:a1.tmps.size=n)(c:Same ms a a1)(g:GxS S h γ)(g1:GxS ids γ f){J:AnnA}{i:List Dy}
  (l:∀x∈mM J i,mB f (qc a1) x):SatA n (mM J i++kv ms (ids++S) e) f a1:=by
 refine⟨j,hz,λx b=>?_⟩;rcases TE.1 b with b|b;grind;exact Y5 ((g.mono λx b=>TU _ b).trans (g1.mono λx b=>TF _ b)) c k.all x b
theorem KT(hm:P.follows .mixedOrders=Ta){gl:Fr}(ak:Fr.le gl M0){tr:TypeId}{pl:PlanA}:∀(c:Code) (R:CS) (Q:X3) (e:yp) (C:CS),WA P gl tr n pl c R Q e C ->
  ∀(γ:Gh) (h:za) (B:World) (d:Nat) (a:Act),SatA n e γ a->Inv h0 W M0 (C++R) γ h->c.wp P (QZ h0 W M0 n B (j3 c) (ib pl c) a γ R Q) a (mk B d h):=by
 intro c;induction c with
 |skip=>exact λR Q e C H γ h B d a f I=>wp_skip ⟨e,C,γ,d,h,rfl,f,I,Same.refl _ _,GxS.refl _ _,H⟩
 |ret=>exact λR Q e C H γ h B d a f I=>wp_ret ⟨e,C,γ,d,h,rfl,f,I,Same.refl _ _,GxS.refl _ _,H⟩
 |exit id=>exact λR Q e C H γ h B d a f I=>wp_exit ⟨e,C,γ,d,h,rfl,f,I,Same.refl _ _,GxS.refl _ _,H⟩
 |label l=>exact λR Q e C H γ h B d a f I=>wp_label ⟨e,C,γ,d,h,rfl,f,I,Same.refl _ _,GxS.refl _ _,H⟩
 |goto l=>exact λR Q e C H γ h B d a f I=>wp_goto ⟨e,C,γ,d,h,rfl,f,I,Same.refl _ _,GxS.refl _ _,H⟩
 |region id ops aB=>exact λR Q e C H γ h B d a f I=>Nf hm ak H B d f I λe' C' γ' a' d' h' o r q3 q4 q5=>⟨e',C',γ',d',h',rfl,o,r,q3,q4,q5⟩
 |seq x y F L=>
  intro R Q e C H γ h B d a f I;simp only[WA]at H;have U:∀i∈j3 x,i∈j3 (x.seq y):=λi hi=>TF _ hi;have hr:∀i∈j3 y,i∈j3 (x.seq y):=λi hi=>TU _ hi;have V:∀i∈ib pl x,i∈ib pl (x.seq y):=λi hi=>TF _ hi;have kr:∀i∈ib pl y,i∈ib pl (x.seq y):=λi hi=>TU _ (TF _ hi);split at H;refine wp_seq (wp_mono (F _ _ _ _ H γ h B d a f I) ?_);rintro ex a1 w1 ⟨O,T,j,d1,h1,rfl,s1,z,u,g1,o⟩;cases ex with
  |normal=>refine wp_mono (L _ _ _ _ o j h1 B d1 a1 s1 z) ?_;rintro ex a2 w2 ⟨E,G,D,d2,t,rfl,s2,M,w,g2,r⟩;exact⟨E,G,D,d2,t,rfl,s2,M,(u.mono U).trans (w.mono hr),(g1.mono V).trans (g2.mono kr),r⟩
  |_=>exact⟨O,T,j,d1,h1,rfl,s1,z,u.mono U,g1.mono V,o⟩
  rename_i J hJ;have kJ:∀i∈J.ids,i∈ib pl (x.seq y):=λi hi=>by simp only[ib,hJ];simp_all
  have H':=H (pj (i5 J) λA=>WA P gl tr n pl y R Q (mM J A++kv (j3 x) (J.ids++ib pl x) e) (mi J A++iU J.ro C)) (Ea λA hq=>hq);refine wp_seq (wp_mono (F _ _ _ _ H' γ h B d a f (I.part J.ro)) ?_);rintro ex a1 w1 ⟨O,T,j,d1,h1,rfl,s1,z,u,g1,o⟩;cases ex with
  |normal=>obtain⟨A,q,hv,hq,hk⟩:=vY o;have ai:=GF hq;subst ai;obtain⟨aj,Y,Z,f1⟩:=vj hv s1 z;have aa:=Ib f s1.defers s1.size u g1 Z f1;rw[<-TR]at Y;refine wp_mono (L _ _ _ _ hk aj h1 B d1 a1 aa Y) ?_;rintro ex a2 w2 ⟨E,G,D,d2,t,rfl,s2,M,w,g2,r⟩;exact⟨E,G,D,d2,t,rfl,s2,M,(u.mono U).trans (w.mono hr),((g1.mono V).trans (Z.mono kJ)).trans (g2.mono kr),r⟩
  |_=>exact⟨O,T++iU J.ro C,j,d1,h1,rfl,s1,by simp_all,u.mono U,g1.mono V,o⟩
 |cond c x y F L=>intro R Q e C H γ h B d a f I;simp only[WA]at H;have U:∀i∈j3 x,i∈j3 (V0 c x y):=λi hi=>TF _ hi;have hr:∀i∈j3 y,i∈j3 (V0 c x y):=λi hi=>TU _ hi;have V:∀i∈ib pl x,i∈ib pl (V0 c x y):=λi hi=>TF _ hi;have kr:∀i∈ib pl y,i∈ib pl (V0 c x y):=λi hi=>TU _ hi;split at H;rename_i v hv;split at H;rename_i b N;refine wp_cond_split (vP N (xe f (c:=[]) trivial hv)) (λac=>?_) (λam=>?_);refine wp_mono (F _ _ _ _ (H.1 ac) γ h B d a f I) ?_;rintro ex a2 w2 ⟨E,G,D,d2,t,rfl,s2,M,w,g2,r⟩;exact⟨E,G,D,d2,t,rfl,s2,M,w.mono U,g2.mono V,r⟩;refine wp_mono (L _ _ _ _ (H.2 am) γ h B d a f I) ?_;rintro ex a2 w2 ⟨E,G,D,d2,t,rfl,s2,M,w,g2,r⟩;exact⟨E,G,D,d2,t,rfl,s2,M,w.mono hr,g2.mono kr,r⟩;exact H.elim;exact H.elim
 |block id x ih=>
  intro R Q e C H γ h B d a f I;refine wp_block (wp_mono (ih _ _ _ _ H γ h B d a f I) ?_);rintro ex a1 w1 ⟨O,T,j,d1,h1,rfl,s1,z,u,g1,o⟩;cases ex with
  |exit i=>simp only[F8]at o;simp only[Exit.inBlock];by_cases N:Nat.beq i id=Ta;rw[zA (TL N)];simp only[N,zK]at o;exact⟨O,T,j,d1,h1,rfl,s1,z,u,g1,o⟩;rw[zv (λhe=>N (by rw[he];simp))];simp only[N,zL]at o;exact⟨O,T,j,d1,h1,rfl,s1,z,u,g1,o⟩
  |_=>exact⟨O,T,j,d1,h1,rfl,s1,z,u,g1,o⟩
 |loop x ih=>
  intro R Q e C H γ h B d a f I;simp only[WA]at H;split at H;rename_i J hJ;have kx:∀i∈ib pl x,i∈ib pl (Code.loop x):=λi hi=>TF _ hi;have kJ:∀i∈J.ids,i∈ib pl (Code.loop x):=λi hi=>by simp only[ib,hJ];simp_all
  have kS:∀i∈J.ids++ib pl x,i∈ib pl (Code.loop x):=λi hi=>by grind
  obtain⟨Iv,μ,al,S⟩:=H;obtain⟨ab,p0,ay,az,ax⟩:=vY al;obtain⟨γ0,I0,g0,f0⟩:=vj ay f (I.part J.ro);refine wp_loop_ghost (λm a1 w1=>∃d1 h1 j A p,w1=mk B d1 h1/\a1.defers=[]/\a1.tmps.size=n/\Same (j3 x) a a1/\GxS (J.ids++ib pl x) γ j/\Inv h0 W M0 (mi J A++(iU J.ro C++R)) j h1/\(∀y∈mM J A,mB j (qc a1) y) /\ jW (i5 J) A (pB (i5 J) Iv μ)=Td p/\p.1/\p.2=m) p0.2 ⟨d,h,γ0,ab,p0,rfl,f.defers,f.size,Same.refl _ _,g0.mono λi hi=>TF _ hi,I0,f0,az,ax,rfl⟩ ?_;rintro m a1 w1 ⟨d1,h1,j,A,p,rfl,af,au,k,g1,z,f1,hp,aA,rfl⟩;have s1:SatA n (mM J A++kv (j3 x) (J.ids++ib pl x) e) j a1:=⟨af,au,λy hy=>by rcases TE.1 hy with hy|hy;grind;exact Y5 g1 k f.all y hy⟩;have N:=F4 hp S aA;refine wp_mono (ih _ _ _ _ N j h1 B d1 a1 s1 z) ?_;rintro ex a2 w2 ⟨E,G,D,d2,t,rfl,s2,M,w,g2,r⟩;cases ex with
  |normal=>obtain⟨ae,q,ar,hq,ah,an⟩:=vY r;obtain⟨γ3,I3,g3,f3⟩:=vj ar s2 M;exact⟨q.2,an,d2,t,γ3,ae,q,rfl,s2.defers,s2.size,k.trans w,(g1.trans (g2.mono λi hi=>TU _ hi)).trans (g3.mono λi hi=>TF _ hi),I3,f3,hq,ah,rfl⟩
  |_=>exact⟨E,G++iU J.ro C,D,d2,t,rfl,s2,by simp_all,k.trans w,(g1.mono kS).trans (g2.mono kx),r⟩
  exact H.elim
 |_=>exact λR Q e C H=>H.elim
def nt:Nat->List Arg->yp
 |_,[]=>[]
 |i,a::l=>(i,[],.g (qM a.t a.x))::nt (i+1) l
def tg(e:yp)(i:Nat):Option AV:=match lW e i with
 |some ([],v)=>Td v
 |_=>Te
def lR(P:Program)(cs:CS)(e:yp):List ResultVar->(List AV->Prop)->Prop
 |[],K=>K []
 |.tmp t::l,K=>match tg e t with
  |some v=>lR P cs e l λvs=>K (v::vs)
  |none=>False
 |.cell a t::l,K=>match tg e a with
  |some (.g (.a aa))=>oA P cs t aa Te λv=>lR P cs e l λvs=>K (v::vs)
  |_=>False
def yf(cs:CS):(l:List Ty)->List AV->Option (hG l)
 |[],[]=>Td ()
 |[t],[v]=>pX cs t v
 |t::t'::l,v::vs=>match pX cs t v,yf cs (t'::l) vs with
  |some x,some y=>Td (x,y)
  |_,_=>Te
 |_,_=>Te
theorem Ee{γ:Gh}{cs:CS}(b:kU γ cs):∀{l:List Ty} {vs:List AV} {r:hG l} {us:List Value},yf cs l vs=Td r->All2 (DenV γ) vs us->tM γ.M l r us
 |[],[],r,[],_,_=>rfl
 |[],[],_,_::_,_,h=>h.elim
 |[t],[v],r,[u],h,hd=>⟨u,rfl,vL b (by simpa[yf]using h) hd.1⟩
 |[t],[v],_,[],_,h=>h.elim
 |[t],[v],_,_::_::_,_,h=>h.2.elim
 |t::t'::l,v::vs,r,[],_,h=>h.elim
 |t::t'::l,v::vs,r,u::us,h,hd=>by simp only[yf]at h;split at h;rename_i x y h1 c;simp only[Tn]at h;subst h;exact⟨u,us,rfl,vL b h1 hd.1,Ee b c hd.2⟩;cases h
 |[],_::_,_,_,h,_=>by simp[yf]at h
 |[t],[],_,_,h,_=>by simp[yf]at h
 |[t],_::_::_,_,_,h,_=>by simp[yf]at h
 |t::t'::l,[],_,_,h,_=>by simp[yf]at h
def yM(P:Program)(rs:List ResultVar)(b:List Ty)(R:hG b->Prop):X3:=λx e C=>match x with
 |.normal=>lR P C e rs λvs=>match yf (frzL (Wg vs) C) b vs with
  |some r=>R r
  |none=>False
 |.ret=>lR P C e rs λvs=>match yf (frzL (Wg vs) C) b vs with
  |some r=>R r
  |none=>False
 |_=>False
theorem vz{P:Program}{n:Nat}{C:CS}{e:yp}{γ:Gh}{a:Act}{h:za}(E:SatA n e γ a)(I:Inv h0 W M0 C γ h):∀{l:List ResultVar} {K:List AV->Prop},lR P C e l K->∃vs us,K vs/\All2 (DenV γ) vs us/\us.length=l.length/\QExec P (l.mapM (mO a.tmps)) h us
 |[],K,H=>⟨[],[],H,trivial,rfl,λ_ _=>by simp⟩
 |.tmp t::l,K,H=>by
  simp only[lR]at H;split at H;rename_i v A;obtain⟨vs,us,h1,F,J,G⟩:=vz E I H;have j:DenV γ v (qc a t):=by unfold tg at A;split at A;rename_i u q;simp only[Tn]at A;subst A;exact(E.all _ (xu q)).1 trivial;cases A
  refine⟨v::vs,qc a t::us,h1,⟨j,F⟩,by simp[J],?_⟩;rw[VZ];exact QExec.bind (x:=qc a t) (QExec.pure _) (G.bind (QExec.pure _));exact H.elim
 |.cell x t::l,K,H=>by
  simp only[lR]at H;split at H;rename_i m w;obtain⟨v,O,N⟩:=Ao (h0:=h0) (W:=W) (M0:=M0) H;obtain⟨vs,us,h1,F,J,G⟩:=vz E I O;have j:DenA γ m (qc a x):=by unfold tg at w;split at w;rename_i u q;simp only[Tn]at w;subst w;exact(E.all _ (xu q)).1 trivial;cases w
  obtain⟨u,Q,B⟩:=N trivial γ h _ I j;refine⟨v::vs,u::us,h1,⟨Q,F⟩,by simp[J],?_⟩;rw[VZ];refine QExec.bind (x:=u) ?_ (G.bind (QExec.pure _));have L:∃p,qc a x=.pointer (Td p):=by
   have D:∀m,(∀k,sI C k m=Te)->(∀c z i o,m≠.oelt c z i o)->DenA γ m (qc a x)->oA P C t m Te (λv=>lR P C e l λvs=>K (v::vs))->False:=by intro m T M _ q;unfold oA at q;split at q;simp_all;exact q
   cases m with
   |box c o=>exact⟨_,j⟩
   |oelt c z i o=>obtain⟨g,_,e⟩:=j;grind
   |elt t y o=>obtain⟨b,f,cs,e,_⟩:=j;grind
   |v y=>exact(D _ (λ_=>rfl) (by simp) j H).elim
   |d t y=>exact(D _ (λ_=>rfl) (by simp) j H).elim
   |own c=>exact(D _ (λ_=>rfl) (by simp) j H).elim
   |dc t y=>exact(D _ (λ_=>rfl) (by simp) j H).elim
  obtain⟨p,r⟩:=L;rw[r]at B;have S:a.tmps.getD x undef=.pointer (Td p):=r;simp only[mO,S];exact B;exact H.elim
theorem RP{fn:Func}{rs:List ResultVar}(f:fn.results.toList=rs){us:List Value}(e:us.length=rs.length)(c:QExec P (rs.mapM (mO a.tmps)) h us):QExec P (results fn a.tmps) h (kj us):=by
 intro B d;have b:results fn a.tmps=(fn.results.mapM (mO a.tmps) >>= λvs=>VD (if h:vs.size=1 then vs[0]else .tuple vs)):=by unfold results;congr 1
 rw[b,Array.mapM_eq_mapM_toList,f,Sem.run_bind,Sem.run_map,c B d];simp only[Result.andThen_ok,Sem.run_pure]
 match us,e with
 |[],_=>rfl
 |[v],_=>rfl
 |v::u::vs,_=>simp[kj]
theorem Cm{γ:Gh}{σ:Nat->Value}:∀{l:List Arg} {i:Nat} {us:List Value},We γ.M l us->(∀j v,us[j]?=Td v->σ (i+j)=v)->∀x∈nt i l,mB γ σ x
 |[],_,_,_,_,x,b=>by cases b
 |a::l,i,[],h,_,x,b=>h.elim
 |a::l,i,u::us,h,hσ,x,b=>by simp only[nt,Tz]at b;rcases b with rfl|b;refine⟨λ_=>?_,λe=>absurd trivial e⟩;have:=hσ 0 u rfl;simp only at this ⊢;rw[show σ i=u from this];exact ue h.1;exact Cm h.2 (λj v c=>by have:=hσ (j+1) v (by simpa using c);grind) x b
theorem Kg(hm:P.follows .mixedOrders=Ta)(gl:Fr)(tr:TypeId)(pl:PlanA)(args:List Arg){fn:Func}{rs:List ResultVar}{o:List Ty}(V:P.funcs[f]?=Td fn)(z:Zz fn=Ta)(Z:fn.results.toList=rs)(hn:fn.ntmps=n)
  (hz:Nat.ble args.length n=Ta) {R:hG o->Prop} (H:WA P gl tr n pl (codeOf fn) [] (yM P rs o R) (nt 0 args) []):PC P gl f args o R:=by
 intro h M vs L y c B d;subst hn;have J:fn.body=Td (codeOf fn):=by unfold Zz at z;unfold codeOf;split at z;omega;cases z
 refine calls_of_wp V J ?_;have t:vs.length=args.length:=(All2.length c).symm;have aa:vs.length<=fn.ntmps:=by rw[t];exact UU hz
 let γ:Gh:=⟨M,λ_=>0,λ_=>⟨Te,0,0⟩⟩;have I:Inv h (λ_=>False) M ([]++[]) γ h:={ ag:=y,frame:=λ_ _ _=>rfl,size:=Tm _,old:=λ_ _=>rfl,le:=Fr.le.refl _,den:=λx G=>(by cases G),sep:=λx G=>(by cases G),apart:=List.Pairwise.nil };have hs:SatA fn.ntmps (nt 0 args) γ { tmps:=vs.toArray++Ve (fn.ntmps-vs.toArray.size) undef,defers:=[] }:=by refine⟨rfl,by simp;omega,Cm c λj v S=>?_⟩;have F:j<vs.length:=(T5.1 S).1;simp only[TJ,qc,Uv];rw[U9 (by simpa using F)];simp[S]
 have fin:∀(e:yp) (C:CS) (γ':Gh) (h':za) (a:Act),SatA fn.ntmps e γ' a->Inv h (λ_=>False) M (C++[]) γ' h'->(lR P C e rs λvs=>match yf (frzL (Wg vs) C) o vs with|some r=>R r|none=>False) ->
   ∃v,QExec P (results fn a.tmps) h' v/\Keep h.size h h'/\∃M' r,Fr.le M M'/\(∀b,b<h.size->M' b=M b)/\AgM M' h'/\Yg M' o r v/\R r:=by
  intro e C γ' h' a s1 m q;rw[Uq]at m;obtain⟨E,us,D,T,Y,p⟩:=vz s1 m q;split at D;rename_i r hc;obtain⟨U,l,g2⟩:=Inv.frzL (C:=C) (R:=[]) (γ:=γ') (Wg E) (by simpa using m);rw[Uq]at l;refine⟨kj us,RP Z Y p,⟨l.size,λi hi=>l.frame i hi (λh=>h)⟩,U.M,r,l.le,l.old,l.ag,⟨us,Ee l.fz hc (T.imp λv _ u hu=>hu.gx g2 rfl),rfl⟩,D⟩;exact D.elim
 refine wp_mono (KT hm L _ _ _ _ _ H γ h B d _ hs I) ?_;rintro ex a w ⟨Q,O,N,d1,h1,rfl,s1,m,m1,g1,A⟩;cases ex with
 |normal=>obtain⟨v,p,k,rest⟩:=fin Q O N h1 a s1 m A;exact⟨s1.defers,v,p B d1,v,d1,h1,rfl,rfl,k,rest⟩
 |ret=>obtain⟨v,p,k,rest⟩:=fin Q O N h1 a s1 m A;exact⟨s1.defers,v,p B d1,v,d1,h1,rfl,rfl,k,rest⟩
 |_=>exact A.elim
theorem Ix(c:P.follows .mixedOrders=Ta)(gl:Fr)(tr:TypeId)(pl:PlanA)(args:List Arg){fn:Func}{rs:List ResultVar}{b:List Ty}(h:P.funcs[f]?=Td fn)(j:Zz fn=Ta)(i:fn.results.toList=rs)(k:fn.ntmps=n)
  (hz:Nat.ble args.length n=Ta) {R:hG b->Prop} {F:Prop} (H:F) (e:F=WA P gl tr n pl (codeOf fn) [] (yM P rs b R) (nt 0 args) []):PC P gl f args b R:=
 Kg c gl tr pl args h j i k hz (e ▸ H)
end
end Go.X
end
section
namespace Go.X
open Go Go.RowKit
section
variable {P:Program} {f:FuncId} {h:za} {M gl:Fr} {v:Value} {us:List Value}
theorem XC.of_calls{args:Array Value}{R:Value->za->Prop}
  (H:∀B d,Calls P f args (mk B d h) λe w'=>∃v,e=.returned v/\w'.os=B.os/\w'.tape=B.tape/\w'.output=B.output/\R v w'.heap):XC P f args h R:=by
 intro B d;refine(H B d).mono ?_;rintro e w' ⟨v,rfl,h1,b,i,c⟩;refine⟨v,w'.drawn,w'.heap,rfl,?_,c⟩;cases w';simp only[mk]at *;subst h1;subst b;subst i;rfl
theorem AgM.keep{h h':za}(ag:AgM M h)(k:Keep h.size h h'):AgM M h':=λb c e=>by obtain⟨T,m,f⟩:=ag b c e;exact⟨T,m,by rw[k.get b (ag.lt e)];exact f⟩
def om:Arg->Option Value
 |⟨.int k,x⟩=>Td (.int k x)
 |⟨.bool,x⟩=>Td (.bool x)
 |⟨.str,x⟩=>Td (.string x)
 |_=>Te
def m8:List Arg->Option (List Value)
 |[]=>Td []
 |a::l=>match om a,m8 l with
  |some v,some vs=>Td (v::vs)
  |_,_=>Te
theorem Iu{a:Arg}{v u:Value}(h:om a=Td v)(b:RdV M a.t a.x u):u=v:=by
 obtain⟨t,x⟩:=a;cases t with
 |int k=>simp only[om,Tn]at h;subst h;simpa[RdV,Rd,fR]using b
 |bool=>simp only[om,Tn]at h;subst h;simpa[RdV,Rd,fR]using b
 |str=>simp only[om,Tn]at h;subst h;simpa[RdV,Rd,fR]using b
 |_=>simp[om]at h
theorem yT{M:Fr}:∀{l:List Arg} {vs us:List Value},m8 l=Td vs->We M l us->us=vs
 |[],vs,us,h,hd=>by
  simp only[m8,Tn]at h;subst h;cases us with
  |nil=>rfl
  |cons _ _=>exact hd.elim
 |a::l,vs,us,h,hd=>by
  simp only[m8]at h;split at h;rename_i v c h1 b;simp only[Tn]at h;subst h;cases us with
  |nil=>exact hd.elim
  |cons u us=>rw[Iu h1 hd.1,yT b hd.2]
  cases h
theorem PC.of_scal{args:List Arg}{l:List Ty}{R:hG l->Prop}(j:m8 args=Td us){r:hG l}(o:∀M,Yg M l r v)(p:R r)
  (H:∀w:World,AgM gl w.heap->Calls P f us.toArray w λe w'=>e=.returned v/\Below w.heap.size w w'):PC P gl f args l R:=by
 intro h M vs m ag n;rw[yT j n];refine XC.of_calls λB d=>(H (mk B d h) λb c e=>ag b c (m b c e)).mono ?_;rintro e w' ⟨rfl,i⟩;have k:Keep h.size h w'.heap:=⟨i.size,i.block⟩;exact⟨v,rfl,i.os,i.tape,i.output,k,M,r,Fr.le.refl _,λ_ _=>rfl,ag.keep k,o M,p⟩
theorem PC.of_same{args:List Arg}{c:List Ty}{R:hG c->Prop}(b:m8 args=Td us){r:hG c}(i:∀M,Yg M c r v)(k:R r)
  (H:∀w:World,AgM gl w.heap->Calls P f us.toArray w λe w'=>e=.returned v/\w'=w):PC P gl f args c R:=
 PC.of_scal b i k λw h=>(H w h).mono λe w' ⟨h1,j⟩=>⟨h1,j ▸ Below.refl _ _⟩
theorem GP(k:IntKind)(i:Int):Yg M [.int k] i (.int k i):=⟨[_],⟨_,rfl,rfl⟩,rfl⟩
theorem Of(b:Bool):Yg M [.bool] b (.bool b):=⟨[_],⟨_,rfl,rfl⟩,rfl⟩
theorem nG(s:Bt):Yg M [.str] s (.string s):=⟨[_],⟨_,rfl,rfl⟩,rfl⟩
theorem AgM.glob{w:World}(ag:AgM gl w.heap){b o:Nat}{cs:Array Value}(f:gl b=Td cs)(c:cs[o]?=Td v):w.cell? ⟨b,o,Option.none⟩=Td v:=by obtain⟨T,m,e⟩:=ag b cs f;simp[World.cell?,e,c]
theorem ML{xs:List Bt}{cells:List Value}(H:RowC M .str xs cells):cells=xs.map TH:=by
 obtain⟨h1,b⟩:=H;simp only[sz,Uj]at h1 b;refine List.ext_getElem (by simp[h1]) λi hi f=>?_;have c:i<xs.length:=by omega
 have:=b i c;have e:(cells.drop i).take 1=[cells[i]]:=by rw[Uk hi];rfl
 rw[e]at this;have:=show[cells[i]]=[TH xs[i]]from this;simpa using this
theorem PC.of_ex{args:List Arg}{l:List Ty}{R:hG l->Prop}(j:m8 args=Td us)
  (H:∀w:World,AgM gl w.heap->Calls P f us.toArray w λe w'=>∃v r,e=.returned v/\(∀M,Yg M l r v)/\R r/\Below w.heap.size w w'):PC P gl f args l R:=by
 intro h M vs m ag n;rw[yT j n];refine XC.of_calls λB d=>(H (mk B d h) λb c e=>ag b c (m b c e)).mono ?_;rintro e w' ⟨v,r,rfl,o,p,i⟩;have k:Keep h.size h w'.heap:=⟨i.size,i.block⟩;exact⟨v,rfl,i.os,i.tape,i.output,k,M,r,Fr.le.refl _,λ_ _=>rfl,ag.keep k,o M,p⟩
end
section
variable {P:Program} {gl M:Fr} {f:FuncId} {h h':za} {vs cs:List Value} {K:Value -> za -> Prop} {t:Ty} {u v:Value} {i:Int} {k:Nat}
def PX(P:Program)(f:FuncId)(vs:Array Value)(h:za)(M:Fr)(c:List Ty)(R:hG c->Prop):Prop:=
 XC P f vs h λv h'=>Keep h.size h h'/\∃M' r,Fr.le M M'/\(∀b,b<h.size->M' b=M b)/\AgM M' h'/\Yg M' c r v/\R r
theorem PC.px{args:List Arg}{b:List Ty}{R:hG b->Prop}(H:PC P gl f args b R)(c:Fr.le gl M)(ag:AgM M h)(e:We M args vs):PX P f vs.toArray h M b R:=H h M vs c ag e
structure Later (h:za) (M:Fr) (h':za) (M':Fr):Prop where
 keep:Keep h.size h h'
 le:Fr.le M M'
 old:∀b,b<h.size->M' b=M b
 ag:AgM M' h'
theorem Later.refl(ag:AgM M h):Later h M h M:=⟨Keep.refl _ _,Fr.le.refl _,λ_ _=>rfl,ag⟩
theorem Later.trans{h h' h'':za}{M M' M'':Fr}(a:Later h M h' M')(b:Later h' M' h'' M''):Later h M h'' M'':= ⟨a.keep.trans b.keep a.keep.size,a.le.trans b.le,λx c=>(b.old x (by have:=a.keep.size;omega)).trans (a.old x c),b.ag⟩
theorem Later.same(ag:AgM M h)(k:Keep h.size h h'):Later h M h' M:=⟨k,Fr.le.refl _,λ_ _=>rfl,ag.keep k⟩
theorem Later.push(ag:AgM M h)(o:Obj):Later h M (h.push o) M:=Later.same ag (Keep.push _ _ (Tm _))
theorem PX.go{vs:Array Value}{b:List Ty}{R:hG b->Prop}(H:PX P f vs h M b R)(l:∀v h' M' r,Later h M h' M'->Yg M' b r v->R r->K v h'):XC P f vs h K:= XC.mono H λv h' ⟨k,M',r,e,m,i,j,c⟩=>l v h' M' r ⟨k,e,m,i⟩ j c
theorem PX.of{vs:Array Value}{b:List Ty}{R:hG b->Prop}(H:XC P f vs h λv h'=>∃M' r,Later h M h' M'/\Yg M' b r v/\R r):PX P f vs h M b R:= XC.mono H λv h' ⟨M',r,l,e,c⟩=>⟨l.keep,M',r,l.le,l.old,l.ag,e,c⟩
theorem PC.go{args:List Arg}{b:List Ty}{R:hG b->Prop}(H:PC P gl f args b R)(e:Fr.le gl M)(ag:AgM M h)(c:We M args vs) (i:∀v h' M' r,Later h M h' M'->Yg M' b r v->R r->K v h'):XC P f vs.toArray h K:=(H.px e ag c).go i
theorem Qo{x:El t}(b:fR t=Tc):RdV M t x u↔Rd M t x [u]:=by unfold RdV;rw[b];simp
theorem Qf{x:El t}:Yg M [t] x v↔RdV M t x v:=by constructor;rintro⟨us,⟨u,rfl,h⟩,rfl⟩;exact h;intro h;exact⟨[v],⟨v,rfl,h⟩,rfl⟩
theorem Jk{b:Bool}(h:Yg M [.bool] b v):v=.bool b:=by have:=Qf.1 h;rw[Qo rfl]at this;simpa[Rd]using this
theorem IF{k:IntKind}(h:Yg M [.int k] i v):v=.int k i:=by have:=Qf.1 h;rw[Qo rfl]at this;simpa[Rd]using this
theorem lF{s:Bt}(h:Yg M [.str] s v):v=.string s:=by have:=Qf.1 h;rw[Qo rfl]at this;simpa[Rd]using this
theorem zy:We M [] []:=trivial
theorem zh{a:Arg}{l:List Arg}{us:List Value}(h:RdV M a.t a.x u)(b:We M l us):We M (a::l) (u::us):=⟨h,b⟩
theorem rdStr(s:Bt):RdV M .str s (.string s):=by rw[Qo rfl];rfl
theorem Qv(k:IntKind)(i:Int):RdV M (.int k) i (.int k i):=by rw[Qo rfl];rfl
theorem rdBool(b:Bool):RdV M .bool b (.bool b):=by rw[Qo rfl];rfl
theorem jw{s:Bt}(h:RdV M .str s u):u=.string s:=by rw[Qo rfl]at h;simpa[Rd]using h
theorem Xf{k:IntKind}(h:RdV M (.int k) i u):u=.int k i:=by rw[Qo rfl]at h;simpa[Rd]using h
theorem qe{v:Tr}(h:RdV M .tree v u):∃sk si:Sl,u=.agg #[.int .i64 v.kind,.string v.text,aK sk,aK si]/\Rd M (.row .str) v.keys [aK sk]/\Rd M (.row .tree) v.items [aK si]:=by unfold RdV at h;simp only[fR,if_true]at h;obtain⟨cs,rfl,j⟩:=h;obtain⟨m,n,rfl,h1,e⟩:=TrRd.keys j;have c:=h1;have b:=e;obtain⟨w1,f,a1,c1,k,_⟩:=c;obtain⟨w2,i,a2,c2,l,_⟩:=b;simp only[U4,and_true]at f i;subst f;subst i;subst k;subst l;exact⟨⟨a1,v.keys.length,c1⟩,⟨a2,v.items.length,c2⟩,rfl,h1,e⟩
theorem zu{v:Tr}{sk si:Sl}(h1:Rd M (.row .str) v.keys [aK sk])(b:Rd M (.row .tree) v.items [aK si]):RdV M .tree v (.agg #[.int .i64 v.kind,.string v.text,aK sk,aK si]):=by unfold RdV;simp only[fR,if_true];exact⟨[.int .i64 v.kind,.string v.text,aK sk,aK si],rfl,by cases v;exact TrRd.of h1 b⟩
theorem i4{xs:List (El t)}(h:RdV M (.row t) xs u):∃s:Sl,u=aK s/\Rd M (.row t) xs [aK s]:=by rw[Qo rfl]at h;have h':=h;obtain⟨w,e,a,c,q,_⟩:=h';simp only[U4,and_true]at e;subst e;subst q;exact⟨⟨a,xs.length,c⟩,rfl,h⟩
theorem rowLen{xs:List (El t)}{s:Sl}(h:Rd M (.row t) xs [aK s]):s.len=xs.length/\xs.length<=140737488355328/\xs.length<=s.cap:=by obtain⟨w,e,a,c,q,b,_⟩:=h;simp only[U4,and_true]at e;subst e;simp only[aK,Ua]at q;obtain⟨_,f,i⟩:=q;exact⟨f,b.1,by rw[i];exact b.2⟩
theorem rowAt{xs:List (El t)}{s:Sl}(h:Rd M (.row t) xs [aK s])(f:k<xs.length):∃b o cs,s.a=Td ⟨b,o,Te⟩/\M b=Td cs/\Rd M t xs[k] (cut cs (o+k*sz t) (sz t)):=by obtain⟨w,e,a,c,q,r,j⟩:=h;simp only[U4,and_true]at e;subst e;simp only[aK,Ua]at q;obtain⟨h1,n,p⟩:=q;rcases j with rfl|⟨b,o,cs,l,i,m⟩;simp at f;exact⟨b,o,cs,by rw[h1,l],i,m k f⟩
theorem nC{M:Fr}{h:za}(ag:AgM M h){b:Nat}{cs:Array Value}(j:M b=Td cs):∀{vs:List Value} {o i:Nat},cut cs (o+i) vs.length=vs->zc h ⟨b,o,Te⟩ i vs
 |[],_,_,_=>trivial
 |v::vs,o,i,e=>by
  unfold cut at e;have c:o+i<cs.toList.length:=by rcases Up (o+i) cs.toList.length with f|f;exact f;rw[Va f]at e;simp at e
  rw[Uk c,TI,Vv]at e;injection e with e1 e2;refine⟨?_,nC ag j (i:=i+1) e2⟩;rw[zd];refine ag.cell j ?_;rw[UA (by simpa using c),<-e1];simp
theorem oZ(ag:AgM M h){b:Nat}{cs:Array Value}(c:M b=Td cs){o:Nat}(e:cut cs o 1=[v]):zb h ⟨b,o,Te⟩=Td v:=by have:=nC (vs:=[v]) (o:=o) (i:=0) ag c (by simpa using e);exact this.1
theorem Wh(b o n:Nat):(⟨b,o,Te⟩:Addr).add n=⟨b,o+n,Te⟩:=zd b o n
theorem kR(ag:AgM M h){xs:List Bt}{s:Sl}(H:Rd M (.row .str) xs [aK s])(f:k<xs.length)(hi:i=(k:Int)){L:Nat}(hL:L=s.len){Q:Bt->Prop}(e:Q xs[k]):
  ∃a:Addr,(s.a=Td a/\0<=i/\i<(L:Int))/\∃x:Bt,zb h (a.add (i.toNat*1))=Td (.string x)/\Q x:=by
 obtain⟨b,o,cs,j,c,l⟩:=rowAt H f;have m:=(rowLen H).1;refine⟨_,⟨j,by omega,by omega⟩,xs[k],?_,e⟩;rw[Wh,hi,Tq];exact oZ ag c l
theorem Yj(ag:AgM M h){xs:List Tr}{s:Sl}(H:Rd M (.row .tree) xs [aK s])(f:k<xs.length):∃(a:Addr) (sk si:Sl),s.a=Td a/\zc h (a.add (k*4)) 0 [.int .i64 xs[k].kind,.string xs[k].text,aK sk,aK si]/\Rd M (.row .str) xs[k].keys [aK sk]/\Rd M (.row .tree) xs[k].items [aK si]:=by
 obtain⟨b,o,cs,j,e,l⟩:=rowAt H f;have m:RdV M .tree xs[k] (.agg (cut cs (o+k*sz .tree) (sz .tree)).toArray):=by unfold RdV;simp only[fR,if_true];exact⟨_,rfl,l⟩
 obtain⟨sk,si,q,h1,c⟩:=qe m;refine⟨_,sk,si,j,?_,h1,c⟩;rw[Wh];refine nC ag e (i:=0) ?_;have:(cut cs (o+k*sz .tree) (sz .tree))=[.int .i64 xs[k].kind,.string xs[k].text,aK sk,aK si]:=by injection q with q;exact congrArg Vu q
 exact this
def Mx(M:Fr)(b:Nat)(cs:Array Value):Fr:=λi=>if i=b then Td cs else M i
theorem Later.frz(ag:AgM M h)(cs:Array Value)(T:TypeId):Later h M (h.push (.cells cs T)) (Mx M h.size cs) where
 keep:=Keep.push _ _ (Tm _)
 le:=λb c e=>by have:=ag.lt e;unfold Mx;rw[zv (by omega)];exact e
 old:=λb hb=>by unfold Mx;rw[zv (by omega)]
 ag:=λb c e=>by unfold Mx at e;split at e;rename_i hb;subst hb;cases e;exact⟨T,(0,0),qj _ _⟩;obtain⟨T',m,e'⟩:=ag b c e;exact⟨T',m,by rw[(Keep.push h _ (Tm _)).get b (ag.lt e)];exact e'⟩
theorem mP(M:Fr)(b:Nat)(cs:Array Value):Mx M b cs b=Td cs:=by unfold Mx;rw[zA rfl]
theorem pr{T:TypeId}(k:Keep (h.size+1) (h.push (.cells cs.toArray T)) h'):zc h' ⟨h.size,0,Te⟩ 0 cs:= ((Blk.new h cs.toArray T).keep (k.get _ (by omega))).ld
theorem PP{T:TypeId}(k:Keep (h.size+1) (h.push (.cells cs.toArray T)) h'){i:Nat}(b:cs[i]?=Td v):zb h' ((⟨h.size,0,Te⟩:Addr).add i)=Td v:=by have:=((Blk.new h cs.toArray T).keep (k.get _ (by omega)));exact this.cellAdd (o:=0) (by simpa using b)
end
end Go.X
end
section
namespace Go.X
open Go Go.ChangeShapes Go.WideShapes Go.RowKit
set_option linter.unusedVariables false
section
variable {a:Addr} {cs:List Value} {fuel:Nat} {t e:TypeId} {P:Program}
def Fz(W:World):Fr:=λb=>match W.heap[b]? with|some (.cells cs _ _)=>some cs|_=>none
theorem Fz.ag(W:World):AgM (Fz W) W.heap:=by intro b c e;unfold Fz at e;split at e;rename_i cs T m f;cases e;exact⟨T,m,f⟩;cases e
theorem Fz.cell{W:World}{v:Value}(h:W.cell? a=some v):∃b o c,a=⟨b,o,none⟩/\Fz W b=some c/\c[o]?=some v:=by
 obtain⟨b,o,sp⟩:=a;unfold World.cell? at h;split at h;rename_i c T m e;cases sp with
 |some x=>simp at h
 |none=>refine⟨b,o,c,rfl,?_,by simpa using h⟩;unfold Fz;change W.heap[b]?=_ at e;rw[e]
 cases h
theorem Fz.cells{W:World}{n:Nat}(h:W.cells? 0 a n=some cs)(t:0<n):∃b o c,a=⟨b,o,none⟩/\Fz W b=some c/\cut c o n=cs:=by
 obtain⟨_,u,m⟩:=World.cells?_some h;have h0:=m 0 t;rw[Tv (by omega)]at h0;obtain⟨b,o,c,e,k,_⟩:=Fz.cell h0;obtain⟨q,l,sp⟩:=a;rw[show Tl ⟨q,l,sp⟩ 0=⟨q,l,sp⟩from rfl]at e;cases e;refine⟨b,o,c,rfl,k,?_⟩;have f:∀i,i<n->c[o+i]?=cs[i]?:=λi hi=>by have h1:=m i hi;rw[Tv (by omega)]at h1 ⊢;obtain⟨b2,w,c2,p,j,r⟩:=Fz.cell h1;rw[zd]at p;cases p;rw[k]at j;cases j;exact r
 unfold cut;apply Uf;intro i;by_cases hi:i<n;rw[Ud,if_pos hi,Ur,<-f i hi];simp;rw[Ud,if_neg hi,Un (by omega)]
theorem Ll{α:Type}{Q:Nat->α->Prop}(n:Nat)(h:∀i,i<n->∃z,Q i z):∃xs:List α,xs.length=n/\∀i (hi:i<xs.length),Q i xs[i]:=by refine⟨List.ofFn λi:Fin n=>Classical.choose (h i i.2),by simp,λi hi=>?_⟩;rw[List.getElem_ofFn];exact Classical.choose_spec (h i (by simpa using hi))
section
variable {H : Type} {enc : TypeId × Value -> H} {P : Program} {W : World} {sp : Nat -> Bool} {held : Bool}
def nz(P:Program)(t:TypeId)(d:DataW H):Prop:=∀n∈d.weights P t,n<=reachBytes
theorem E5{e:TypeId}{y:DataW H}:∀{l:List (DataW H)},y∈l->∀n∈y.weights P e,n∈DataW.weightsAll P e l
 |x::l,b,n,hn=>by unfold DataW.weightsAll;rcases Tz.1 b with rfl|b;exact TF _ hn;exact TU _ (E5 b n hn)
theorem Ge{T : Ty}{x : DataW H × List MemPlace}(ht : P.underlying t = some (.slice e))(hz : P.cellsOf e = sz T)(hp : 0 < sz T)(hby : 0 < P.bytesOf e) (hel : ∀ n, n < fuel -> ∀ cs y, DataW.trod enc P W 0 sp held n e cs = some y -> nz P e y.1 -> ∃ z : El T, Rd (Fz W) T z cs)
    (h : DataW.trod enc P W 0 sp held fuel t cs = some x) (hw : nz P t x.1) : ∃ xs : List (El T), Rd (Fz W) (.row T) xs cs := by
  rcases DataW.trod_slice ht h with ⟨rfl, _⟩ | ⟨a, len, cap, elems, rest, n, rfl, rfl, hx, _, hlc, hcap, hlen, hi, _, _⟩;exact ⟨[], _, rfl, none, 0, rfl, ⟨by simp, by simp⟩, .inl rfl⟩
  · have hwt : ∀ m, m = (elems.length + rest.length) * P.bytesOf e \/ m ∈ DataW.weightsAll P e (elems.map (·.1)) -> m <= reachBytes := λm hm => hw m (by rw [hx];unfold DataW.weights;rw [ht];simp only [Tz, TE, Tx];rcases hm with hm | hm;exact .inl hm;exact .inr (.inl hm));have hmax : len <= 140737488355328 := by
      have h1 := hwt _ (.inl rfl);have h2 : elems.length + rest.length <= (elems.length + rest.length) * P.bytesOf e := Nat.le_mul_of_pos_right _ hby;have h3 : reachBytes <= 140737488355328 := by decide
      omega
    have key : ∀ i, i < len -> ∃ z : El T, ∃ b o c, a.add (i * sz T) = ⟨b, o, none⟩ /\ Fz W b = some c /\ Rd (Fz W) T z (cut c o (sz T)) := λi hil => by have h1 := hi i hil;rw [Tv (by omega), Option.bind_eq_some_iff] at h1;obtain ⟨cc, h2, h3⟩ := h1;rw [hz] at h2;obtain ⟨b, o, c, e1, e2, e3⟩ := Fz.cells h2 hp;obtain ⟨z, hz⟩ := hel n (by omega) _ _ h3 λm hm => hwt m (.inr (E5 (Ub.2 ⟨elems[i], TA (by omega), rfl⟩) m hm));exact ⟨z, b, o, c, e1, e2, by rw [e3]; exact hz⟩
    obtain ⟨xs, hxl, hxs⟩ := Ll len key;subst hxl;refine ⟨xs, _, rfl, some a, cap, rfl, ⟨by omega, hlc⟩, ?_⟩;by_cases h0 : xs.length = 0;exact .inl (TT h0);obtain ⟨b, o, c, e1, e2, _⟩ := hxs 0 (by omega);obtain ⟨ab, ao, asp⟩ := a;rw [Nat.zero_mul, show Tl ⟨ab, ao, asp⟩ 0 = ⟨ab, ao, asp⟩ from rfl] at e1;cases e1;refine .inr ⟨b, o, c, rfl, e2, λi hil => ?_⟩;obtain ⟨b', o', c', e1', e2', e3'⟩ := hxs i hil;rw [zd] at e1';cases e1';rw [e2] at e2'; cases e2';simpa using e3'
theorem AU{x:DataW H×List MemPlace}(b:P.underlying t=some .string)(h:DataW.trod enc P W 0 sp held fuel t cs=some x):∃s:El .str,Rd (Fz W) .str s cs:=by obtain⟨s,rfl,_,_⟩:=DataW.trod_string b h;exact⟨s,rfl⟩
theorem Lt{k:IntKind}{x:DataW H×List MemPlace}(b:P.underlying t=some (.int k))(h:DataW.trod enc P W 0 sp held fuel t cs=some x):∃s:El (.int k),Rd (Fz W) (.int k) s cs:=by obtain⟨s,rfl,_,_⟩:=DataW.trod_int b h;exact⟨s,rfl⟩
theorem Sd{x:DataW H×List MemPlace}(j:P.underlying t=some (.slice e))(f:P.underlying e=some .string)(k:P.cellsOf e=1)(b:0<P.bytesOf e)
  (h:DataW.trod enc P W 0 sp held fuel t cs=some x) (c:nz P t x.1):∃xs:List ByteArray,Rd (Fz W) (.row .str) xs cs:=
 Ge (T:=.str) j k (by decide) b (λn _ cs y i _=>AU f i) h c
theorem four{a b c d:Value}(h:cs.length=4)(h0:(cs.drop 0).take 1=[a])(h1:(cs.drop 1).take 1=[b])(e:(cs.drop 2).take 1=[c])(f:(cs.drop 3).take 1=[d]):cs=[a,b,c,d]:=by
 match cs,h with
 |[w,x,y,z],_=>simp at h0 h1 e f;subst h0;subst h1;subst e;subst f;rfl
theorem OM{c ts tss tvs tk:TypeId}{o p e i:Field}(E:P.underlying c=some (.struct #[o,p,e,i]))(D:P.cellsOf c=4) (V:o.type=tk/\o.offset=0/\p.type=ts/\p.offset=1/\e.type=tss/\e.offset=2/\i.type=tvs/\i.offset=3) (J:P.underlying tk=some (.int .i64)) (us:P.underlying ts=some .string) (w:P.underlying tss=some (.slice ts)) (u:P.underlying tvs=some (.slice c)) (S:P.cellsOf tk=1) (cs':P.cellsOf ts=1) (q:P.cellsOf tss=1) (z:P.cellsOf tvs=1) (bs:0<P.bytesOf ts) (bv:0<P.bytesOf c):
  ∀(fuel:Nat) (cs:List Value) (x:DataW H×List MemPlace),DataW.trod enc P W 0 sp held fuel c cs=some x->nz P c x.1->∃t:Tr,Rd (Fz W) .tree t cs:=by
 intro fuel;induction fuel using Nat.strongRecOn with
 |_ fuel ih=>intro cs x h Y;obtain⟨xs,n,rfl,hx,hl,r,b⟩:=DataW.trod_struct E h;have l:∀(j:Nat) (f:Field) (G:j<xs.length),(#[o,p,e,i]:Array Field)[j]?=some f->nz P f.type (xs[j]).1:=λj f G Z m F=>Y m (by rw[hx];unfold DataW.weights;rw[E];exact DataW.weights_mem_each (j:=j) (t:=f.type) (d:=(xs[j]).1) (by rw[Us,Uh,Z];rfl) (by rw[Us,Tv G];rfl) m F);obtain⟨a0,o0,a1,U,a2,O,C,o3⟩:=V;have g0:=b 0 o rfl;have g1:=b 1 p rfl;have g2:=b 2 e rfl;have I:=b 3 i rfl;have B:xs.length=4:=r;rw[a0,o0,S,Tv (by omega)]at g0;rw[a1,U,cs',Tv (by omega)]at g1;rw[a2,O,q,Tv (by omega)]at g2;rw[C,o3,z,Tv (by omega)]at I;obtain⟨k,L⟩:=Lt J g0;obtain⟨s,e1⟩:=AU us g1;obtain⟨ks,Q⟩:=Sd w us cs' bs g2 (by have:=l 2 e (by omega) rfl;rw[a2]at this;exact this);obtain⟨is,e3⟩:=Ge (T:=.tree) u D (by decide) bv (λm F cs y hy A=>ih m (by omega) cs y hy A) I (by have:=l 3 i (by omega) rfl;rw[C]at this;exact this);obtain⟨vk,q2,M⟩:=Q;obtain⟨vi,N,h3⟩:=e3;have:=four (hl.trans D) L e1 q2 N;subst this;exact⟨.mk k s ks is,TrRd.of ⟨vk,rfl,M⟩ ⟨vi,rfl,h3⟩⟩
end
theorem Ma{f:FuncId}{W:World}{args:List Arg}{vs:Array Value}(H:PC P (Fz W) f args [.bool] (λr=>r=true))(i:We (Fz W) args vs.toList):
  Calls P f vs W λe w'=>e=.returned (.bool true)/\Below W.heap.size W w':=by
 have c:=H W.heap (Fz W) vs.toList (Fr.le.refl _) (Fz.ag W) i;rw[Array.toArray_toList]at c;refine(c W W.drawn).mono ?_;rintro e w' ⟨v,j,h',rfl,rfl,k,M',r,_,_,_,h,b⟩;have b:r=true:=b;subst b;rw[Jk h];exact⟨rfl,rfl,rfl,rfl,k.size,k.get⟩
theorem Gr{M:Fr}{t:Tr}{cs:Array Value}(h:Rd M .tree t cs.toList):RdV M .tree t (.agg cs):=by unfold RdV;simp only[fR,if_true];exact⟨cs.toList,by simp,h⟩
theorem Fz.var{W:World}{n:String}{g:Nat}{cs:Array Value}(b:P.globalNamed n=some g)(h:W.var? P n=some cs):Fz W g=some cs:=by unfold World.var? at h;rw[b]at h;exact h
end
end Go.X
end
section
namespace Go.Proofs
section
theorem Tryz.mixed:T6.follows .mixedOrders=true:=by kernel_rfl
noncomputable abbrev Tp:= T6
end
end Go.Proofs
end
section
namespace Go.X
section
theorem PF{gl:Fr}{args:List Arg}{f:FuncId}{fn:Func}{b:List Ty}{R:hG b->Prop}{F:Prop}(pl:PlanA)(rs:List ResultVar)(n:Nat)(c:T6.funcs[f]?=Td fn)(H:F)(i:Zz fn=Ta:=by kernel_rfl)(h:fn.results.toList=rs:=by kernel_rfl)(j:fn.ntmps=n:=by kernel_rfl)(hz:Nat.ble args.length n=Ta:=by kernel_rfl)(e:F=WA Tp gl 25 n pl (codeOf fn) [] (yM Tp rs b R) (nt 0 args) []:=by kernel_rfl):PC Tp gl f args b R:=Ix Tryz.mixed gl 25 pl args c i h j hz H e
theorem Pk(gl:Fr)(f:Tr)(e:Int)(R:Bool->Prop) (H:PC Tp gl 53 [Arg.mk .tree (Tr.mk f.kind f.text f.keys f.items),Arg.mk (.int .i64) e,Arg.mk (.int .i64) 0] [.int .i64] (λa:Int=>∃b:Bool->Prop,(decide (a>=0)=Ta->PC Tp gl 54 [Arg.mk .tree (Tr.mk f.kind f.text f.keys f.items)] [.bool] b)/\∀c:Bool,(decide (a>=0)=Ta->b c)->R (bif (decide (a>=0))then c else Tc))):
  PC Tp gl 12 [Arg.mk .tree f,Arg.mk (.int .i64) e] [.bool] R:=
 PF ⟨[],[],[],[]⟩ [.tmp 4] 15 Tryz.func12 H
theorem JA(gl:Fr)(h:Tr)(b1:Tr)(R:Bool->Prop) (H:((bif (bif (bif (h.kind != b1.kind)then Ta else(!(h.text.toList==b1.text.toList)))then Ta else((h.keys.length:Int) != (b1.keys.length:Int)))then Ta else((h.items.length:Int) != (b1.items.length:Int)))=Ta->R Tc)/\((bif (bif (bif (h.kind != b1.kind)then Ta else(!(h.text.toList==b1.text.toList)))then Ta else((h.keys.length:Int) != (b1.keys.length:Int)))then Ta else((h.items.length:Int) != (b1.items.length:Int)))=Tc->∃(a:Int->Prop) (b:Int->Nat),a 0/\∀c:Int,a c->((decide (c<h.keys.length)=Ta->∃d,(0<=c/\h.keys[c.toNat]?=Td d)/\∃e,(0<=c/\b1.keys[c.toNat]?=Td e)/\((!(d.toList==e.toList))=Ta->R Tc)/\((!(d.toList==e.toList))=Tc->(a (Tj .i64 (c+1))/\b (Tj .i64 (c+1))<b c)))/\(decide (c<h.keys.length)=Tc->∃(f:Int->Prop) (g:Int->Nat),f 0/\∀i:Int,f i->((decide (i<h.items.length)=Ta->∃j,(0<=i/\h.items[i.toNat]?=Td j)/\∃k,(0<=i/\b1.items[i.toNat]?=Td k)/\PC Tp gl 17 [Arg.mk .tree (Tr.mk j.kind j.text j.keys j.items),Arg.mk .tree (Tr.mk k.kind k.text k.keys k.items)] [.bool] (λl:Bool=>((!l)=Ta->R Tc)/\((!l)=Tc->(f (Tj .i64 (i+1))/\g (Tj .i64 (i+1))<g i))))/\(decide (i<h.items.length)=Tc->R Ta)))))):
  PC Tp gl 17 [Arg.mk .tree h,Arg.mk .tree b1] [.bool] R:=
 PF ⟨[(11,10)],[],[(4,⟨[(5,.one (.dat (.int .i64)))],[],[2,3],[100320]⟩),(9,⟨[(6,.one (.dat (.int .i64)))],[],[2,3],[100384]⟩)],[]⟩ [.tmp 4] 76 Tryz.func17 H
theorem G9(gl:Fr)(b:List Bt)(c:List Tr)(R:Tr->Prop) (H:R (Tr.mk 6 (⟨#[]⟩:Bt) b c)):
  PC Tp gl 47 [Arg.mk (.row .str) b,Arg.mk (.row .tree) c] [.tree] R:=
 PF ⟨[],[],[],[]⟩ [.cell 4 25] 8 Tryz.func47 H
theorem Sf(gl:Fr)(b:List Tr)(R:Tr->Prop) (H:R (Tr.mk 5 (⟨#[]⟩:Bt) [] b)):
  PC Tp gl 52 [Arg.mk (.row .tree) b] [.tree] R:=
 PF ⟨[],[],[],[]⟩ [.cell 2 25] 5 Tryz.func52 H
theorem SD(gl:Fr)(n0:Int)(R:Tr->Prop) (H:PC Tp gl 93 [Arg.mk (.int .i64) n0] [.pair .bool (.pair .str (.int .i64))] (λa:Bool×Bt×Int=>PC Tp gl 92 [Arg.mk (.pair .bool (.pair .str (.int .i64))) (a.1,(a.2.1,a.2.2))] [.str] (λb:Bt=>R (Tr.mk 3 b [] [])))):
  PC Tp gl 51 [Arg.mk (.int .i64) n0] [.tree] R:=
 PF ⟨[],[],[],[]⟩ [.cell 2 25] 7 Tryz.func51 H
theorem Mp(gl:Fr)(b:Bt)(R:Bool->Prop) (H:PC Tp gl 196 [Arg.mk .str b] [.int .i64,.bool] (λa:Int×Bool=>R a.2)):
  PC Tp gl 137 [Arg.mk .str b] [.bool] R:=
 PF ⟨[],[],[],[]⟩ [.tmp 2] 11 Tryz.func137 H
theorem KJ(gl:Fr)(j:Tr)(i:Int)(h:Int)(R:Int->Prop) (H:(decide (h>60)=Ta->R (-1))/\(decide (h>60)=Tc->∃(a:Int->Int->Prop) (b:Int->Int->Nat),a (Tj .i64 ((Tj .i64 (i-1))-(j.keys.length:Int))) 0/\∀c d:Int,a c d->(((bif (decide (d<j.items.length))then(decide (c>=0))else Tc)=Ta->∃e,(0<=d/\j.items[d.toNat]?=Td e)/\PC Tp gl 53 [Arg.mk .tree (Tr.mk e.kind e.text e.keys e.items),Arg.mk (.int .i64) c,Arg.mk (.int .i64) (Tj .i64 (h+1))] [.int .i64] (λf:Int=>(a f (Tj .i64 (d+1))/\b f (Tj .i64 (d+1))<b c d)))/\((bif (decide (d<j.items.length))then(decide (c>=0))else Tc)=Tc->R c)))):
  PC Tp gl 53 [Arg.mk .tree j,Arg.mk (.int .i64) i,Arg.mk (.int .i64) h] [.int .i64] R:=
 PF ⟨[],[],[(5,⟨[(1,.one (.dat (.int .i64))),(7,.one (.dat (.int .i64)))],[],[3],[100064,100448]⟩)],[]⟩ [.tmp 6] 37 Tryz.func53 H
theorem Sx(gl:Fr)(h:Tr)(R:Bool->Prop) (H:(decide ((h.text.size:Int)>2048)=Ta->R Tc)/\(decide ((h.text.size:Int)>2048)=Tc->∃(a:Int->Prop) (b:Int->Nat),a 0/\∀c:Int,a c->((decide (c<h.keys.length)=Ta->∃d,(0<=c/\h.keys[c.toNat]?=Td d)/\(decide ((d.size:Int)>1024)=Ta->R Tc)/\(decide ((d.size:Int)>1024)=Tc->(a (Tj .i64 (c+1))/\b (Tj .i64 (c+1))<b c)))/\(decide (c<h.keys.length)=Tc->∃(e:Int->Prop) (f:Int->Nat),e 0/\∀g:Int,e g->((decide (g<h.items.length)=Ta->∃i,(0<=g/\h.items[g.toNat]?=Td i)/\PC Tp gl 54 [Arg.mk .tree (Tr.mk i.kind i.text i.keys i.items)] [.bool] (λj:Bool=>((!j)=Ta->R Tc)/\((!j)=Tc->(e (Tj .i64 (g+1))/\f (Tj .i64 (g+1))<f g))))/\(decide (g<h.items.length)=Tc->R Ta)))))):
  PC Tp gl 54 [Arg.mk .tree h] [.bool] R:=
 PF ⟨[],[],[(4,⟨[(3,.one (.dat (.int .i64)))],[],[1],[100192]⟩),(9,⟨[(4,.one (.dat (.int .i64)))],[],[1],[100256]⟩)],[]⟩ [.tmp 2] 39 Tryz.func54 H
theorem KZ(gl:Fr)(n0:Bool×Bt×Int)(R:Bt->Prop) (H:PC Tp gl 158 [Arg.mk (.pair .bool (.pair .str (.int .i64))) (n0.1,(n0.2.1,n0.2.2))] [.bool] (λa:Bool=>((!a)=Ta->R (⟨#[]⟩:Bt))/\((!a)=Tc->((n0.2.1.toList==(⟨#[]⟩:Bt).toList)=Ta->R (⟨#[48]⟩:Bt))/\((n0.2.1.toList==(⟨#[]⟩:Bt).toList)=Tc->∀b:Bt->Prop,(∀c:Bt,(((n0.2.2 != 0)=Ta->PC Tp gl 159 [Arg.mk (.int .i64) n0.2.2] [.str] (λd:Bt=>yz (((⟨#[101]⟩:Bt)).size+d.size)/\yz (c.size+((⟨#[101]⟩:Bt)++d).size)/\R (c++((⟨#[101]⟩:Bt)++d))))/\((n0.2.2 != 0)=Tc->R c))->b c)->(n0.1=Ta->yz (((⟨#[45]⟩:Bt)).size+n0.2.1.size)/\b ((⟨#[45]⟩:Bt)++n0.2.1))/\(n0.1=Tc->b n0.2.1))))):
  PC Tp gl 92 [Arg.mk (.pair .bool (.pair .str (.int .i64))) n0] [.str] R:=
 PF ⟨[],[],[],[(8,⟨[(3,.one (.dat .str))],[],[1],[100192]⟩)]⟩ [.tmp 2] 26 Tryz.func92 H
theorem HT(gl:Fr)(n0:Int)(R:(Bool×Bt×Int)->Prop) (H:PC Tp gl 159 [Arg.mk (.int .i64) n0] [.str] (λa:Bt=>PC Tp gl 160 [Arg.mk .str a] [.pair .bool (.pair .str (.int .i64)),.int .i64] (λb:(Bool×Bt×Int)×Int=>R (b.1.1,(b.1.2.1,b.1.2.2))))):
  PC Tp gl 93 [Arg.mk (.int .i64) n0] [.pair .bool (.pair .str (.int .i64))] R:=
 PF ⟨[],[],[],[]⟩ [.cell 2 110] 12 Tryz.func93 H
theorem Oz(gl:Fr)(f:Bt)(R:(Int×Bool)->Prop) (H:PC Tp gl 246 [Arg.mk .str f] [.bool] (λa:Bool=>(a=Ta->R ((f.size:Int),Ta))/\(a=Tc->∃(b:(Bt×Nat)->Prop) (c:(Bt×Nat)->Nat),b (f,0)/\∀e:Bt×Nat,b e->(((iH e.1 e.2)=Ta->(iH e.1 e.2)=Ta/\(iH e.1 e.2)=Ta/\(((jO e.1 e.2:Int) != 65533)=Ta->(b (e.1,iA e.1 e.2)/\c (e.1,iA e.1 e.2)<c e))/\(((jO e.1 e.2:Int) != 65533)=Tc->(0<=(e.2:Int)/\(e.2:Int)<=(f.size:Int)/\(f.size:Int)<=(f.size:Int))/\PC Tp gl 247 [Arg.mk .str (f.extract (e.2:Int).toNat (f.size:Int).toNat)] [.int .i32,.int .i64] (λd:Int×Int=>((d.2==1)=Ta->R ((e.2:Int),Tc))/\((d.2==1)=Tc->(b (e.1,iA e.1 e.2)/\c (e.1,iA e.1 e.2)<c e)))))/\((iH e.1 e.2)=Tc->R ((f.size:Int),Ta)))))):
  PC Tp gl 196 [Arg.mk .str f] [.int .i64,.bool] R:=
 PF ⟨[],[],[(4,⟨[],[(13,[.dat .iter])],[],[1000832]⟩)],[]⟩ [.tmp 2,.tmp 3] 32 Tryz.func196 H
theorem PW(gl:Fr)(e:Tr)(R:Bool->Prop) (H:PC Tp gl 43 [Arg.mk .tree (Tr.mk e.kind e.text e.keys e.items)] [.int .i64] (λa:Int=>∃b:Int->Prop,(decide (a<=4096)=Ta->PC Tp gl 144 [Arg.mk .tree (Tr.mk e.kind e.text e.keys e.items)] [.int .i64] b)/\∀c:Int,(decide (a<=4096)=Ta->b c)->R (bif (decide (a<=4096))then(decide (c<=32))else Tc))):
  PC Tp gl 86 [Arg.mk .tree e] [.bool] R:=
 PF ⟨[],[],[],[]⟩ [.tmp 2] 11 Tryz.func86 H
theorem OZ(gl:Fr)(e:Tr)(R:Bool->Prop) (H:((e.kind==5)=Ta->R (bif (!(decide ((e.keys.length:Int)>0)))then(e.text.toList==(⟨#[]⟩:Bt).toList)else Tc))/\((e.kind==5)=Tc->((e.kind==6)=Ta->PC Tp gl 147 [Arg.mk (.row .str) e.keys,Arg.mk (.int .i64) (e.items.length:Int)] [.bool] (λa:Bool=>R (bif a then(e.text.toList==(⟨#[]⟩:Bt).toList)else Tc)))/\((e.kind==6)=Tc->((bif (decide ((e.keys.length:Int)>0))then Ta else(decide ((e.items.length:Int)>0)))=Ta->R Tc)/\((bif (decide ((e.keys.length:Int)>0))then Ta else(decide ((e.items.length:Int)>0)))=Tc->((e.kind==1)=Ta->R (e.text.toList==(⟨#[]⟩:Bt).toList))/\((e.kind==1)=Tc->((e.kind==2)=Ta->R (bif (e.text.toList==(⟨#[116,114,117,101]⟩:Bt).toList)then Ta else(e.text.toList==(⟨#[102,97,108,115,101]⟩:Bt).toList)))/\((e.kind==2)=Tc->((e.kind==3)=Ta->PC Tp gl 148 [Arg.mk .str e.text] [.pair .bool (.pair .str (.int .i64)),.bool] (λb:(Bool×Bt×Int)×Bool=>R b.2))/\((e.kind==3)=Tc->((e.kind==4)=Ta->PC Tp gl 149 [Arg.mk .str e.text] [.bool] (λc:Bool=>R c))/\((e.kind==4)=Tc->((e.kind==7)=Ta->PC Tp gl 150 [Arg.mk .str e.text] [.bool] (λd:Bool=>R d))/\((e.kind==7)=Tc->R Tc))))))))):
  PC Tp gl 89 [Arg.mk .tree e] [.bool] R:=
 PF ⟨[],[],[],[]⟩ [.tmp 2] 79 Tryz.func89 H
theorem GR(gl:Fr)(n0:Bool×Bt×Int)(R:Bool->Prop) (H:(((n0.1==Tc)&&((n0.2.1.toList==(⟨#[]⟩:Bt).toList)&&((n0.2.2==0)&&Ta)))=Ta->R Ta)/\(((n0.1==Tc)&&((n0.2.1.toList==(⟨#[]⟩:Bt).toList)&&((n0.2.2==0)&&Ta)))=Tc->PC Tp gl 215 [Arg.mk .str n0.2.1] [.bool] (λa:Bool=>((!a)=Ta->((!a)=Ta->R Tc)/\((!a)=Tc->R (bif (decide (n0.2.2>=(-1000000)))then(decide (n0.2.2<=1000000))else Tc)))/\((!a)=Tc->(decide ((n0.2.1.size:Int)>1000)=Ta->(decide ((n0.2.1.size:Int)>1000)=Ta->R Tc)/\(decide ((n0.2.1.size:Int)>1000)=Tc->R (bif (decide (n0.2.2>=(-1000000)))then(decide (n0.2.2<=1000000))else Tc)))/\(decide ((n0.2.1.size:Int)>1000)=Tc->(0<=(0:Int)/\(0:Int)<(n0.2.1.size:Int))/\(((yu n0.2.1 (0:Int).toNat:Int)==48)=Ta->(((yu n0.2.1 (0:Int).toNat:Int)==48)=Ta->R Tc)/\(((yu n0.2.1 (0:Int).toNat:Int)==48)=Tc->R (bif (decide (n0.2.2>=(-1000000)))then(decide (n0.2.2<=1000000))else Tc)))/\(((yu n0.2.1 (0:Int).toNat:Int)==48)=Tc->(0<=(Tj .i64 ((n0.2.1.size:Int)-1))/\(Tj .i64 ((n0.2.1.size:Int)-1))<(n0.2.1.size:Int))/\(((yu n0.2.1 (Tj .i64 ((n0.2.1.size:Int)-1)).toNat:Int)==48)=Ta->R Tc)/\(((yu n0.2.1 (Tj .i64 ((n0.2.1.size:Int)-1)).toNat:Int)==48)=Tc->R (bif (decide (n0.2.2>=(-1000000)))then(decide (n0.2.2<=1000000))else Tc)))))))):
  PC Tp gl 158 [Arg.mk (.pair .bool (.pair .str (.int .i64))) n0] [.bool] R:=
 PF ⟨[],[],[],[]⟩ [.tmp 2] 34 Tryz.func158 H
theorem Hj(gl:Fr)(r:Bt)(R:((Bool×Bt×Int)×Int)->Prop) (H:PC Tp gl 217 [Arg.mk .str r] [.pair .bool (.pair .bool (.pair .str (.pair .str .str))),.bool] (λa:(Bool×Bool×Bt×Bt×Bt)×Bool=>PC Tp gl 218 [Arg.mk .str a.1.2.2.2.2,Arg.mk .str (⟨#[48]⟩:Bt)] [.str] (λb:Bt=>((!a.2)=Ta->R ((Tc,((⟨#[]⟩:Bt),0)),2))/\((!a.2)=Tc->((decide ((Tj .i64 ((a.1.2.2.1.size:Int)+(a.1.2.2.2.1.size:Int)))>1000))=Ta->R ((Tc,((⟨#[]⟩:Bt),0)),3))/\((decide ((Tj .i64 ((a.1.2.2.1.size:Int)+(a.1.2.2.2.1.size:Int)))>1000))=Tc->(decide ((b.size:Int)>9)=Ta->R ((Tc,((⟨#[]⟩:Bt),0)),4))/\(decide ((b.size:Int)>9)=Tc->∃(c:Int->Bool->Bt->Int->(Bt×Nat)->Prop) (d:Int->Bool->Bt->Int->(Bt×Nat)->Nat),c 0 Tc (⟨#[]⟩:Bt) 0 (b,0)/\∀e:Int,∀m:Bool,∀l:Bt,∀n:Int,∀h:Bt×Nat,c e m l n h->(((iH h.1 h.2)=Ta->(iH h.1 h.2)=Ta/\(c (Tj .i64 ((Tj .i64 (10*e))+(Tj .i64 (Tj .i32 ((jO h.1 h.2)-48))))) m l n (h.1,iA h.1 h.2)/\d (Tj .i64 ((Tj .i64 (10*e))+(Tj .i64 (Tj .i32 ((jO h.1 h.2)-48))))) m l n (h.1,iA h.1 h.2)<d e m l n h))/\((iH h.1 h.2)=Tc->∀f:Int->Bool->Bt->Int->Prop,(∀g:Int,∀o:Bool,∀q:Bt,∀p:Int,(yz (a.1.2.2.1.size+a.1.2.2.2.1.size)/\PC Tp gl 218 [Arg.mk .str (a.1.2.2.1++a.1.2.2.2.1),Arg.mk .str (⟨#[48]⟩:Bt)] [.str] (λi:Bt=>((i.toList==(⟨#[]⟩:Bt).toList)=Ta->R ((Tc,((⟨#[]⟩:Bt),0)),0))/\((i.toList==(⟨#[]⟩:Bt).toList)=Tc->PC Tp gl 219 [Arg.mk .str i,Arg.mk .str (⟨#[48]⟩:Bt)] [.str] (λj:Bt=>PC Tp gl 158 [Arg.mk (.pair .bool (.pair .str (.int .i64))) (a.1.1,(j,Tj .i64 ((Tj .i64 ((Tj .i64 (g-(a.1.2.2.2.1.size:Int)))+(i.size:Int)))-(j.size:Int))))] [.bool] (λk:Bool=>((!k)=Ta->R ((Tc,((⟨#[]⟩:Bt),0)),4))/\((!k)=Tc->R ((a.1.1,(j,Tj .i64 ((Tj .i64 ((Tj .i64 (g-(a.1.2.2.2.1.size:Int)))+(i.size:Int)))-(j.size:Int)))),0)))))))->f g o q p)->(a.1.2.1=Ta->f (Tj .i64 (0-e)) m l n)/\(a.1.2.1=Tc->f e m l n))))))))):
  PC Tp gl 160 [Arg.mk .str r] [.pair .bool (.pair .str (.int .i64)),.int .i64] R:=
 PF ⟨[],[],[(11,⟨[(7,.one (.dat (.int .i64)))],[(2,[.dat .bool,.dat .str,.dat (.int .i64)]),(41,[.dat .iter])],[4],[100448,1000128,1000129,1000130,1002624]⟩)],[(16,⟨[(7,.one (.dat (.int .i64)))],[(2,[.dat .bool,.dat .str,.dat (.int .i64)])],[4],[100448,1000128,1000129,1000130]⟩)]⟩ [.cell 2 110,.tmp 3] 86 Tryz.func160 H
theorem Ij(gl:Fr)(h:Tr)(R:Int->Prop) (H:∃(a:Int->Int->Prop) (b:Int->Int->Nat),a 1 0/\∀c d:Int,a c d->((decide (d<h.items.length)=Ta->∃e,(0<=d/\h.items[d.toNat]?=Td e)/\PC Tp gl 43 [Arg.mk .tree (Tr.mk e.kind e.text e.keys e.items)] [.int .i64] (λf:Int=>(a (Tj .i64 (c+f)) (Tj .i64 (d+1))/\b (Tj .i64 (c+f)) (Tj .i64 (d+1))<b c d)))/\(decide (d<h.items.length)=Tc->R c))):
  PC Tp gl 43 [Arg.mk .tree h] [.int .i64] R:=
 PF ⟨[],[],[(3,⟨[(3,.one (.dat (.int .i64))),(9,.one (.dat (.int .i64)))],[],[],[100192,100576]⟩)],[]⟩ [.tmp 2] 19 Tryz.func43 H
theorem MD(gl:Fr)(h:Tr)(R:Int->Prop) (H:∃(a:Int->Int->Prop) (b:Int->Int->Nat),a 0 0/\∀c d:Int,a c d->((decide (d<h.items.length)=Ta->∃e,(0<=d/\h.items[d.toNat]?=Td e)/\PC Tp gl 144 [Arg.mk .tree (Tr.mk e.kind e.text e.keys e.items)] [.int .i64] (λf:Int=>(a (if c<f then f else c) (Tj .i64 (d+1))/\b (if c<f then f else c) (Tj .i64 (d+1))<b c d)))/\(decide (d<h.items.length)=Tc->R (Tj .i64 (c+1))))):
  PC Tp gl 144 [Arg.mk .tree h] [.int .i64] R:=
 PF ⟨[],[],[(3,⟨[(3,.one (.dat (.int .i64))),(9,.one (.dat (.int .i64)))],[],[],[100192,100576]⟩)],[]⟩ [.tmp 2] 20 Tryz.func144 H
theorem G6(gl:Fr)(b:Bt)(R:Bool->Prop) (H:PC Tp gl 196 [Arg.mk .str b] [.int .i64,.bool] (λa:Int×Bool=>R a.2)):
  PC Tp gl 149 [Arg.mk .str b] [.bool] R:=
 PF ⟨[],[],[],[]⟩ [.tmp 2] 11 Tryz.func149 H
theorem Ie(gl:Fr)(c:Bt)(R:Bool->Prop) (H:PC Tp gl 148 [Arg.mk .str c] [.pair .bool (.pair .str (.int .i64)),.bool] (λa:(Bool×Bt×Int)×Bool=>PC Tp gl 209 [Arg.mk (.pair .bool (.pair .str (.int .i64))) (a.1.1,(a.1.2.1,a.1.2.2))] [.int .i64,.bool] (λb:Int×Bool=>R (bif (bif a.2 then b.2 else Tc)then(decide (b.1>=0))else Tc)))):
  PC Tp gl 150 [Arg.mk .str c] [.bool] R:=
 PF ⟨[],[],[],[]⟩ [.tmp 2] 25 Tryz.func150 H
theorem Z7(gl:Fr)(b:Bt)(R:Bool->Prop) (H:R (!(b.toList==b.toList))):
  PC Tp gl 207 [Arg.mk .str b] [.bool] R:=
 PF ⟨[],[],[],[]⟩ [.tmp 2] 6 Tryz.func207 H
theorem MX(gl:Fr)(e:Bt)(R:Bool->Prop) (H:∃(a:(Bt×Nat)->Prop) (b:(Bt×Nat)->Nat),a (e,0)/\∀c:Bt×Nat,a c->(((iH c.1 c.2)=Ta->(iH c.1 c.2)=Ta/\((bif (decide ((jO c.1 c.2:Int)<48))then Ta else(decide ((jO c.1 c.2:Int)>57)))=Ta->R Tc)/\((bif (decide ((jO c.1 c.2:Int)<48))then Ta else(decide ((jO c.1 c.2:Int)>57)))=Tc->(a (c.1,iA c.1 c.2)/\b (c.1,iA c.1 c.2)<b c)))/\((iH c.1 c.2)=Tc->R (!(e.toList==(⟨#[]⟩:Bt).toList))))):
  PC Tp gl 215 [Arg.mk .str e] [.bool] R:=
 PF ⟨[],[],[(2,⟨[],[(6,[.dat .iter])],[],[1000384]⟩)],[]⟩ [.tmp 2] 18 Tryz.func215 H
theorem NP(gl:Fr)(e:Bt)(f:Bt)(R:(Bt×Bt×Bool)->Prop) (H:∃(a:Int->Prop) (b:Int->Nat),a 0/\∀c:Int,a c->((decide (c<e.size)=Ta->(0<=c/\c<e.size)/\PC Tp gl 319 [Arg.mk .str f,Arg.mk (.int .u8) (yu e c.toNat)] [.int .i64] (λd:Int=>(decide (d>=0)=Ta->(0<=(0:Int)/\(0:Int)<=c/\c<=e.size)/\(0<=(Tj .i64 (c+1))/\(Tj .i64 (c+1))<=(e.size:Int)/\(e.size:Int)<=(e.size:Int))/\R (e.extract (0:Int).toNat c.toNat,e.extract (Tj .i64 (c+1)).toNat (e.size:Int).toNat,Ta))/\(decide (d>=0)=Tc->(a (Tj .i64 (c+1))/\b (Tj .i64 (c+1))<b c))))/\(decide (c<e.size)=Tc->R (e,(⟨#[]⟩:Bt),Tc)))):
  PC Tp gl 268 [Arg.mk .str e,Arg.mk .str f] [.str,.str,.bool] R:=
 PF ⟨[],[],[(2,⟨[(10,.one (.dat (.int .i64)))],[],[],[100640]⟩)],[]⟩ [.tmp 4,.tmp 5,.tmp 6] 28 Tryz.func268 H
theorem Jv(gl:Fr)(b:List Bt)(b1:List Bt)(R:Bool->Prop) (H:PC Tp gl 74 [Arg.mk (.row .str) b,Arg.mk (.row .str) b1] [.int .i64] (λa:Int=>R (a==0))):
  PC Tp gl 40 [Arg.mk (.row .str) b,Arg.mk (.row .str) b1] [.bool] R:=
 PF ⟨[],[],[],[]⟩ [.tmp 4] 9 Tryz.func40 H
theorem Ot(gl:Fr)(b:List Bt)(b1:List Bt)(R:Int->Prop) (H:PC Tp gl 85 [Arg.mk (.row .str) b,Arg.mk (.row .str) b1] [.int .i64] (λa:Int=>R a)):
  PC Tp gl 48 [Arg.mk (.row .str) b,Arg.mk (.row .str) b1] [.int .i64] R:=
 PF ⟨[],[],[],[]⟩ [.tmp 4] 8 Tryz.func48 H
theorem Wi(gl:Fr)(h:List Bt)(b1:List Bt)(R:Int->Prop) (H:∃(a:Int->Prop) (b:Int->Nat),a 0/\∀c:Int,a c->(((bif (decide (c<h.length))then(decide (c<b1.length))else Tc)=Ta->∃d,(0<=c/\h[c.toNat]?=Td d)/\∃e,(0<=c/\b1[c.toNat]?=Td e)/\((U2 d.toList e.toList)=Ta->R (-1))/\((U2 d.toList e.toList)=Tc->∃f,(0<=c/\h[c.toNat]?=Td f)/\∃g,(0<=c/\b1[c.toNat]?=Td g)/\((!(U2 f.toList g.toList||(f.toList==g.toList)))=Ta->R 1)/\((!(U2 f.toList g.toList||(f.toList==g.toList)))=Tc->(a (Tj .i64 (c+1))/\b (Tj .i64 (c+1))<b c))))/\((bif (decide (c<h.length))then(decide (c<b1.length))else Tc)=Tc->(decide ((h.length:Int)<(b1.length:Int))=Ta->R (-1))/\(decide ((h.length:Int)<(b1.length:Int))=Tc->(decide ((h.length:Int)>(b1.length:Int))=Ta->R 1)/\(decide ((h.length:Int)>(b1.length:Int))=Tc->R 0))))):
  PC Tp gl 74 [Arg.mk (.row .str) h,Arg.mk (.row .str) b1] [.int .i64] R:=
 PF ⟨[],[],[(2,⟨[(5,.one (.dat (.int .i64)))],[],[],[100320]⟩)],[]⟩ [.tmp 4] 46 Tryz.func74 H

theorem xf(gl:Fr)(i:List Bt)(h:List Bt)(R:Int->Prop) (H:∃(a:Int->Prop) (b:Int->Nat),a 0/\∀c:Int,a c->((decide (c<i.length)=Ta->∃d,(0<=c/\i[c.toNat]?=Td d)/\(decide (c>=h.length)=Ta->R 1)/\(decide (c>=h.length)=Tc->∃e,(0<=c/\h[c.toNat]?=Td e)/\PC Tp gl 143 [Arg.mk .str d,Arg.mk .str e] [.int .i64] (λf:Int=>((f != 0)=Ta->R f)/\((f != 0)=Tc->(a (Tj .i64 (c+1))/\b (Tj .i64 (c+1))<b c)))))/\(decide (c<i.length)=Tc->(decide ((i.length:Int)<(h.length:Int))=Ta->R (-1))/\(decide ((i.length:Int)<(h.length:Int))=Tc->R 0)))):
  PC Tp gl 85 [Arg.mk (.row .str) i,Arg.mk (.row .str) h] [.int .i64] R:=
 PF ⟨[],[],[(2,⟨[(11,.one (.dat (.int .i64)))],[],[],[100704]⟩)],[]⟩ [.tmp 4] 36 Tryz.func85 H
theorem Wj(gl:Fr)(c:Bt)(e:Bt)(R:Int->Prop) (H:PC Tp gl 207 [Arg.mk .str c] [.bool] (λa:Bool=>PC Tp gl 207 [Arg.mk .str e] [.bool] (λb:Bool=>(a=Ta->(b=Ta->R 0)/\(b=Tc->R (-1)))/\(a=Tc->(b=Ta->R 1)/\(b=Tc->((U2 c.toList e.toList)=Ta->R (-1))/\((U2 c.toList e.toList)=Tc->((!(U2 c.toList e.toList||(c.toList==e.toList)))=Ta->R 1)/\((!(U2 c.toList e.toList||(c.toList==e.toList)))=Tc->R 0))))))):
  PC Tp gl 143 [Arg.mk .str c,Arg.mk .str e] [.int .i64] R:=
 PF ⟨[],[],[],[]⟩ [.tmp 4] 20 Tryz.func143 H
end
section
abbrev bl(l:List UInt8):Bt:=⟨l.toArray⟩
abbrev lb(s:Bt):List UInt8:=s.data.toList
@[simp] theorem j4(l:List UInt8):lb (bl l)=l:=by simp[lb]
@[simp] theorem jA(s:Bt):bl (lb s)=s:=by cases s;simp[lb,bl]
theorem qD{s t:Bt}:lb s=lb t↔s=t:=⟨λh=>by rw[<-jA s,h,jA],λh=>by rw[h]⟩
theorem ny(s:Bt):(lb s).length=s.size:=by cases s;simp[lb,ByteArray.size]
theorem MF(s t:Bt):lb (s++t)=lb s++lb t:=by cases s;cases t;simp[lb]
theorem Qn(s:Bt)(a b:Nat):lb (s.extract a b)=((lb s).drop a).take (b-a):=by cases s;simp[lb,ByteArray.data_extract,List.extract_eq_take_drop]
theorem Nc(s:Bt)(i:Nat):yu s i=((((lb s)[i]?).getD 0).toNat:Int):=by cases s;simp[lb,yu]
theorem Mc(s:Bt)(i:Nat):s.get! i=((lb s)[i]?).getD 0:=by
 cases s with
 |mk d=>simp[lb,ByteArray.get!,Array.getElem!_eq_getD];rfl
def dec(l:List UInt8):Nat×Nat:=Go.Lib.decodeN l.length (l.getD 0 0).toNat (l.getD 1 0).toNat (l.getD 2 0).toNat (l.getD 3 0).toNat
theorem uX(s:Bt)(i:Nat):V9 s i=dec ((lb s).drop i):=by rw[Go.Lib.decode_at,dec];simp only[Mc,TM,Ur,UJ,ny,VM]
theorem Yk(l:List UInt8):1<=(dec l).2/\(dec l).2<=4:=by
 unfold dec Go.Lib.decodeN;repeat' split
 all_goals simp
theorem wU{l:List UInt8}(h:l≠[]):(dec l).2<=l.length:=by
 have:0<l.length:=UH.2 h;unfold dec Go.Lib.decodeN;repeat' split
 all_goals simp only
 all_goals omega
def jL(d:Nat×Nat):Bool:=d.1==65533&&d.2==1
def Jl(l:List UInt8):Bool:=if h:l=[]then Ta else if jL (dec l)then Tc else Jl (l.drop (dec l).2)
termination_by l.length
decreasing_by
 have h1:=Yk l;have h2:0<l.length:=UH.2 h;simp only[UJ];omega
theorem FB:Jl []=Ta:=by unfold Jl;simp
theorem Wk{l:List UInt8}(h:l≠[]):Jl l=if jL (dec l)then Tc else Jl (l.drop (dec l).2):=by rw[Jl];simp[h]
theorem sZ{c:UInt8}{l:List UInt8}(h:c.toNat<128):dec (c::l)=(c.toNat,1):=by simp[dec,Go.Lib.decodeN,h]
end
end Go.X
end
section
namespace Go.X
open Go Go.Lib
section
variable {i:Nat}
abbrev Bs:=List UInt8
theorem I7{sub:Bs}{b:UInt8}{l:Bs}(h:sub.isPrefixOf (b::l)=Ta):index (b::l) sub=0:=by unfold index;rw[zA h]
theorem RR{sub:Bs}{b:UInt8}{l:Bs}(h:sub.isPrefixOf (b::l)=Tc)(h':index l sub=-1):index (b::l) sub=-1:=by unfold index;rw[zv (by simp[h]),zA (by simp[h'])]
theorem MN{sub:Bs}{b:UInt8}{l:Bs}(h:sub.isPrefixOf (b::l)=Tc)(h':index l sub=i):index (b::l) sub=((i+1:Nat):Int):=by
 unfold index;have:((i:Int)==-1)=Tc:=by rw[beq_eq_false_iff_ne];omega
 rw[zv (by simp[h]),h',zv (by simp[this])];omega
theorem sG(l sub:Bs):index l sub=-1\/∃i:Nat,index l sub=i:=by have:=index_ge l sub;by_cases h:index l sub=-1;exact .inl h;exact .inr ⟨(index l sub).toNat,by omega⟩
theorem Lw{sub:Bs}(h:sub≠[]):index [] sub=-1:=by
 unfold index;cases sub with
 |nil=>exact absurd rfl h
 |cons a t=>rfl
theorem Bz{l sub:Bs}(h:index l sub=i):i+sub.length<=l.length:=by have:=index_room l sub (by omega);omega
def jU(old new:Bs)(s:Bs):Bs:=
 if h:old=[]\/index s old=-1 then s else s.take (index s old).toNat++new++jU old new (s.drop ((index s old).toNat+old.length))
termination_by s.length
decreasing_by
 have h1:old≠[]:=λe=>h (.inl e);have h2:0<old.length:=UH.2 h1;have h3:=index_ge s old;have h4:index s old≠-1:=λe=>h (.inr e);have h5:=index_room s old (by omega);simp only[UJ];omega
theorem Wl{old new s:Bs}(h:index s old=-1):jU old new s=s:=by rw[jU,dif_pos (.inr h)]
theorem sq{old new s:Bs}(b:old≠[])(h:index s old=i):jU old new s=s.take i++new++jU old new (s.drop (i+old.length)):=by rw[jU,dif_neg (λe=>e.elim b λe=>by omega),h];simp
theorem countFrom_fuel{sub:Bs}(b:sub≠[]):∀(f:Nat) (s:Bs),s.length<f->∀g,s.length<g->countFrom sub f s=countFrom sub g s
 |0,_,h,_,_=>absurd h (UZ _)
 |f+1,s,hf,0,hg=>absurd hg (UZ _)
 |f+1,s,hf,g+1,hg=>by
  unfold countFrom;rcases sG s sub with e|⟨i,e⟩;simp[e];have c:((i:Int)==-1)=Tc:=by rw[beq_eq_false_iff_ne];omega
  rw[e,zv (by simp[c]),zv (by simp[c])];have h1:=Bz e;have j:0<sub.length:=UH.2 b;rw[countFrom_fuel b f _ (by simp only[UJ,Tq];omega) g (by simp only[UJ,Tq];omega)]
theorem count_hit{sub s:Bs}(b:sub≠[])(e:index s sub=i):count s sub=1+count (s.drop (i+sub.length)) sub:=by
 have c:((i:Int)==-1)=Tc:=by rw[beq_eq_false_iff_ne];omega
 have h1:=Bz e;have f:0<sub.length:=UH.2 b;rw[count,countFrom,e,zv (by simp[c]),count,Tq,countFrom_fuel b s.length _ (by simp only[UJ];omega) ((s.drop (i+sub.length)).length+1) (by omega)]
theorem D4{old new:Bs}(b:old≠[]):∀(k:Nat) (s:Bs),count s old<=k->replaceK old new k s=jU old new s
 |0,s,h=>by rcases sG s old with e|⟨i,e⟩;rw[Wl e];rfl;rw[count_hit b e]at h;omega
 |k+1,s,h=>by rcases sG s old with e|⟨i,e⟩;rw[Wl e,replaceK,zA (by simp[e])];rw[sq b e,replaceK_hit _ _ _ _ _ e,D4 b k];rw[count_hit b e]at h;omega
theorem Wm{old new s:Bs}(b:old≠[])(c:old≠new):replaceAll s old new=jU old new s:=by unfold replaceAll replace;rw[zv (by simpa using c),replaceNum,zA (.inl (by omega))];exact D4 b _ _ (Tm _)
theorem Hq{old new:Bs}(b:old≠[]):jU old new []=[]:=Wl (Lw b)
theorem O8{old new:Bs}(c:old≠[])(b:UInt8)(l:Bs):jU old new (b::l)=if old.isPrefixOf (b::l)then new++jU old new ((b::l).drop old.length)else b::jU old new l:=by
 cases hp:old.isPrefixOf (b::l)with
 |true=>rw[sq (i:=0) c (I7 hp)];simp
 |false=>simp only[Uz,if_false];rcases sG l old with e|⟨i,e⟩;rw[Wl (RR hp e),Wl e];rw[sq c (MN hp e),sq c e,show i+1+old.length=(i+old.length)+1 by omega];simp
theorem sO(c:UInt8)(new:Bs):∀l:Bs,jU [c] new l=l.flatMap λx=>if x=c then new else [x]
 |[]=>Hq (by simp)
 |b::l=>by rw[O8 (by simp),UE];simp only[List.isPrefixOf,Bool.and_true,beq_iff_eq,UG,List.drop_succ_cons,Vp];rw[sO c new l];by_cases h:c=b;subst h;simp;rw[zv h,zv (λe=>h e.symm)];simp
end
end Go.X
end
section
namespace Go.X
section
theorem Ly{n:Int}(h1:-2147483648<=n)(f:n<=2147483647):Tj .i32 n=n:=by
 unfold Tj;have e:(2:Int) ^ Ul .i32=4294967296:=by decide
 have b:(2:Int) ^ (Ul .i32-1)=2147483648:=by decide
 simp only[e,b];have c:V6 .i32=Ta:=rfl;simp only[c,UQ,zG];split <;> omega
end
end Go.X
end
section
namespace Go.X
open Go Go.Proofs Go.Shelf Go.RowKit
section
def IG:Go.Shelf.Ren:=⟨fun|161=>218|231=>270|227=>271|233=>272|235=>273|228=>321|197=>247|151=>322|260=>298|152=>369|137=>319|119=>394|224=>358|225=>357|217=>356|266=>385|n=>n,fun|9=>9|4=>4|3=>3|5=>5|117=>281|116=>280|0=>0|124=>284|105=>256|21=>21|119=>305|46=>123|139=>308|138=>307|n=>n,fun|3=>0|4=>1|n=>n⟩
theorem MY:Go.Proofs.Lays.n161 Tp IG:=by constructor <;> intros <;> kernel_rfl
theorem Jt(s:Bt)(c:UInt8)(b:c.toNat<128)(w:World): Calls Tp 218 #[.string s,.string ⟨#[c]⟩] w λe w'=>e=.returned (.string ⟨(Lib.trimLeftB s.data.toList c).toArray⟩)/\w'=w:=Any.strings_TrimLeft_one MY s c b w
def P5:Go.Shelf.Ren:=⟨fun|162=>219|232=>274|227=>271|234=>275|236=>276|228=>321|271=>323|151=>322|120=>370|197=>247|152=>369|260=>298|137=>319|119=>394|224=>358|225=>357|217=>356|266=>385|n=>n,fun|9=>9|4=>4|3=>3|5=>5|117=>281|116=>280|0=>0|124=>284|21=>21|105=>256|46=>123|119=>305|139=>308|138=>307|n=>n,fun|3=>0|4=>1|n=>n⟩
theorem JO:Go.Proofs.Lays.n162 Tp P5:=by constructor <;> intros <;> kernel_rfl
theorem Y6(s:Bt)(c:UInt8)(b:c.toNat<128)(w:World)(f:s.size<=9223372036854775807): Calls Tp 219 #[.string s,.string ⟨#[c]⟩] w λe w'=>e=.returned (.string ⟨(Lib.trimRightB s.data.toList c).toArray⟩)/\w'=w:=Any.strings_TrimRight_one JO s c b w f
def Rk:Go.Shelf.Ren:=⟨fun|137=>319|217=>356|266=>385|n=>n,fun|9=>9|5=>5|3=>3|n=>n,fun|n=>n⟩
theorem Py:Go.Proofs.Lays.n137 Tp Rk:=by constructor <;> intros <;> kernel_rfl
theorem Kx(s:Bt)(c:Int)(w:World): Calls Tp 319 #[.string s,.int .u8 c] w λe w'=>e=.returned (.int .i64 (Lib.indexByte s.data.toList c.toNat.toUInt8))/\w'=w:=Any.strings_IndexByte Py s c w
def On:Go.Shelf.Ren:=⟨fun|103=>267|210=>318|206=>306|n=>n,fun|9=>9|4=>4|24=>274|3=>3|n=>n,fun|n=>n⟩
theorem KB:Go.Proofs.Lays.n103 Tp On:=by constructor <;> intros <;> kernel_rfl
theorem N1(s p:Bt)(w:World): Calls Tp 267 #[.string s,.string p] w λe w'=>e=.returned (.tuple #[.string ⟨(Lib.trimPrefix s.data.toList p.data.toList).toArray⟩,.bool (Lib.hasPrefix s.data.toList p.data.toList)])/\w'=w:=Any.strings_CutPrefix KB s p w
def SP:Go.Shelf.Ren:=⟨fun|242=>248|278=>299|n=>n,fun|37=>87|21=>21|51=>176|4=>4|5=>5|46=>123|n=>n,fun|n=>n⟩
theorem JR:Go.Proofs.Lays.n242 Tp SP:=by constructor <;> intros <;> kernel_rfl
theorem Y7(B:Nat)(v:Value)(n:Nat)(xs:List Value)(r:Int)(f:-2147483648<=r)(i:r<=2147483647)(w:World)(b:w.ownsRow B 5 1 v n xs)(c:n+4<=140737488355328)(h:B<=w.heap.size): Calls Tp 248 #[v,.int .i32 r] w λe w'=>∃j,e=.returned j/\w'.ownsRow B 5 1 j (n+(Lib.runeCells r).length) (xs++Lib.runeCells r)/\∃o,(w.alloc o).grownBy w' v.ownBlock:=Any.utf8_AppendRune_plain JR (by kernel_rfl) B v n xs r f i w b c h
def Hy:Go.Shelf.Ren:=⟨fun|171=>159|243=>216|246=>249|283=>300|284=>301|285=>302|286=>303|129=>178|317=>352|318=>353|319=>354|320=>355|337=>383|338=>384|n=>n,fun|3=>3|9=>9|2=>2|4=>4|171=>309|0=>0|53=>178|37=>87|5=>5|173=>311|212=>349|51=>176|20=>20|213=>350|46=>123|232=>384|233=>385|n=>n,fun|17=>2|18=>6|19=>7|n=>n⟩
theorem RZ:Go.Proofs.LaysM.n171 Tp Hy:=by repeat' first|(intros;kernel_rfl)|constructor
open Go.RowKit Go.Sort Go.Lib in
theorem Su(n : Int)(h0 : -9223372036854775808 ≤ n)(h1 : n ≤ 9223372036854775807)(w : World)(htab : Lib.TabIs Tp w "internal/strconv.uint64pow10" .u64 Lib.pow10Tab): Calls Tp 159 #[.int .i64 n] w λe w'=>e=.returned (.string ⟨(Lib.itoa n).toArray⟩)/\∃k os,w'=grow (w.drewN k) os:=Any.strconv_Itoa RZ n h0 h1 w htab
def SN:Go.Shelf.Ren:=⟨fun|174=>262|247=>313|245=>314|287=>360|279=>361|280=>362|281=>363|282=>364|321=>387|322=>388|316=>389|171=>159|205=>390|243=>216|246=>249|283=>300|284=>301|285=>302|286=>303|129=>178|317=>352|318=>353|319=>354|320=>355|337=>383|338=>384|n=>n,fun|9=>9|3=>3|2=>2|75=>91|85=>269|4=>4|167=>351|5=>5|53=>178|175=>352|46=>123|168=>354|37=>87|0=>0|210=>376|21=>21|127=>133|145=>388|143=>386|171=>309|173=>311|212=>349|51=>176|20=>20|213=>350|232=>384|233=>385|80=>95|n=>n,fun|15=>4|16=>5|17=>2|18=>6|19=>7|n=>n⟩
theorem uM:Go.Proofs.LaysC.n174 Tp SN:=by repeat' first|(intros;kernel_rfl)|constructor
theorem Zf(s:Bt)(b:s.size<=9223372036854775806)(v:Int)(h:Lib.parseIntB 64 s.data.toList=.ok v)(w:World): Calls Tp 262 #[.string s,.int .i64 10,.int .i64 64] w λe w'=>e=.returned (.tuple #[.int .i64 v,.nilIface])/\(w'=w\/∃t,w'=Lib.bytesWorld w 5 t):=Any.strconv_ParseInt_10_at64_ok uM s b v h w
theorem wm(s:Bt)(c:s.size<=281474976710656)(h:Lib.parseIntB 64 s.data.toList=Lib.parseIntB 64 [])(b:Value)(w:World)(j:w.cell? ⟨4,0,Te⟩=Td b)(f:b=.nilIface\/∃i k,b=.iface i k): Calls Tp 262 #[.string s,.int .i64 10,.int .i64 64] w λe w'=>∃N,e=.returned (.tuple #[.int .i64 (0),.iface 354 (.pointer (Td ⟨N,0,Te⟩))])/\w.heap.size<=N/\w'.heap[N]?=Td (.cells #[.string ⟨#[80,97,114,115,101,73,110,116]⟩,.string s,b] 376 (0,0))/\Below w.heap.size w w':=Any.strconv_ParseInt_10_at64_syntax uM s c h b w j f
theorem wy(s:Bt)(c:s.size<=281474976710656)(h:Lib.parseIntB 64 s.data.toList=.range)(b:Value)(w:World)(j:w.cell? ⟨5,0,Te⟩=Td b)(f:b=.nilIface\/∃i k,b=.iface i k): Calls Tp 262 #[.string s,.int .i64 10,.int .i64 64] w λe w'=>∃N,e=.returned (.tuple #[.int .i64 (Lib.intSat 64 s.data.toList),.iface 354 (.pointer (Td ⟨N,0,Te⟩))])/\w.heap.size<=N/\w'.heap[N]?=Td (.cells #[.string ⟨#[80,97,114,115,101,73,110,116]⟩,.string s,b] 376 (0,0))/\Below w.heap.size w w':=Any.strconv_ParseInt_10_at64_range uM s c h b w j f
def Ns:Go.Shelf.Ren:=⟨fun|101=>269|208=>320|206=>306|n=>n,fun|9=>9|4=>4|3=>3|n=>n,fun|n=>n⟩
theorem IV:Go.Proofs.Lays.n101 Tp Ns:=by constructor <;> intros <;> kernel_rfl
open Go.RowKit Go.Lib in
theorem Xq(s p:Bt)(w:World): Calls Tp 269 #[.string s,.string p] w λe w'=>e=.returned (.string ⟨(Lib.trimPrefix s.data.toList p.data.toList).toArray⟩)/\w'=w:=Any.strings_TrimPrefix IV s p w
def Gm:Go.Shelf.Ren:=⟨fun|155=>134|154=>205|138=>260|165=>202|143=>261|166=>68|197=>247|169=>70|195=>310|218=>311|240=>123|241=>257|219=>312|260=>298|276=>195|277=>308|217=>356|225=>357|224=>358|267=>359|266=>385|314=>386|n=>n,fun|9=>9|3=>3|4=>4|72=>89|0=>0|76=>92|105=>256|21=>21|5=>5|70=>86|20=>20|37=>87|75=>91|127=>133|164=>199|46=>123|119=>305|139=>308|138=>307|146=>313|51=>176|80=>95|n=>n,fun|1=>3|3=>0|4=>1|n=>n⟩
theorem HZ:Go.Proofs.Lays.n155 Tp Gm:=by constructor <;> intros <;> kernel_rfl
theorem KX:Builder.Extra Tp Gm:={
 sizeBuilder:=by kernel_rfl
 liesBuilder:=by kernel_rfl
 t5:=VN
 a5:=Tryz.isAgg5
 z5:=Tryz.sizeOf5
 v5:=Tryz.zeroValue5
 infoByte:=by kernel_rfl
 cellsByte:=by kernel_rfl
 sizeByte:=by kernel_rfl
 neB5:=by decide }
open Go.RowKit Go.Lib in
theorem Xr(s old new:Bt)(m:Int)(w:World)(f:s.size<4294967281)(c:w.cell? ⟨3,0,Te⟩=Td (.int .i64 m))(h1:1<=old.size)(b:s.size+Lib.countB s old*new.size<=140737488355328):
  Calls Tp 134 #[.string s,.string old,.string new] w λe w'=>
   e=.returned (.string ⟨(Lib.replaceAll s.data.toList old.data.toList new.data.toList).toArray⟩)/\Below w.heap.size w w':=Any.strings_ReplaceAll HZ KX s old new m w f c h1 b
def IX:Go.Shelf.Ren:=⟨fun|197=>247|260=>298|n=>n,fun|9=>9|21=>21|3=>3|4=>4|5=>5|105=>256|119=>305|0=>0|46=>123|139=>308|138=>307|n=>n,fun|3=>0|4=>1|n=>n⟩
theorem OU:Go.Proofs.Lays.n197 Tp IX:=by constructor <;> intros <;> kernel_rfl
def FA:Go.Shelf.Ren:=⟨fun|105=>200|212=>250|99=>251|165=>202|166=>68|170=>252|169=>70|263=>304|264=>305|206=>306|240=>123|241=>257|276=>195|277=>308|n=>n,fun|9=>9|3=>3|4=>4|20=>20|0=>0|46=>123|109=>259|5=>5|72=>89|76=>92|51=>176|146=>313|53=>178|148=>315|70=>86|37=>87|75=>91|127=>133|164=>199|80=>95|n=>n,fun|n=>n⟩
theorem Ri:Go.Proofs.Lays.n105 Tp FA:=by constructor <;> intros <;> kernel_rfl
theorem GQ:Builder.Extra Tp FA:={
 sizeBuilder:=by kernel_rfl
 liesBuilder:=by kernel_rfl
 t5:=VN
 a5:=Tryz.isAgg5
 z5:=Tryz.sizeOf5
 v5:=Tryz.zeroValue5
 infoByte:=by kernel_rfl
 cellsByte:=by kernel_rfl
 sizeByte:=by kernel_rfl
 neB5:=by decide }
open Go.RowKit Go.Lib in
theorem Kf(s:Bt)(c:Nat)(w:World)(f:c<=9223372036854775807)(b:s.size*c<=140737488355328): Calls Tp 200 #[.string s,.int .i64 c] w λe w'=>e=.returned (.string ⟨(Lib.repeatL s.data.toList c).toArray⟩)/\Below w.heap.size w w':=Any.strings_Repeat Ri GQ s c w f b
open Go.RowKit Go.Lib in
theorem Qw(s:Bt)(w:World)(b:Lib.Utf8Tabs 0 1 w): Calls Tp 247 #[.string s] w λe w'=>e=.returned (.tuple #[.int .i32 (Lib.decodeGo s).1,.int .i64 (Lib.decodeGo s).2])/\Below w.heap.size w w':=Any.utf8_DecodeRuneInString OU s w b
end
end Go.X
end
section
namespace Go.X
open Go Go.X Go.Proofs Go.RowKit
section
variable {gl M:Fr}
theorem Na{s:Bt}{c:Int}{R:Int->Prop}(h:R (Lib.indexByte (lb s) c.toNat.toUInt8)):PC Tp gl 319 [Arg.mk .str s,Arg.mk (.int .u8) c] [.int .i64] R:= PC.of_same rfl (λ_=>GP _ _) h λw _=>Kx s c w
theorem JN{s p:Bt}{R:Bt×Bool->Prop}(h:R (bl (Lib.trimPrefix (lb s) (lb p)),Lib.hasPrefix (lb s) (lb p))):PC Tp gl 267 [Arg.mk .str s,Arg.mk .str p] [.str,.bool] R:= PC.of_same rfl (λM=>⟨[_,_],⟨_,_,rfl,rfl,_,rfl,rfl⟩,rfl⟩) h λw _=>N1 s p w
theorem Oc{s p:Bt}{R:Bt->Prop}(h:R (bl (Lib.trimPrefix (lb s) (lb p)))):PC Tp gl 269 [Arg.mk .str s,Arg.mk .str p] [.str] R:= PC.of_same rfl (λ_=>nG _) h λw _=>Xq s p w
theorem OC{s:Bt}{c:UInt8}(b:c.toNat<128){R:Bt->Prop}(h:R (bl (Lib.trimLeftB (lb s) c))):PC Tp gl 218 [Arg.mk .str s,Arg.mk .str ⟨#[c]⟩] [.str] R:= PC.of_same rfl (λ_=>nG _) h λw _=>Jt s c b w
theorem JQ{s:Bt}{c:UInt8}(e:c.toNat<128)(b:s.size<=9223372036854775807){R:Bt->Prop}(h:R (bl (Lib.trimRightB (lb s) c))):PC Tp gl 219 [Arg.mk .str s,Arg.mk .str ⟨#[c]⟩] [.str] R:= PC.of_same rfl (λ_=>nG _) h λw _=>Y6 s c e w b
def uJ(gl:Fr):Prop:=∃(cs:Array Value) (m:Int),gl 3=Td cs/\cs[0]?=Td (.int .i64 m)
theorem Nq(j:uJ gl){s old new:Bt}(i:s.size<4294967281)(c:1<=old.size)(b:s.size+Lib.countB s old*new.size<=140737488355328){R:Bt->Prop}(h:R (bl (Lib.replaceAll (lb s) (lb old) (lb new)))):
  PC Tp gl 134 [Arg.mk .str s,Arg.mk .str old,Arg.mk .str new] [.str] R:=by
 obtain⟨cs,m,h1,f⟩:=j;exact PC.of_scal rfl (λ_=>nG _) h λw e=>Xr s old new m w i (e.glob h1 f) c b
theorem u9{s:Bt}{c:Nat}(e:c<=9223372036854775807)(b:s.size*c<=140737488355328){R:Bt->Prop}(h:R (bl (Lib.repeatL (lb s) c))):PC Tp gl 200 [Arg.mk .str s,Arg.mk (.int .i64) (c:Int)] [.str] R:= PC.of_scal rfl (λ_=>nG _) h λw f=>Kf s c w e b
def Tabs(gl:Fr):Prop:=(∃cs:Array Value,gl 0=Td cs/\∀c,c<256->cs[c]?=Td (.int .u8 (Lib.firstT c)))/\∃cs:Array Value,gl 1=Td cs/\∀i,i<16->cs[2*i]?=Td (.int .u8 (Lib.accLo i))/\cs[2*i+1]?=Td (.int .u8 (Lib.accHi i))
theorem Tabs.at(h:Tabs gl){w:World}(b:AgM gl w.heap):Lib.Utf8Tabs 0 1 w:=by obtain⟨⟨c1,a1,b1⟩,c2,a2,b2⟩:=h;exact⟨λc e=>b.glob a1 (b1 c e),λi hi=>⟨b.glob a2 (b2 i hi).1,b.glob a2 (b2 i hi).2⟩⟩
theorem Ik(c:Tabs gl){s:Bt}{R:Int×Int->Prop}(h:R ((Lib.decodeGo s).1,(Lib.decodeGo s).2)):PC Tp gl 247 [Arg.mk .str s] [.int .i32,.int .i64] R:= PC.of_scal rfl (λM=>⟨[_,_],⟨_,_,rfl,rfl,_,rfl,rfl⟩,rfl⟩) h λw b=>Qw s w (c.at b)
theorem QG(w:World)(k:Nat)(os:Array Obj):Below w.heap.size w (Go.Sort.grow (w.drewN k) os):=⟨rfl,rfl,rfl,by simp[Go.Sort.grow,World.drewN],λi hi=>by show((w.drewN k).heap++os)[i]?=_;exact U9 hi⟩
def pW(gl : Fr): Prop := ∃ b cs, Tryz.prog.globalNamed "internal/strconv.uint64pow10" = some b ∧ gl b = some cs ∧ cs = (Lib.pow10Tab.map λz => Value.int .u64 z).toArray
theorem uR(i:pW gl){n:Int}(h0:-9223372036854775808<=n)(h1:n<=9223372036854775807){R:Bt->Prop}(h:R (bl (Lib.itoa n))):PC Tp gl 159 [Arg.mk (.int .i64) n] [.str] R:=by obtain⟨b,cs,j,q,l⟩:=i;refine PC.of_scal rfl (λ_=>nG _) h λw f=>(Su n h0 h1 w ?_).mono λe w' ⟨o,k,os,c⟩=>⟨o,c ▸ QG w k os⟩;obtain⟨T,m,p⟩:=f b cs q;unfold Lib.TabIs World.var?;rw[j];simp only[U0,p,l]
def EB(gl:Fr):Prop:=(∃(cs:Array Value) (e:Value),gl 4=Td cs/\cs[0]?=Td e/\(e=.nilIface\/∃b c,e=.iface b c))/\∃(cs:Array Value) (e:Value),gl 5=Td cs/\cs[0]?=Td e/\(e=.nilIface\/∃b c,e=.iface b c)
theorem AE(k:IntKind)(i:Int)(t:TypeId)(u:Value):Yg M [.int k,.err] (i,Tc) (.tuple #[.int k i,.iface t u]):=⟨[_,_],⟨_,_,rfl,rfl,.iface t u,rfl,⟨_,rfl,.inr ⟨rfl,_,_,rfl⟩⟩⟩,rfl⟩
theorem Ke(k:IntKind)(i:Int):Yg M [.int k,.err] (i,Ta) (.tuple #[.int k i,.nilIface]):=⟨[_,_],⟨_,_,rfl,rfl,.nilIface,rfl,⟨_,rfl,.inl ⟨rfl,rfl⟩⟩⟩,rfl⟩
def xD(l:List UInt8):Int×Bool:=match Lib.parseIntB 64 l with
 |.ok v=>(v,Ta)
 |.range=>(Lib.intSat 64 l,Tc)
 |_=>(0,Tc)
theorem MM(o:EB gl){s:Bt}(n:s.size<=281474976710656){R:Int×Bool->Prop}(h:R (xD (lb s))):PC Tp gl 262 [Arg.mk .str s,Arg.mk (.int .i64) 10,Arg.mk (.int .i64) 64] [.int .i64,.err] R:=by
 unfold xD at h;cases hx:Lib.parseIntB 64 (lb s)with
 |ok v=>rw[hx]at h;refine PC.of_ex rfl λw f=>(Zf s (by omega) v hx w).mono λe w' ⟨c,i⟩=>⟨_,(v,Ta),c,λM=>Ke _ _,h,?_⟩;rcases i with rfl|⟨t,rfl⟩;exact Below.refl _ _;exact Lib.bytesWorld_below _ _ _
 |range=>rw[hx]at h;obtain⟨_,⟨cs,j,k,m,l⟩⟩:=o;exact PC.of_ex rfl λw f=>(wy s n hx j w (f.glob k m) l).mono λe w' ⟨N,c,_,_,b⟩=>⟨_,(Lib.intSat 64 (lb s),Tc),c,λM=>AE _ _ _ _,h,b⟩
 |_=>rw[hx]at h;obtain⟨⟨cs,j,k,m,l⟩,_⟩:=o;exact PC.of_ex rfl λw f=>(wm s n hx j w (f.glob k m) l).mono λe w' ⟨N,c,_,_,b⟩=>⟨_,(0,Tc),c,λM=>AE _ _ _ _,h,b⟩
end
end Go.X
end
section
namespace Go.X
open Go Go.Lib
section
theorem zt(l:Bs):(bl l).size=l.length:=by rw[<-ny,j4]
theorem Gv(l:Bs)(a b:Nat):(bl l).extract a b=bl ((l.drop a).take (b-a)):=by rw[<-qD,Qn,j4,j4]
theorem jd(a b:Bs):bl a++bl b=bl (a++b):=by rw[<-qD,MF,j4,j4,j4]
theorem Yl(l:Bs)(i:Nat):yu (bl l) i=((l[i]?.getD 0).toNat:Int):=by rw[Nc,j4]
theorem jo(s:Bt):s.toList=lb s:=by
 cases s with
 |mk d=>exact Go.Lib.toList_data ⟨d⟩
theorem l6(a b:Bs):((bl a).toList==(bl b).toList)=decide (a=b):=by rw[jo,jo,j4,j4];rw[T8];simp
theorem yG(l:Bs)(p:Nat):iH (bl l) p=decide (p<l.length):=by rw[T8];simp[iH,zt]
theorem s8(l:Bs)(p:Nat):jO (bl l) p=((dec (l.drop p)).1:Int):=by rw[jO,uX,j4]
theorem qT(l:Bs)(p:Nat)(h:p<l.length):iA (bl l) p=p+(dec (l.drop p)).2:=by
 rw[iA,uX,j4];have:Nat.blt p (bl l).size=Ta:=by simp[zt,h]
 rw[this];rfl
theorem G7{l:Bs}{i:Nat}(h:i<l.length):l[i]?.getD 0=l[i]:=by rw[Tv h];rfl
def wn(c:UInt8):Bool:=decide (48<=c.toNat)&&decide (c.toNat<=57)
def Xg(l:Bs):Bool:=l.all wn && !l.isEmpty
abbrev Nm:=Bool×Bs×Int
abbrev nj(n:Nm):Bool×Bt×Int:=(n.1,(bl n.2.1,n.2.2))
def mC(n:Nm):Bool:=!n.1&&(n.2.1.isEmpty&&n.2.2==0)
def yy(n:Nm):Bool:=mC n||(Xg n.2.1&&decide (n.2.1.length<=1000)&&n.2.1.head? != Td 48&&n.2.1.getLast? != Td 48&&decide (-1000000<=n.2.2)&&decide (n.2.2<=1000000))
def Jm(n:Nm):Bs:=if yy n then(if n.2.1=[]then [48]else(if n.1 then [45]else [])++n.2.1++(if n.2.2=0 then []else 101::Go.Lib.itoa n.2.2))else []
theorem JH{n:Nm}(h:yy n=Ta)(e:n.2.1=[]):mC n=Ta:=by unfold yy at h;rcases VC _ _ ▸ h with h|h;exact h;simp[Xg,e]at h
theorem Eb{n:Nm}(h:yy n=Ta):n.2.1.length<=1000/\-1000000<=n.2.2/\n.2.2<=1000000:=by unfold yy mC at h;obtain⟨a,d,e⟩:=n;simp at h;rcases h with⟨_,h,h'⟩|h;subst h;subst h';simp;simp only;omega
def cutAt(p:UInt8->Bool):Bs->Bs×Bs×Bool
 |[]=>([],[],Tc)
 |c::l=>if p c then([],l,Ta)else(c::(cutAt p l).1,(cutAt p l).2)
theorem Ar{p:UInt8->Bool}:∀{l},(∀c∈l,p c=Tc)->cutAt p l=(l,[],Tc)
 |[],_=>rfl
 |c::l,h=>by unfold cutAt;rw[zv (by simp[h c (by simp)]),Ar λc b=>h c (by simp[b])]
theorem GI{p:UInt8->Bool}:∀{l:Bs} {k:Nat} (b:k<l.length),(∀i (hi:i<k),p (l[i]'(by omega))=Tc)->p l[k]=Ta->cutAt p l=(l.take k,l.drop (k+1),Ta)
 |c::l,0,_,_,h=>by unfold cutAt;rw[zA (by simpa using h)];simp
 |c::l,k+1,b,h0,h=>by unfold cutAt;have h1:p c=Tc:=h0 0 (by omega);rw[zv (by simp[h1]),GI (k:=k) (by simpa using b) (λi hi=>by simpa using h0 (i+1) (by omega)) (by simpa using h)];simp
structure Lit where
 neg:Bool
 whole:Bs
 rest:Bs
 low:Bool
 exp:Bs
def lQ(s:Bs):Bs:=if s.head?==Td 45 then s.tail else s
def p7(c:UInt8):Bool:=c==101||c==69
def rV(c:UInt8):Bool:=c==46
def Xh(s:Bs):Bs×Bs×Bool:=cutAt p7 (lQ s)
def mz(s:Bs):Bool:=(Xh s).2.2&&(Xh s).2.1.head?==Td 45
def jC(s:Bs):Bs:=if mz s then(Xh s).2.1.tail else if(Xh s).2.1.head?==Td 43 then(Xh s).2.1.tail else(Xh s).2.1
def Z8(s:Bs):Bs×Bs×Bool:=cutAt rV (Xh s).1
def lI(s:Bs):Bool:=(!(Xh s).2.2||Xg (jC s))&&Xg (Z8 s).1&&(!(Z8 s).2.2||Xg (Z8 s).2.1)&&((Z8 s).1==[48]||(Z8 s).1.head? != Td 48)
def kM(s:Bs):Lit:=⟨s.head?==Td 45,(Z8 s).1,(Z8 s).2.1,mz s,if(Xh s).2.2 then jC s else []⟩
def lT(s:Bs):Option Lit:=if lI s then Td (kM s)else Te
theorem BN{s:Bs}{x:Lit}(h:lT s=Td x):lI s=Ta/\x=kM s:=by unfold lT at h;split at h;rename_i e;exact⟨e,(TY h).symm⟩;exact absurd h (by simp)
theorem yL{p:UInt8->Bool}:∀{l:Bs},(cutAt p l).2.2=Tc->(cutAt p l).1=l/\(cutAt p l).2.1=[]
 |[],_=>⟨rfl,rfl⟩
 |c::l,h=>by unfold cutAt at h ⊢;split;rename_i e;rw[zA e]at h;exact absurd h (by simp);rename_i e;rw[zv e]at h;have:=yL h;exact⟨by simp[this.1],this.2⟩
def yq(l:Bs):Bs:=((l.dropWhile (· == 48)).reverse.dropWhile (· == 48)).reverse
def zr(l:Bs):Nat:=l.foldl (λn c=>10*n+(c.toNat-48)) 0
def ql(s:Bs):Nm×Int:=match lT s with
 |none=>((Tc,[],0),2)
 |some x=>
  if x.whole.length+x.rest.length>1000 then((Tc,[],0),3)
  else if(x.exp.dropWhile (· == 48)).length>9 then((Tc,[],0),4)
  else
   let e:Int:=if x.low then-(zr (x.exp.dropWhile (· == 48)):Int)else zr (x.exp.dropWhile (· == 48))
   let d:=(x.whole++x.rest).dropWhile (· == 48)
   let b:=yq (x.whole++x.rest)
   if d=[]then((Tc,[],0),0)
   else if -1000000<=e-x.rest.length+d.length-b.length/\e-x.rest.length+d.length-b.length<=1000000 then((x.neg,b,e-x.rest.length+d.length-b.length),0)
   else((Tc,[],0),4)
def rM(n:Nm):Int×Bool:=
 if yy n&&decide (0<=n.2.2)&&decide ((n.2.1.length:Int)+n.2.2<=19)then
  let v:Int:=if n.1 then-((zr n.2.1*10 ^ n.2.2.toNat:Nat):Int)else(zr n.2.1*10 ^ n.2.2.toNat:Nat)
  if -9223372036854775808<=v/\v<=9223372036854775807 then(v,Ta)else(0,Tc)
 else(0,Tc)
end
end Go.X
end
section
namespace Go.X
section
variable {n:Nat} {l:Bs} {gl:Fr} {R:Bool -> Prop}
theorem yr{k n:Nat}(h:k<n)(b:n<=4611686018427387904):Tj .i64 ((k:Int)+1)=((k+1:Nat):Int):=zl (by omega)
theorem Iz(h:l≠[]):(48<=(dec l).1/\(dec l).1<=57)->(dec l).2=1/\∃c t,l=c::t/\wn c=Ta/\(dec l).1=c.toNat:=by obtain⟨c,t,rfl⟩:=Vb h;intro b;by_cases e:c.toNat<128;rw[sZ e]at b ⊢;exact⟨rfl,c,t,rfl,by simp[wn];simpa using b,rfl⟩;exfalso;unfold dec at b;have b0:((c::t).getD 0 0).toNat=c.toNat:=rfl;rw[b0]at b;have:=c.toNat_lt;have b1:=((c::t).getD 1 0).toNat_lt;have b2:=((c::t).getD 2 0).toNat_lt;have b3:=((c::t).getD 3 0).toNat_lt;generalize ((c::t).getD 1 0).toNat=x1 at *;generalize ((c::t).getD 2 0).toNat=x2 at *;generalize ((c::t).getD 3 0).toNat=x3 at *;generalize c.toNat=x0 at *;unfold Lib.decodeN at b;rw[zv e]at b;split at b;split at b <;> simp only at b <;> omega;split at b;split at b <;> simp only at b <;> omega;split at b;split at b <;> simp only at b <;> omega;simp only at b;omega
theorem tX(h:R (Xg l)):PC Tp gl 215 [Arg.mk .str (bl l)] [.bool] R:=by
 apply MX;refine⟨λp=>p.1=bl l/\p.2<=l.length/\(l.drop p.2).all wn=l.all wn,λp=>l.length-p.2,⟨rfl,by omega,by simp⟩,?_⟩;rintro⟨_,p⟩ ⟨rfl,o,j⟩;simp only at o j ⊢;rw[yG,s8];refine⟨λm=>⟨m,λf=>?_,λf=>?_⟩,λm=>?_⟩;all_goals first
  |have k:p<l.length:=by simpa using m
  |have k:¬p<l.length:=by simpa using m
 have i:l.drop p≠[]:=λe=>by have:=congrArg Uw e;simp at this;omega
 have n:¬(48<=(dec (l.drop p)).1/\(dec (l.drop p)).1<=57):=by rw[Bool.cond_true_left]at f;rcases VC _ _ ▸ f with f|f <;> simp at f <;> omega
 have q:l.all wn=Tc:=by
  rw[<-j];obtain⟨c,t,e⟩:=Vb i;rw[e];cases b:wn c with
  |false=>simp[b]
  |true=>
   exfalso;apply n;have:c.toNat<128:=by simp[wn]at b;omega
   rw[e,sZ this];simpa[wn]using b
 have:Xg l=Tc:=by simp[Xg,q]
 rw[this]at h;exact h;have i:l.drop p≠[]:=λe=>by have:=congrArg Uw e;simp at this;omega
 have n:48<=(dec (l.drop p)).1/\(dec (l.drop p)).1<=57:=by rw[Bool.cond_true_left]at f;have:=Bool.or_eq_false_iff.1 f;simp at this;omega
 obtain⟨h1,c,t,e,b,_⟩:=Iz i n;rw[qT l p k,h1];refine⟨⟨trivial,by omega,?_⟩,by omega⟩;have r:l.drop (p+1)=t:=by rw[<-VI,e];rfl
 rw[r,<-j,e];simp[b];have:l.drop p=[]:=Va (by omega);rw[this]at j;have e:Xg l=!(decide (l=[])):=by rw[Xg,<-j];cases l <;> simp
 have:=l6 l [];rw[show(⟨#[]⟩:Bt)=bl []from rfl,this,<-e];exact h
abbrev tN:Ty:=.pair .bool (.pair .str (.int .i64))
theorem Ak(h:0<l.length):(((l[0]?.getD 0).toNat:Int) != 48)=(l.head? != Td 48):=by
 cases l with
 |nil=>simp at h
 |cons c t=>rw[T8];simp;constructor;intro h1 b;exact h1 (by rw[b];rfl);intro h1 b;exact h1 (UInt8.toNat_inj.1 (by(have:c.toNat=48:=by omega);rw[this];rfl))
theorem IY(h:0<l.length):(((l[l.length-1]?.getD 0).toNat:Int) != 48)=(l.getLast? != Td 48):=by rw[List.getLast?_eq_getElem?];rw[Tv (by omega)];rw[T8];simp;constructor;intro h1 b;exact h1 (by rw[b];rfl);intro h1 b;exact h1 (UInt8.toNat_inj.1 (by(have:l[l.length-1].toNat=48:=by omega);rw[this];rfl))
theorem CE(h:Xg l=Ta):0<l.length:=by
 cases l with
 |nil=>simp[Xg]at h
 |cons=>simp
theorem wL(h:0<n)(b:n<=4611686018427387904):Tj .i64 ((n:Int)-1)=((n-1:Nat):Int):=by rw[wrap64 (by omega) (by omega)];omega
theorem y4{n:Nm}(l:n.2.1.length<=4611686018427387904)(h:R (yy n)):PC Tp gl 158 [Arg.mk tN (nj n)] [.bool] R:=by
 apply GR;simp only[show(⟨#[]⟩:Bt)=bl []from rfl,l6,zt,Yl];have e:((n.1==Tc)&&(decide (n.2.1=[])&&((n.2.2==0)&&Ta)))=mC n:=by unfold mC;rcases n with⟨_|_,_|⟨_,_⟩,e⟩ <;> simp
 rw[e];refine⟨λh1=>?_,λh1=>?_⟩;have:yy n=Ta:=by simp[yy,h1]
 rw[this]at h;exact h
 ·unfold yy at h;rw[h1,Bool.false_or]at h;refine tX ⟨λj=>⟨λ_=>?_,λf=>?_⟩,λj=>⟨λf=>⟨λ_=>?_,λc=>?_⟩,λf=>⟨?_,λc=>⟨λ_=>?_,λb=>?_⟩,λc=>⟨?_,λb=>?_,λb=>?_⟩⟩⟩⟩;have:Xg n.2.1=Tc:=by simpa using j
  rw[this]at h;simpa using h;rw[j]at f;cases f;have:decide (n.2.1.length<=1000)=Tc:=by simp at f ⊢;omega
  rw[this]at h;simpa using h;rw[f]at c;cases c;all_goals
   have m:Xg n.2.1=Ta:=by simpa using j
   have i:=CE m;have k:decide (n.2.1.length<=1000)=Ta:=by simp at f ⊢;omega
   have o:=Ak i;have el:=IY i
  omega;have:(n.2.1.head? != Td 48)=Tc:=by rw[<-o];simp at c ⊢;exact c
  rw[this]at h;simpa using h;rw[c]at b;cases b;rw[wL i l];omega;have:(n.2.1.getLast? != Td 48)=Tc:=by rw[<-el];rw[wL i l]at b;simp at b ⊢;exact b
  rw[this]at h;simpa using h;have p:(n.2.1.head? != Td 48)=Ta:=by rw[<-o];simp at c ⊢;exact c
  have q:(n.2.1.getLast? != Td 48)=Ta:=by rw[<-el];rw[wL i l]at b;simp at b ⊢;exact b
  rw[m,k,p,q]at h;simp only[UQ]at h;rw[Bool.cond_false_right];exact h
end
section
theorem XF{vs:List Value}{f:FuncId}{fn:Func}{h:za}{R:Value->za->Prop}{F:Prop}(pl:Plan)(rs:List ResultVar)(n:Nat)(b:T6.funcs[f]?=Td fn)(H:F)(i:Zz fn=Ta:=by kernel_rfl)(c:fn.results.toList=rs:=by kernel_rfl)(j:fn.ntmps=n:=by kernel_rfl)(hz:Nat.ble vs.length n=Ta:=by kernel_rfl)(e:F=W Tp n pl (codeOf fn) (rq Tp rs R) (kC 0 vs) h:=by kernel_rfl):XC Tp f vs.toArray h R:=J2 Tryz.mixed pl vs b i c j hz (Eq.mp e H)
theorem NR(s0:Bt)(h:za)(R:Value->za->Prop) (H:let a:=h.push (.cells #[.bool Tc,.bool Tc,.string (⟨#[]⟩:Bt),.string (⟨#[]⟩:Bt),.string (⟨#[]⟩:Bt)] 221);XC Tp 267 #[.string s0,.string (⟨#[45]⟩:Bt)] a (λb c=>∃d e,b=.tuple #[.string d,.bool e]/\XRunU Tp (Tt 4 (.pointer (Td (Tl ⟨h.size,0,Te⟩ 0))) (.bool e)) c (λf=>XC Tp 268 #[.string d,.string (⟨#[101,69]⟩:Bt)] f (λg i=>∃j k l,g=.tuple #[.string j,.string k,.bool l]/\∀m:Bt->za->Prop,(∀n:Bt,∀o:za,(XRunU Tp (Tt 9 (.pointer (Td (Tl ⟨h.size,0,Te⟩ 4))) (.string n)) o (λp=>XC Tp 268 #[.string j,.string (⟨#[46]⟩:Bt)] p (λq r=>∃s t u,q=.tuple #[.string s,.string t,.bool u]/\XRunU Tp (Tt 9 (.pointer (Td (Tl ⟨h.size,0,Te⟩ 2))) (.string s)) r (λv=>XRunU Tp (Tt 9 (.pointer (Td (Tl ⟨h.size,0,Te⟩ 3))) (.string t)) v (λw=>XC Tp 215 #[.string s] w (λx y=>∃z,x=.bool z/\∃A:Value->za->Prop,(((!(!z))&&u)=Ta->XC Tp 215 #[.string t] y (λB C=>∃D,B=.bool D/\A (.bool D) C))/\(((!(!z))&&u)=Tc->∃E,A (.bool E) y)/\(((!(!z))&&u)=Ta->∀F G,A F G->∃I,F=.bool I)/\∀J:Bool,∀L,A (.bool J) L->((bif (!z)then Ta else(bif u then(!J)else Tc))=Ta->∃M N O P Q,zc L ⟨h.size,0,Te⟩ 0 [.bool M,.bool N,.string O,.string P,.string Q]/\XRunU Tp (Tt 221 (.pointer (Td ⟨h.size,0,Te⟩)) (.agg #[.bool M,.bool N,.string O,.string P,.string Q])) L (λS=>∃T U V W X,zc S ⟨h.size,0,Te⟩ 0 [.bool T,.bool U,.string V,.string W,.string X]/\R (.tuple #[.agg #[.bool T,.bool U,.string V,.string W,.string X],.bool Tc]) S))/\((bif (!z)then Ta else(bif u then(!J)else Tc))=Tc->∃Y Z aa ab ac,zc L ⟨h.size,0,Te⟩ 0 [.bool Y,.bool Z,.string aa,.string ab,.string ac]/\let ad:za->Prop:=λ(ae:za)=>(∃af ag ah ai aj,zc ae ⟨h.size,0,Te⟩ 0 [.bool af,.bool ag,.string ah,.string ai,.string aj]/\R (.tuple #[.agg #[.bool af,.bool ag,.string ah,.string ai,.string aj],.bool (bif (s.toList==(⟨#[48]⟩:Bt).toList)then Ta else((yu s (0:Int).toNat:Int) != 48))]) ae);let ak:za->Prop:=λ(al:za)=>(ad al);let am:za->Prop:=λ(an:za)=>(ak an);let ao:za->Prop:=λ(ap:za)=>(((!(s.toList==(⟨#[48]⟩:Bt).toList))=Ta->(0<=(0:Int)/\(0:Int)<(s.size:Int)))/\am ap);((L)[(⟨h.size,0,Te⟩:Addr).block]?=(L)[(⟨h.size,0,Te⟩:Addr).block]?/\(((!(s.toList==(⟨#[48]⟩:Bt).toList))=Ta->(0<=(0:Int)/\(0:Int)<(s.size:Int)))/\(L)[(⟨h.size,0,Te⟩:Addr).block]?=(L)[(⟨h.size,0,Te⟩:Addr).block]?/\((L)[(⟨h.size,0,Te⟩:Addr).block]?=(L)[(⟨h.size,0,Te⟩:Addr).block]?/\((L)[(⟨h.size,0,Te⟩:Addr).block]?=(L)[(⟨h.size,0,Te⟩:Addr).block]?/\XRunU Tp (Tt 221 (.pointer (Td ⟨h.size,0,Te⟩)) (.agg #[.bool Y,.bool Z,.string aa,.string ab,.string ac])) L (λaq=>ad aq))/\(XRunU Tp (Tt 221 (.pointer (Td ⟨h.size,0,Te⟩)) (.agg #[.bool Y,.bool Z,.string aa,.string ab,.string ac])) L (λar=>ak ar)))/\(XRunU Tp (Tt 221 (.pointer (Td ⟨h.size,0,Te⟩)) (.agg #[.bool Y,.bool Z,.string aa,.string ab,.string ac])) L (λau=>am au)))/\(XRunU Tp (Tt 221 (.pointer (Td ⟨h.size,0,Te⟩)) (.agg #[.bool Y,.bool Z,.string aa,.string ab,.string ac])) L (λav=>ao av)))/\(XRunU Tp (Tt 221 (.pointer (Td ⟨h.size,0,Te⟩)) (.agg #[.bool Y,.bool Z,.string aa,.string ab,.string ac])) L (λaw=>ao aw)))))))))->m n o)->(l=Ta->XC Tp 267 #[.string k,.string (⟨#[45]⟩:Bt)] i (λax ay=>∃az aA,ax=.tuple #[.string az,.bool aA]/\XRunU Tp (Tt 4 (.pointer (Td (Tl ⟨h.size,0,Te⟩ 1))) (.bool aA)) ay (λaB=>∀aC:Bt->za->Prop,(∀aD:Bt,∀aE:za,(XC Tp 215 #[.string aD] aE (λaF aG=>∃aH,aF=.bool aH/\((!aH)=Ta->∃aI aJ aL aM aN,zc aG ⟨h.size,0,Te⟩ 0 [.bool aI,.bool aJ,.string aL,.string aM,.string aN]/\XRunU Tp (Tt 221 (.pointer (Td ⟨h.size,0,Te⟩)) (.agg #[.bool aI,.bool aJ,.string aL,.string aM,.string aN])) aG (λaO=>∃aP aQ aS aT aU,zc aO ⟨h.size,0,Te⟩ 0 [.bool aP,.bool aQ,.string aS,.string aT,.string aU]/\R (.tuple #[.agg #[.bool aP,.bool aQ,.string aS,.string aT,.string aU],.bool Tc]) aO))/\((!aH)=Tc->m aD aG)))->aC aD aE)->∃aV,zb aB (Tl ⟨h.size,0,Te⟩ 1)=Td (.bool aV)/\((!aV)=Ta->XC Tp 269 #[.string az,.string (⟨#[43]⟩:Bt)] aB (λaW aX=>∃aY,aW=.string aY/\aC aY aX))/\((!aV)=Tc->aC az aB))))/\(l=Tc->m k i))))):
  XC Tp 217 #[.string s0] h R:=
 XF ⟨[(14,8000)],[],[(9,[(4,.one (.str))]),(7,[(4,.one (.str))])]⟩ [.cell 2 221,.tmp 3] 69 Tryz.func217 H
theorem Kn(s0:Bt)(h:za)(R:Value->za->Prop) (H:let a:=h.push (.cells #[.bool Tc,.string (⟨#[]⟩:Bt),iV 0] 110);XC Tp 160 #[.string s0] a (λb c=>∃d e f g,b=.tuple #[.agg #[.bool d,.string e,iV f],iV g]/\let i:=c.push (.cells #[.bool Tc,.string (⟨#[]⟩:Bt),iV 0] 110);XRunU Tp (Tt 110 (.pointer (Td ⟨c.size,0,Te⟩)) (.agg #[.bool d,.string e,iV f])) i (λj=>∃k l m,zc j ⟨c.size,0,Te⟩ 0 [.bool k,.string l,iV m]/\let n:Bool->za->Prop:=λo (p:za)=>(∃q r s,zc p ⟨h.size,0,Te⟩ 0 [.bool q,.string r,iV s]/\R (.tuple #[.agg #[.bool q,.string r,iV s],.bool o]) p);let t:Bool->za->Prop:=λu (v:za)=>(n (bif (g==0)then u else Tc) v);let w:Bt->za->Prop:=λx (y:za)=>(t (x.toList==s0.toList) y);let z:Bt->za->Prop:=λA (B:za)=>(((B)[(⟨c.size,0,Te⟩:Addr).block]?=(j)[(⟨c.size,0,Te⟩:Addr).block]?/\((B)[(⟨c.size,0,Te⟩:Addr).block]?=(j)[(⟨c.size,0,Te⟩:Addr).block]?/\XRunU Tp (Tt 110 (.pointer (Td ⟨h.size,0,Te⟩)) (.agg #[.bool k,.string l,iV m])) B (λC=>n (bif (g==0)then(A.toList==s0.toList)else Tc) C))/\(XRunU Tp (Tt 110 (.pointer (Td ⟨h.size,0,Te⟩)) (.agg #[.bool k,.string l,iV m])) B (λD=>t (A.toList==s0.toList) D)))/\(XRunU Tp (Tt 110 (.pointer (Td ⟨h.size,0,Te⟩)) (.agg #[.bool k,.string l,iV m])) B (λE=>w A E)));let F:Bool->Bt->Int->za->Prop:=λG I J (L:za)=>(∃M:Value->za->Prop,((g==0)=Ta->XC Tp 92 #[.agg #[.bool G,.string I,iV J]] L (λN O=>∃P,N=.string P/\M (.string P) O))/\((g==0)=Tc->∃Q,M (.string Q) L)/\((g==0)=Ta->∀S T,M S T->∃U,S=.string U)/\∀V:Bt,∀W,M (.string V) W->(W)[(⟨c.size,0,Te⟩:Addr).block]?=(j)[(⟨c.size,0,Te⟩:Addr).block]?/\z V W);(∃X Y Z,((g==0)=Ta->zc j ⟨c.size,0,Te⟩ 0 [.bool X,.string Y,iV Z])/\(j)[(⟨c.size,0,Te⟩:Addr).block]?=(j)[(⟨c.size,0,Te⟩:Addr).block]?/\(∃aa:Value->za->Prop,((g==0)=Ta->XC Tp 92 #[.agg #[.bool X,.string Y,iV Z]] j (λab ac=>∃ad,ab=.string ad/\aa (.string ad) ac))/\((g==0)=Tc->∃ae,aa (.string ae) j)/\((g==0)=Ta->∀af ag,aa af ag->∃ah,af=.string ah)/\∀ai:Bt,∀aj,aa (.string ai) aj->(aj)[(⟨c.size,0,Te⟩:Addr).block]?=(j)[(⟨c.size,0,Te⟩:Addr).block]?/\((aj)[(⟨c.size,0,Te⟩:Addr).block]?=(j)[(⟨c.size,0,Te⟩:Addr).block]?/\z ai aj)/\(XRunU Tp (Tt 110 (.pointer (Td ⟨h.size,0,Te⟩)) (.agg #[.bool k,.string l,iV m])) aj (λak=>w ai ak)))/\((j)[(⟨c.size,0,Te⟩:Addr).block]?=(j)[(⟨c.size,0,Te⟩:Addr).block]?/\F X Y Z j))/\((j)[(⟨c.size,0,Te⟩:Addr).block]?=(j)[(⟨c.size,0,Te⟩:Addr).block]?/\∃al am an,((g==0)=Ta->zc j ⟨c.size,0,Te⟩ 0 [.bool al,.string am,iV an])/\(j)[(⟨c.size,0,Te⟩:Addr).block]?=(j)[(⟨c.size,0,Te⟩:Addr).block]?/\F al am an j)))):
  XC Tp 148 #[.string s0] h R:=
 XF ⟨[(2,8000)],[],[]⟩ [.cell 2 110,.tmp 3] 20 Tryz.func148 H
theorem Nn(a:Bool)(b:Bt)(c:Int)(h:za)(R:Value->za->Prop) (H:let d:=h.push (.cells #[.bool a,.string b,iV c] 110);∃e f g,zc d ⟨h.size,0,Te⟩ 0 [.bool e,.string f,iV g]/\XC Tp 158 #[.agg #[.bool e,.string f,iV g]] d (λi j=>∃k,i=.bool k/\∃l,((!(!k))=Ta->zb j (Tl ⟨h.size,0,Te⟩ 2)=Td (iV l))/\∃m,((!(bif (!k)then Ta else(decide (l<0))))=Ta->zb j (Tl ⟨h.size,0,Te⟩ 1)=Td (.string m))/\∃n,((!(bif (!k)then Ta else(decide (l<0))))=Ta->zb j (Tl ⟨h.size,0,Te⟩ 2)=Td (iV n))/\((bif (bif (!k)then Ta else(decide (l<0)))then Ta else(decide ((Tj .i64 ((m.size:Int)+n))>19)))=Ta->R (.tuple #[iV 0,.bool Tc]) j)/\((bif (bif (!k)then Ta else(decide (l<0)))then Ta else(decide ((Tj .i64 ((m.size:Int)+n))>19)))=Tc->∃o,zb j (Tl ⟨h.size,0,Te⟩ 1)=Td (.string o)/\∃p,zb j (Tl ⟨h.size,0,Te⟩ 2)=Td (iV p)/\XC Tp 200 #[.string (⟨#[48]⟩:Bt),iV p] j (λq r=>∃s,q=.string s/\yz (o.size+s.size)/\(r)[((Tl ⟨h.size,0,Te⟩ 1):Addr).block]?=(j)[((Tl ⟨h.size,0,Te⟩ 1):Addr).block]?/\∀t:Bt->za->Prop,(∀u:Bt,∀v:za,(((u.toList==(⟨#[]⟩:Bt).toList)=Ta->R (.tuple #[iV 0,.bool Ta]) v)/\((u.toList==(⟨#[]⟩:Bt).toList)=Tc->XC Tp 262 #[.string u,iV 10,iV 64] v (λw x=>∃y,∃z:Value,w=.tuple #[iV y,z]/\m7 z=Ta/\((!nZ z)=Ta->R (.tuple #[iV 0,.bool Tc]) x)/\((!nZ z)=Tc->R (.tuple #[iV y,.bool Ta]) x))))->t u v)->∃A,zb r (Tl ⟨h.size,0,Te⟩ 0)=Td (.bool A)/\(A=Ta->yz (((⟨#[45]⟩:Bt)).size+(o++s).size)/\t ((⟨#[45]⟩:Bt)++(o++s)) r)/\(A=Tc->t (o++s) r))))):
  XC Tp 209 #[.agg #[.bool a,.string b,.int .i64 c]] h R:=
 XF ⟨[(3,8000)],[],[(6,[(4,.one (.str))])]⟩ [.tmp 2,.tmp 3] 44 Tryz.func209 H
end
end Go.X
end
section
namespace Go.X
open Go Go.RowKit
section
variable {h h':za} {bs:List Nat} {v:Tr} {M:Fr} {b o n:Nat} {cs:Array Value} {vs:List Value}
def OKeys(h:za)(ks:List Bt)(bs:List Nat)(s:Sl):Prop:=
 s.len=ks.length/\ks.length<=140737488355328/\ks.length<=s.cap/\((ks=[]/\bs=[]/\s.cap=0)\/∃b cs,bs=[b]/\s.a=Td ⟨b,0,Te⟩/\Blk h b cs/\s.cap<=cs.size/\cut cs 0 ks.length=ks.map TH)
inductive OT (h:za):Tr->List Nat->List Value->Prop where
 |mk {k:Int} {s:Bt} {ks:List Bt} {xs:List Tr} {sk si:Sl} {bk bb:List Nat} {b:Nat} {cs:Array Value} {bf:Nat->List Nat}
  (hk:OKeys h ks bk sk) (hn:si.len=xs.length/\xs.length<=140737488355328/\xs.length<=si.cap)
  (hz:(xs=[]/\bb=[]/\si.cap=0)\/(bb=[b]/\si.a=Td ⟨b,0,Te⟩/\Blk h b cs/\si.cap*4<=cs.size))
  (hi:∀i (hx:i<xs.length),OT h xs[i] (bf i) (cut cs (i*4) 4))
  (hd:(bk++(bb++(TZ xs.length).flatMap bf)).Nodup):
  OT h (.mk k s ks xs) (bk++(bb++(TZ xs.length).flatMap bf)) [.int .i64 k,.string s,aK sk,aK si]
theorem OKeys.frame{ks:List Bt}{s:Sl}(H:OKeys h ks bs s)(c:∀b∈bs,h'[b]?=h[b]?):OKeys h' ks bs s:=by obtain⟨h1,i,k,j⟩:=H;refine⟨h1,i,k,j.imp id ?_⟩;rintro⟨b,cs,rfl,e,l,f⟩;exact⟨b,cs,rfl,e,l.keep (c b (by simp)),f⟩
theorem OT.frame{cells:List Value}(H:OT h v bs cells):(∀b∈bs,h'[b]?=h[b]?)->OT h' v bs cells:=by
 induction H with
 | @mk k s ks xs sk si bk bb b cs bf hk hn hz hi hd ih=>intro f;refine OT.mk (b:=b) (cs:=cs) (hk.frame λx c=>f x (by simp[c])) hn (hz.imp id ?_) (λi c=>ih i c λx e=>f x ?_) hd;rintro⟨rfl,j,m,l⟩;exact⟨rfl,j,m.keep (f b (by simp)),l⟩;simp only[TE,Vw,Ui];exact .inr (.inr ⟨i,c,e⟩)
theorem OT.nodup{cells:List Value}(H:OT h v bs cells):bs.Nodup:=by cases H with|mk _ _ _ _ b=>exact b
theorem OT.lt{cells:List Value}(H:OT h v bs cells):∀b∈bs,b<h.size:=by
 induction H with
 | @mk k s ks xs sk si bk bb b cs bf hk hn hz hi hd ih=>intro x c;simp only[TE,Vw,Ui]at c;rcases c with c|c|⟨i,h1,f⟩;obtain⟨_,_,_,j⟩:=hk;rcases j with⟨_,rfl,_⟩|⟨b',cs',rfl,_,e,_⟩;cases c;simp at c;subst c;exact e.lt;rcases hz with⟨_,rfl,_⟩|⟨rfl,_,e,_⟩;cases c;simp at c;subst c;exact e.lt;exact ih i h1 x f
theorem OT.rd{cells:List Value}(H:OT h v bs cells)(m:∀b∈bs,∀cs,Blk h b cs->M b=Td cs):TrRd M v cells:=by
 induction H with
 | @mk k s ks xs sk si bk bb b cs bf hk hn hz hi hd ih=>
  obtain⟨r,k2,t,w⟩:=hk;have n:RowAt M (λs cs=>cs=[.string s]) 1 ks (aK sk):=by
   refine⟨sk.a,sk.cap,by rw[aK,r],⟨k2,t⟩,?_⟩;rcases w with⟨h0,_⟩|⟨b',cs',rfl,p,q,_,u⟩;exact .inl h0;refine .inr ⟨b',0,cs',p,m b' (by simp) cs' q,λi f=>?_⟩;have:(cut cs' 0 ks.length)[i]?=Td (TH ks[i]):=by rw[u,Us,Tv f];rfl
   unfold cut at this ⊢;rw[Ud,zA f,Vp]at this;have c:=(T5.1 this).1;rw[TJ,Uj,Uk c,Vv,List.take_zero];rw[Tv c]at this;rw[TY this]
  have l:aK si=.slice si.a xs.length si.cap:=by rw[aK,hn.1]
  rw[l];refine TrRd.mk (b:=b) (o:=0) (cs:=cs) n hn.2 (hz.imp (·.1) ?_) λi f=>?_;rintro⟨rfl,p,q,_⟩;exact⟨p,m b (by simp) cs q⟩;rw[TJ];exact ih i f λx j cs' e=>m x (by simp only[TE,Vw,Ui];exact .inr (.inr ⟨i,f,j⟩)) cs' e
def MxL(M:Fr)(h:za)(bs:List Nat):Fr:=λi=>if i∈bs then(match h[i]? with
 |some (.cells cs _ _)=>Td cs
 |_=>Te)else M i
theorem MxL.ag{M:Fr}{h:za}(ag:AgM M h)(bs:List Nat):AgM (MxL M h bs) h:=by intro b c e;unfold MxL at e;split at e;split at e;rename_i cs T m f;cases e;exact⟨T,m,f⟩;cases e;exact ag b c e
theorem MxL.later{h0 h:za}(ag:AgM M h0)(k:Keep h0.size h0 h)(hb:∀b∈bs,h0.size<=b):Later h0 M h (MxL M h bs) where
 keep:=k
 le:=λb c e=>by have:=ag.lt e;unfold MxL;rw[zv (λhm=>by have:=hb b hm;omega)];exact e
 old:=λb hlt=>by unfold MxL;rw[zv (λhm=>by have:=hb b hm;omega)]
 ag:=MxL.ag (ag.keep k) bs
theorem MxL.at(c:b∈bs)(e:Blk h b cs):MxL M h bs b=Td cs:=by obtain⟨T,e⟩:=e;unfold MxL;rw[zA c,e]
def iI(cs:Array Value)(o:Nat)(vs:List Value):Array Value:=(cs.toList.take o++vs++cs.toList.drop (o+vs.length)).toArray
theorem CP(h:o+vs.length<=cs.size):(iI cs o vs).size=cs.size:=by unfold iI;simp;omega
theorem xS(h:o+vs.length<=cs.size)(q:Nat):(iI cs o vs).toList[q]?=if q<o then cs.toList[q]? else if q<o+vs.length then vs[q-o]? else cs.toList[q]?:=by unfold iI;exact Zr (by simpa using h) q
theorem qd{o n i:Nat}:(cut cs o n)[i]?=if i<n then cs.toList[o+i]? else Te:=by unfold cut;rw[Ud];split;rw[Ur];rfl
theorem Rm(h:o+vs.length<=cs.size):cut (iI cs o vs) o vs.length=vs:=by apply Uf;intro i;rw[qd];split;rw[xS h,zv (by omega),zA (by omega)];congr 1;omega;rw[Un (by omega)]
theorem zV{o p n:Nat}(h:o+vs.length<=cs.size)(b:p+n<=o\/o+vs.length<=p):cut (iI cs o vs) p n=cut cs p n:=by apply Uf;intro i;rw[qd,qd];split;rw[xS h];split;rfl;rw[zv (by omega)];rfl
theorem X4{P:Program}{t:TypeId}(hi:qm P t=Ta)(H:Blk h b cs){v:Value}(c:v.cells.toList=vs)(m:y8 P t=vs.length)(k:o+vs.length<=cs.size)(h1:∀u∈vs,u.oneCell'=Ta){K:za->Prop}
  (q:∀h':za,Blk h' b (iI cs o vs)->h'.size=h.size->(∀j,j≠b->h'[j]?=h[j]?)->K h'):XRunU P (Tt t (.pointer (Td ⟨b,o,Te⟩)) v) h K:=by
 intro B d;obtain⟨T,e⟩:=H;have f:v.cells.size=vs.length:=by rw[<-c];simp
 obtain⟨h',l,n,i,p⟩:=Z6 (P:=P) hi m e f k (by rw[c];exact h1) B d;refine⟨d,h',l,q h' ⟨T,?_⟩ i p⟩;rw[n];unfold iI;rw[c]
theorem Blk.ofKeep(H:Blk h b cs)(k:Keep h.size h h'):Blk h' b cs:=H.keepN k H.lt
theorem qC(ag:AgM M h)(bs:List Nat):Fr.le M (MxL M h bs):=by intro b c e;unfold MxL;split;obtain⟨T,m,f⟩:=ag b c e;rw[f];exact e
end
end Go.X
end
section
namespace Go.X
open Go Go.X Go.Proofs Go.Lib
section
variable {cs:Array Value} {M Mg:Fr} {v:Value} {g h g':za}
theorem Gt{vs:List Value}(h:cs.size=vs.length):iI cs 0 vs=vs.toArray:=by unfold iI;simp_all
theorem Ga{n:Bool×Bt×Int}{u:Value}(h:RdV M (.pair .bool (.pair .str (.int .i64))) n u):u=.agg #[.bool n.1,.string n.2.1,.int .i64 n.2.2]:=by
 unfold RdV at h;simp only[fR,if_true]at h;obtain⟨cs,e,c1,c2,rfl,h1,f,i,rfl,b,c⟩:=h;have h1:c1=[.bool n.1]:=by simpa[Rd]using h1
 have b:f=[.string n.2.1]:=by simpa[Rd]using b
 have c:i=[.int .i64 n.2.2]:=by simpa[Rd]using c
 simp_all
theorem uT(a:Bool)(s:Bt)(i:Int):RdV M (.pair .bool (.pair .str (.int .i64))) (a,s,i) (.agg #[.bool a,.string s,.int .i64 i]):=by unfold RdV;simp only[fR,if_true];exact⟨[.bool a,.string s,.int .i64 i],rfl,[_],[_,_],rfl,rfl,[_],[_],rfl,rfl,rfl⟩
theorem tS(n:Int)(b:Bool):Yg M [.int .i64,.bool] (n,b) (.tuple #[.int .i64 n,.bool b]):=⟨[_,_],⟨_,_,rfl,Qv .i64 n,_,rfl,rdBool _⟩,rfl⟩
theorem P8{r:Int×Bool}(h:Yg M [.int .i64,.err] r v):∃e:Value,v=.tuple #[.int .i64 r.1,e]/\m7 e=Ta/\nZ e=r.2:=by
 obtain⟨us,⟨m,l,rfl,f,i,rfl,b⟩,rfl⟩:=h;rw[Qo rfl]at f b;have j:m=.int .i64 r.1:=by simpa[Rd]using f
 subst j;have b:∃v,[i]=[v]/\((r.2=Ta/\v=.nilIface)\/(r.2=Tc/\∃t u,v=.iface t u)):=b;obtain⟨v,c,k⟩:=b;have c:i=v:=by simpa using c
 subst c;rcases k with⟨e,rfl⟩|⟨e,t,u,rfl⟩;exact⟨_,rfl,rfl,e.symm⟩;exact⟨_,rfl,rfl,e.symm⟩
theorem IQ(gl:Fr)(n0:Bool×Bt×Int)(R:(Int×Bool)->Prop) (H:PC Tp gl 158 [Arg.mk (.pair .bool (.pair .str (.int .i64))) (n0.1,(n0.2.1,n0.2.2))] [.bool] (λA:Bool=>((bif (bif (!A)then Ta else(decide ((n0.2.2:Int)<0)))then Ta else(decide ((Tj .i64 (((n0.2.1).size:Int)+n0.2.2):Int)>19)))=Ta->R (0,Tc)) /\ ((bif (bif (!A)then Ta else(decide ((n0.2.2:Int)<0)))then Ta else(decide ((Tj .i64 (((n0.2.1).size:Int)+n0.2.2):Int)>19)))=Tc->PC Tp gl 200 [Arg.mk .str (⟨#[48]⟩:Bt),Arg.mk (.int .i64) n0.2.2] [.str] (λi:Bt=>yz ((n0.2.1).size+(i).size) /\ ∀l:Bt->Prop,(∀f:Bt,((((f:Bt).toList==((⟨#[]⟩:Bt):Bt).toList)=Ta->R (0,Ta)) /\ (((f:Bt).toList==((⟨#[]⟩:Bt):Bt).toList)=Tc->PC Tp gl 262 [Arg.mk .str f,Arg.mk (.int .i64) 10,Arg.mk (.int .i64) 64] [.int .i64,.err] (λj:Int×Bool=>((!j.2)=Ta->R (0,Tc)) /\ ((!j.2)=Tc->R (j.1,Ta)))))->l f)->(n0.1=Ta->yz (((⟨#[45]⟩:Bt)).size+(n0.2.1++i).size) /\ l ((⟨#[45]⟩:Bt)++(n0.2.1++i))) /\ (n0.1=Tc->l (n0.2.1++i)))))):
    PC Tp gl 209 [Arg.mk (.pair .bool (.pair .str (.int .i64))) n0] [.int .i64,.bool] R:=by
  intro h M vs D ag ha
  match vs,ha with
  |[u],⟨I,_⟩=>
  have I:RdV M (.pair .bool (.pair .str (.int .i64))) n0 u:=I;rw[Ga I];apply PX.of;apply Nn n0.1 n0.2.1 n0.2.2;intro h1;have P:Keep h.size h h1:=Keep.push _ _ (Tm _);have b1:Blk h1 h.size #[.bool n0.1,.string n0.2.1,.int .i64 n0.2.2]:=Blk.new _ _ _;clear_value h1;refine⟨_,_,_,b1.ld (cs:=[.bool n0.1,.string n0.2.1,.int .i64 n0.2.2]),?_⟩;refine H.go (vs:=[.agg #[.bool n0.1,.string n0.2.1,.int .i64 n0.2.2]]) D (ag.keep P) (zh (a:=Arg.mk (.pair .bool (.pair .str (.int .i64))) (n0.1,(n0.2.1,n0.2.2))) (uT _ _ _) zy) λw h6 Q r p b hr=>?_;obtain⟨L,C⟩:=hr;have n:=b1.ofKeep p.keep;have B:Later h M h6 Q:=(Later.same ag P).trans p;refine⟨r,Jk b,n0.2.2,λ_=>n.cellAdd (o:=0) (k:=2) rfl,n0.2.1,λ_=>n.cellAdd (o:=0) (k:=1) rfl,n0.2.2,λ_=>n.cellAdd (o:=0) (k:=2) rfl,λJ=>⟨Q,(0,Tc),B,tS _ _,L J⟩,λJ=>?_⟩;refine⟨_,n.cellAdd (o:=0) (k:=1) rfl,_,n.cellAdd (o:=0) (k:=2) rfl,?_⟩;refine(C J).go (vs:=[.string ⟨#[48]⟩,.int .i64 n0.2.2]) (D.trans p.le) p.ag (zh (a:=Arg.mk .str (⟨#[48]⟩:Bt)) (rdStr _) (zh (a:=Arg.mk (.int .i64) n0.2.2) (Qv _ _) zy)) λw x N r2 m b O=>?_;obtain⟨Z,U⟩:=O;refine⟨r2,lF b,Z,m.keep.get _ n.lt,?_⟩;intro F y;have c:=B.trans m;obtain⟨G,E⟩:=U (λs=>F s x) λs ⟨a1,a2⟩=>y s x ⟨λe=>⟨N,(0,Ta),c,tS _ _,a1 e⟩,λe=>by refine(a2 e).go (vs:=[.string s,.int .i64 10,.int .i64 64]) (D.trans c.le) c.ag (zh (a:=Arg.mk .str s) (rdStr _) (zh (a:=Arg.mk (.int .i64) 10) (Qv _ _) (zh (a:=Arg.mk (.int .i64) 64) (Qv _ _) zy))) λw Y z V q b t=>?_;obtain⟨S,rfl,hi,hn⟩:=P8 b;refine⟨_,S,rfl,hi,λT=>⟨z,(0,Tc),c.trans q,tS _ _,t.1 (by grind)⟩,λT=>⟨z,(V.1,Ta),c.trans q,tS _ _,t.2 (by grind)⟩⟩⟩;exact⟨n0.1,((b1.ofKeep p.keep).ofKeep m.keep).cellAdd (o:=0) (k:=0) rfl,G,E⟩
theorem Sy{r:(Bool×Bt×Int)×Int}(h:Yg M [.pair .bool (.pair .str (.int .i64)),.int .i64] r v):v=.tuple #[.agg #[.bool r.1.1,.string r.1.2.1,.int .i64 r.1.2.2],.int .i64 r.2]:=by
 obtain⟨us,⟨j,f,rfl,e,c,rfl,b⟩,rfl⟩:=h;rw[Ga e];rw[Qo rfl]at b;have i:c=.int .i64 r.2:=by simpa[Rd]using b
 rw[i];rfl
theorem Sv(a:Bool)(s:Bt)(i:Int)(b:Bool):Yg M [.pair .bool (.pair .str (.int .i64)),.bool] ((a,s,i),b) (.tuple #[.agg #[.bool a,.string s,.int .i64 i],.bool b]):=⟨[_,_],⟨_,_,rfl,uT a s i,_,rfl,rdBool _⟩,rfl⟩
theorem Fg{b:Nat}(B:Blk g b cs)(m:cs.size=3){x:Bool}{s:Bt}{i:Int}{t:TypeId}(e:qm Tp t=Ta)(hz:y8 Tp t=3){K:za->Prop}(f:∀g',(∀j,j≠b->g'[j]?=g[j]?)->g'.size=g.size->Blk g' b #[.bool x,.string s,.int .i64 i]->K g'):
  XRunU Tp (Tt t (.pointer (Td ⟨b,0,Te⟩)) (.agg #[.bool x,.string s,.int .i64 i])) g K:=by
 refine X4 (vs:=[.bool x,.string s,.int .i64 i]) e B rfl hz (by simp_all) (λu c=>?_) λg' l k h=>f g' h k (by simp_all[Gt]);simp at c;rcases c with rfl|rfl|rfl <;> rfl
set_option maxHeartbeats 1000000 in
theorem SZ(gl:Fr)(n:Bt)(R:((Bool×Bt×Int)×Bool)->Prop) (H:PC Tp gl 160 [Arg.mk .str n] [.pair .bool (.pair .str (.int .i64)),.int .i64] (λb:(Bool×Bt×Int)×Int=>∃D:Bt->Prop,(((b.2:Int)==0)=Ta->PC Tp gl 92 [Arg.mk (.pair .bool (.pair .str (.int .i64))) (b.1.1,(b.1.2.1,b.1.2.2))] [.str] D) /\ ∀E:Bt,(((b.2:Int)==0)=Ta->D E)->R ((b.1.1,(b.1.2.1,b.1.2.2)),bif ((b.2:Int)==0)then((E:Bt).toList==(n:Bt).toList)else Tc))):
    PC Tp gl 148 [Arg.mk .str n] [.pair .bool (.pair .str (.int .i64)),.bool] R:=by
  intro h M vs hM ag ha
  match vs,ha with
  |[u],⟨P,_⟩=>
  have P:RdV M .str n u:=P;rw[jw P];apply PX.of;apply Kn n;intro h1;have k1:Keep h.size h h1:=Keep.push _ _ (Tm _);have z1:h1.size=h.size+1:=To _;have b1:Blk h1 h.size #[.bool Tc,.string ⟨#[]⟩,.int .i64 0]:=Blk.new _ _ _;clear_value h1;have L1:Later h M h1 M:=Later.same ag k1;refine H.go (vs:=[.string n]) hM L1.ag (zh (a:=Arg.mk .str n) (rdStr _) zy) λw q V r A l hr=>?_;obtain⟨N,hJ,hR⟩:=hr;rw[Sy l];refine⟨_,_,_,_,rfl,?_⟩;have z3:=A.keep.size;refine Fg (cs:=#[.bool Tc,.string ⟨#[]⟩,.int .i64 0]) (Blk.new _ _ _) rfl (by kernel_rfl) (by kernel_rfl) λp f9 z9 G=>?_;rw[To]at z9;have k9:Keep q.size q p:=⟨by omega,λj S=>(f9 j (by omega)).trans ((Keep.push q _ (Tm _)).get j S)⟩;have I:Later h M p V:=(L1.trans A).trans (Later.same A.ag k9);have C:V h.size=Te:=by
    rw[A.old h.size (by omega)];cases e:M h.size with
    |none=>rfl
    |some c=>have:=ag.lt e;omega
  have Y:Blk p h.size #[.bool Tc,.string ⟨#[]⟩,.int .i64 0]:=(b1.ofKeep A.keep).ofKeep k9;refine⟨r.1.1,r.1.2.1,r.1.2.2,G.ld (cs:=[.bool r.1.1,.string r.1.2.1,.int .i64 r.1.2.2]),?_⟩;intro Z ab aa O U;have fin:∀(g:za) (Mg:Fr) (x:Bt),Later h M g Mg->Mg h.size=Te->(∃cs,Blk g h.size cs/\cs.size=3)->(((r.2:Int)==0)=Ta->N x) ->
      XRunU Tp (Tt 110 (.pointer (Td ⟨TG h,0,Te⟩)) (.agg #[.bool r.1.1,.string r.1.2.1,.int .i64 r.1.2.2])) g (λg'=>Z (bif ((r.2:Int)==0)then((x:Bt).toList==(n:Bt).toList)else Tc) g'):=λg Mg x L o ⟨cs,B,hc⟩ k=>
    Fg B hc (by kernel_rfl) (by kernel_rfl) λg' f z B'=>⟨_,_,_,B'.ld (cs:=[.bool r.1.1,.string r.1.2.1,.int .i64 r.1.2.2]),Mg,((r.1.1,(r.1.2.1,r.1.2.2)),_),⟨⟨by have:=L.keep.size;omega,λj S=>(f j (by omega)).trans (L.keep.get j S)⟩,L.le,L.old,λc cc e=>by obtain⟨T,m,e2⟩:=L.ag c cc e;grind⟩,Sv _ _ _ _,hR x k⟩
  have Q:∀(g:za) (Mg:Fr) (x:Bt),Later h M g Mg->Mg h.size=Te->(∃cs,Blk g h.size cs/\cs.size=3)->(((r.2:Int)==0)=Ta->N x)->g[q.size]?=p[q.size]?->O x g:=λg Mg x L o B k t=>⟨⟨t,⟨t,fin g Mg x L o B k⟩,fin g Mg x L o B k⟩,fin g Mg x L o B k⟩;let F:Value->za->Prop:=λv g=>∃x:Bt,v=.string x/\(∃Mg,Later h M g Mg/\Mg h.size=Te/\(∃cs,Blk g h.size cs/\cs.size=3)/\g[q.size]?=p[q.size]?)/\(((r.2:Int)==0)=Ta->N x);have call:((r.2:Int)==0)=Ta->XC Tp 92 #[.agg #[.bool r.1.1,.string r.1.2.1,.int .i64 r.1.2.2]] p (λv g=>∃x:Bt,v=.string x/\F (.string x) g):=λe=>
    (hJ e).go (vs:=[.agg #[.bool r.1.1,.string r.1.2.1,.int .i64 r.1.2.2]]) (hM.trans I.le) I.ag (zh (a:=Arg.mk (.pair .bool (.pair .str (.int .i64))) (r.1.1,(r.1.2.1,r.1.2.2))) (uT _ _ _) zy) λw g Mg x J l k=>
      ⟨x,lF l,x,rfl,⟨Mg,I.trans J,by rw[J.old h.size Y.lt];exact C,⟨_,Y.ofKeep J.keep,rfl⟩,J.keep.get _ G.lt⟩,λ_=>k⟩
  have i:((r.2:Int)==0)=Tc->∃x:Bt,F (.string x) p:=λe=>⟨⟨#[]⟩,⟨#[]⟩,rfl,⟨V,I,C,⟨_,Y,rfl⟩,rfl⟩,λe'=>by simp_all⟩;have y:U r.1.1 r.1.2.1 r.1.2.2 p:=⟨F,call,i,λ_ v g ⟨x,e,_⟩=>⟨x,e⟩,λx g ⟨x',e,⟨Mg,L,o,B,t⟩,k⟩=>by injection e with e;subst e;grind⟩;refine⟨⟨_,_,_,λ_=>G.ld (cs:=[.bool r.1.1,.string r.1.2.1,.int .i64 r.1.2.2]),rfl,⟨F,call,i,λ_ v g ⟨x,e,_⟩=>⟨x,e⟩,λx g ⟨x',e,⟨Mg,L,o,B,t⟩,k⟩=>?_⟩,rfl,y⟩,rfl,_,_,_,λ_=>G.ld (cs:=[.bool r.1.1,.string r.1.2.1,.int .i64 r.1.2.2]),rfl,y⟩;injection e with e;subst e;exact⟨t,⟨t,Q g Mg x L o B k t⟩,fin g Mg x L o B k⟩
theorem AP{r:Bt×Bool}(h:Yg M [.str,.bool] r v):v=.tuple #[.string r.1,.bool r.2]:=by
 obtain⟨us,⟨j,f,rfl,e,c,rfl,b⟩,rfl⟩:=h;rw[jw e];rw[Qo rfl]at b;have i:c=.bool r.2:=by simpa[Rd]using b
 rw[i];rfl
theorem zY{r:Bt×Bt×Bool}(h:Yg M [.str,.str,.bool] r v):v=.tuple #[.string r.1,.string r.2.1,.bool r.2.2]:=by
 obtain⟨us,⟨l,j,rfl,i,m,e,rfl,c,k,rfl,b⟩,rfl⟩:=h;rw[jw i,jw c];rw[Qo rfl]at b;have f:k=.bool r.2.2:=by simpa[Rd]using b
 rw[f];rfl
abbrev N5:=Bool×Bool×Bt×Bt×Bt
def ud(g:za)(b:Nat)(n:N5):Prop:=Blk g b #[.bool n.1,.bool n.2.1,.string n.2.2.1,.string n.2.2.2.1,.string n.2.2.2.2]
structure St5 (h:za) (M:Fr) (g:za) (Mg:Fr) (n:N5):Prop where
 L:Later h M g Mg
 no:Mg h.size=Te
 B:ud g h.size n
theorem St5.call{M Mg b:Fr}{n:N5}(S:St5 h M g Mg n)(L:Later g Mg g' b):St5 h M g' b n:=⟨S.L.trans L,by rw[L.old h.size (Blk.lt S.B)];exact S.no,Blk.ofKeep S.B L.keep⟩
theorem St5.put{n b:N5}(S:St5 h M g Mg n)(f:∀j,j≠h.size->g'[j]?=g[j]?)(z:g'.size=g.size)(B:ud g' h.size b):St5 h M g' Mg b:= ⟨⟨⟨by have:=S.L.keep.size;omega,λj i=>(f j (by omega)).trans (S.L.keep.get j i)⟩,S.L.le,S.L.old,λc k e=>by obtain⟨T,m,l⟩:=S.L.ag c k e;grind [no]⟩,S.no,B⟩
theorem OD(n:N5)(b:Bool):Yg M [.pair .bool (.pair .bool (.pair .str (.pair .str .str))),.bool] (n,b) (.tuple #[.agg #[.bool n.1,.bool n.2.1,.string n.2.2.1,.string n.2.2.2.1,.string n.2.2.2.2],.bool b]):=by refine⟨[_,_],⟨_,_,rfl,?_,_,rfl,rdBool _⟩,rfl⟩;unfold RdV;simp only[fR,if_true];exact⟨[_,_,_,_,_],rfl,[_],[_,_,_,_],rfl,rfl,[_],[_,_,_],rfl,rfl,[_],[_,_],rfl,rfl,[_],[_],rfl,rfl,rfl⟩
set_option maxHeartbeats 1000000 in
theorem R4(gl:Fr)(s0:Bt)(R:((Bool×Bool×Bt×Bt×Bt)×Bool)->Prop) (H:PC Tp gl 267 [Arg.mk .str s0,Arg.mk .str (⟨#[45]⟩:Bt)] [.str,.bool] (λV:Bt×Bool=>PC Tp gl 268 [Arg.mk .str V.1,Arg.mk .str (⟨#[101,69]⟩:Bt)] [.str,.str,.bool] (λU:Bt×Bt×Bool=>∀ay:Bt->Bool->Bool->Bt->Bt->Bt->Prop,(∀t:Bt,∀D:Bool,∀C:Bool,∀an:Bt,∀ar:Bt,∀az:Bt,(PC Tp gl 268 [Arg.mk .str U.1,Arg.mk .str (⟨#[46]⟩:Bt)] [.str,.str,.bool] (λj:Bt×Bt×Bool=>PC Tp gl 215 [Arg.mk .str j.1] [.bool] (λJ:Bool=>∃ai:Bool->Prop,(((!(!J))&&j.2.2)=Ta->PC Tp gl 215 [Arg.mk .str j.2.1] [.bool] ai)/\∀Q:Bool,(((!(!J))&&j.2.2)=Ta->ai Q)->((bif (!J)then Ta else(bif j.2.2 then(!Q)else Tc))=Ta->R ((D,(C,(j.1,(j.2.1,t)))),Tc))/\((bif (!J)then Ta else(bif j.2.2 then(!Q)else Tc))=Tc->((!((j.1:Bt).toList==((⟨#[48]⟩:Bt):Bt).toList))=Ta->(0<=(0:Int)/\(0:Int)<((j.1).size:Int)))/\R ((D,(C,(j.1,(j.2.1,t)))),bif ((j.1:Bt).toList==((⟨#[48]⟩:Bt):Bt).toList)then Ta else((yu j.1 (0:Int).toNat:Int) != 48))))))->ay t D C an ar az)->(U.2.2=Ta->PC Tp gl 267 [Arg.mk .str U.2.1,Arg.mk .str (⟨#[45]⟩:Bt)] [.str,.bool] (λm:Bt×Bool=>∀T:Bt->Bool->Bool->Bt->Bt->Bt->Prop,(∀l:Bt,∀x:Bool,∀z:Bool,∀p:Bt,∀y:Bt,∀A:Bt,(PC Tp gl 215 [Arg.mk .str l] [.bool] (λac:Bool=>((!ac)=Ta->R ((x,(z,(p,(y,A)))),Tc))/\((!ac)=Tc->ay l x z p y A)))->T l x z p y A)->((!m.2)=Ta->PC Tp gl 269 [Arg.mk .str m.1,Arg.mk .str (⟨#[43]⟩:Bt)] [.str] (λaI:Bt=>T aI V.2 m.2 (⟨#[]⟩:Bt) (⟨#[]⟩:Bt) (⟨#[]⟩:Bt)))/\((!m.2)=Tc->T m.1 V.2 m.2 (⟨#[]⟩:Bt) (⟨#[]⟩:Bt) (⟨#[]⟩:Bt))))/\(U.2.2=Tc->ay U.2.1 V.2 Tc (⟨#[]⟩:Bt) (⟨#[]⟩:Bt) (⟨#[]⟩:Bt))))):
  PC Tp gl 217 [Arg.mk .str s0] [.pair .bool (.pair .bool (.pair .str (.pair .str .str))),.bool] R:=by
 intro h M vs hM ag ha
 match vs,ha with
 |[u],⟨hu,_⟩=>
 have hu:RdV M .str s0 u:=hu;rw[jw hu];apply PX.of;apply NR s0;intro h1;have k1:Keep h.size h h1:=Keep.push _ _ (Tm _);have b1:ud h1 h.size (Tc,Tc,⟨#[]⟩,⟨#[]⟩,⟨#[]⟩):=Blk.new _ _ _;have L1:Later h M h1 M:=Later.same ag k1;have bF:M h.size=Te:=by
  cases e:M h.size with
  |none=>rfl
  |some c=>have:=ag.lt e;omega
 clear_value h1;have s1:St5 h M h1 M (Tc,Tc,⟨#[]⟩,⟨#[]⟩,⟨#[]⟩):=⟨L1,bF,b1⟩;refine H.go (vs:=[.string s0,.string ⟨#[45]⟩]) hM L1.ag (zh (a:=Arg.mk .str s0) (rdStr _) (zh (a:=Arg.mk .str (⟨#[45]⟩:Bt)) (rdStr _) zy)) λw h3 M3 r1 L3 i H2=>?_;rw[AP i];refine⟨_,_,rfl,?_⟩;have S3:=s1.call L3;have fin:∀(g:za) (Mg:Fr) (n:N5) (b:Bool),St5 h M g Mg n->R (n,b)->XRunU Tp (Tt 221 (.pointer (Td ⟨TG h,0,Te⟩)) (.agg #[.bool n.1,.bool n.2.1,.string n.2.2.1,.string n.2.2.2.1,.string n.2.2.2.2])) g (λaj=>∃ah:Bool,∃ae:Bool,∃al:Bt,∃ak:Bt,∃af:Bt,zc aj ⟨TG h,0,Te⟩ 0 [.bool ah,.bool ae,.string al,.string ak,.string af]/\∃(M':Fr) (r:hG [.pair .bool (.pair .bool (.pair .str (.pair .str .str))),.bool]),Later h M aj M'/\Yg M' [.pair .bool (.pair .bool (.pair .str (.pair .str .str))),.bool] r (.tuple #[.agg #[.bool ah,.bool ae,.string al,.string ak,.string af],.bool b])/\R r):=λg Mg n b S hR=>
  X4 (o:=0) (vs:=[.bool n.1,.bool n.2.1,.string n.2.2.1,.string n.2.2.2.1,.string n.2.2.2.2]) (by kernel_rfl) S.B rfl (by kernel_rfl) (Tm _) (λu hu=>by simp at hu;rcases hu with rfl|rfl|rfl|rfl|rfl <;> rfl) λg' q1 q2 q3=>
   have S':St5 h M g' Mg n:=S.put q3 q2 (by rw[Gt (by rfl)]at q1;exact q1)
   ⟨_,_,_,_,_,Blk.ld (cs:=[.bool n.1,.bool n.2.1,.string n.2.2.1,.string n.2.2.2.1,.string n.2.2.2.2]) S'.B,Mg,(n,b),S'.L,OD n b,hR⟩
 rw[show Tl ⟨TG h,0,Te⟩ 0=⟨h.size,0,Te⟩from rfl];refine j6 (by kernel_rfl) (by kernel_rfl) S3.B (o:=0) (by simp) rfl λh6 B6 z6 f6=>?_;have S6:St5 h M h6 M3 (r1.2,Tc,⟨#[]⟩,⟨#[]⟩,⟨#[]⟩):=S3.put f6 z6 B6;refine H2.go (vs:=[.string r1.1,.string ⟨#[101,69]⟩]) (hM.trans L3.le) S6.L.ag (zh (a:=Arg.mk .str r1.1) (rdStr _) (zh (a:=Arg.mk .str (⟨#[101,69]⟩:Bt)) (rdStr _) zy)) λw h8 M8 r2 L8 i H3=>?_;rw[zY i];refine⟨_,_,_,rfl,?_⟩;have S8:=S6.call L8;intro bg aM;have aQ:Fr.le gl M8:=hM.trans S8.L.le;have N:∀{g:za} {Mg:Fr} {n:N5},St5 h M g Mg n->Fr.le gl Mg:=λS=>hM.trans S.L.le;have aS:∀{Mg:Fr} (s:Bt),RdV Mg .str s (.string s):=λs=>rdStr s;obtain⟨c1,c2⟩:=H3 (λf E G x2 Z x4=>∀g Mg,St5 h M g Mg (E,G,x2,Z,x4)->bg f g) λf E G x2 Z x4 P g Mg S=>aM f g (by rw[show Tl ⟨TG h,0,Te⟩ 4=⟨h.size,4,Te⟩from rfl];refine j6 (by kernel_rfl) (by kernel_rfl) S.B (o:=4) (by simp) rfl λaO bH bA aT=>?_;have am:St5 h M aO Mg (E,G,x2,Z,f):=S.put aT bA bH;refine P.go (vs:=[.string r2.1,.string ⟨#[46]⟩]) (N am) am.L.ag (zh (a:=Arg.mk .str r2.1) (rdStr _) (zh (a:=Arg.mk .str (⟨#[46]⟩:Bt)) (rdStr _) zy)) λw bQ aE k bi i P2=>?_;rw[zY i];refine⟨_,_,_,rfl,?_⟩;have aL:=am.call bi;rw[show Tl ⟨TG h,0,Te⟩ 2=⟨h.size,2,Te⟩from rfl,show Tl ⟨TG h,0,Te⟩ 3=⟨h.size,3,Te⟩from rfl];refine j6 (by kernel_rfl) (by kernel_rfl) aL.B (o:=2) (by simp) rfl λaZ aU br aN=>?_;have aC:St5 h M aZ aE (E,G,k.1,Z,f):=aL.put aN br aU;refine j6 (by kernel_rfl) (by kernel_rfl) aC.B (o:=3) (by simp) rfl λbG aP aV bB=>?_;have au:St5 h M bG aE (E,G,k.1,k.2.1,f):=aC.put bB aV aP;refine P2.go (vs:=[.string k.1]) (N au) au.L.ag (zh (a:=Arg.mk .str k.1) (rdStr _) zy) λw bJ a6 aB a8 i P3=>?_;obtain⟨bC,hJ,hE⟩:=P3;have Y:=au.call a8;refine⟨aB,Jk i,λv g'=>∃b,v=.bool b/\(∃ab,St5 h M g' ab (E,G,k.1,k.2.1,f))/\(((!(!aB))&&k.2.2)=Ta->bC b),λI=>(hJ I).go (vs:=[.string k.2.1]) (N Y) Y.L.ag (zh (a:=Arg.mk .str k.2.1) (rdStr _) zy) λw bM be b a7 i hb=>⟨b,Jk i,b,rfl,⟨be,Y.call a7⟩,λ_=>hb⟩,λI=>⟨Tc,Tc,rfl,⟨a6,Y⟩,λe=>by rw[I]at e;exact nomatch e⟩,λ_ v g' ⟨b,e,_⟩=>⟨b,e⟩,λb g' ⟨b',e,⟨ab,S'⟩,hb⟩=>?_⟩;injection e with e;subst e;obtain⟨e1,e2⟩:=hE b hb;refine⟨λI=>⟨_,_,_,_,_,Blk.ld (cs:=[.bool E,.bool G,.string k.1,.string k.2.1,.string f]) S'.B,fin g' ab (E,G,k.1,k.2.1,f) Tc S' (e1 I)⟩,λI=>?_⟩;obtain⟨e3,e4⟩:=e2 I;refine⟨_,_,_,_,_,Blk.ld (cs:=[.bool E,.bool G,.string k.1,.string k.2.1,.string f]) S'.B,?_⟩;intro bO bP bN bu;have F:=fin g' ab (E,G,k.1,k.2.1,f) _ S' e4;have bq:=XRunU.mono F λh' q=>(⟨e3,q⟩:bu h');repeat' first|exact rfl|exact e3|exact F|exact bq|refine⟨?_,?_⟩);refine⟨λhx=>?_,λhx=>c2 hx h8 M8 S8⟩;refine(c1 hx).go (vs:=[.string r2.2.1,.string ⟨#[45]⟩]) aQ S8.L.ag (zh (a:=Arg.mk .str r2.2.1) (rdStr _) (zh (a:=Arg.mk .str (⟨#[45]⟩:Bt)) (rdStr _) zy)) λw bL aG aa bI i H4=>?_;rw[AP i];refine⟨_,_,rfl,?_⟩;have aD:=S8.call bI;rw[show Tl ⟨TG h,0,Te⟩ 1=⟨h.size,1,Te⟩from rfl];refine j6 (by kernel_rfl) (by kernel_rfl) aD.B (o:=1) (by simp) rfl λaJ bz bE ba=>?_;have O:St5 h M aJ aG (r1.2,aa.2,⟨#[]⟩,⟨#[]⟩,⟨#[]⟩):=aD.put ba bE bz;intro aY aH;obtain⟨d1,d2⟩:=H4 (λf E G x2 Z x4=>∀g Mg,St5 h M g Mg (E,G,x2,Z,x4)->aY f g) λf E G x2 Z x4 P g Mg S=>aH f g (P.go (vs:=[.string f]) (N S) S.L.ag (zh (a:=Arg.mk .str f) (rdStr _) zy) λw aF aA bD ax i he=>⟨bD,Jk i,λI=>⟨_,_,_,_,_,Blk.ld (cs:=[.bool E,.bool G,.string x2,.string Z,.string x4]) (S.call ax).B,fin aF aA (E,G,x2,Z,x4) Tc (S.call ax) (he.1 I)⟩,λI=>he.2 I aF aA (S.call ax)⟩);refine⟨aa.2,Blk.cell O.B (o:=1) rfl,λI=>(d1 I).go (vs:=[.string aa.1,.string ⟨#[43]⟩]) (N O) O.L.ag (zh (a:=Arg.mk .str aa.1) (rdStr _) (zh (a:=Arg.mk .str (⟨#[43]⟩:Bt)) (rdStr _) zy)) λw bm bj bn bw i hk=>⟨bn,lF i,hk bm bj (O.call bw)⟩,λI=>d2 I aJ aG O⟩
end
end Go.X
end
section
namespace Go.X
open Go Go.Lib
section
variable {l:Bs} {k:Nat}
theorem zX(c:UInt8):∀l:Bs,-1<=indexByte l c/\(0<=indexByte l c↔c∈l)
 |[]=>by simp[indexByte]
 |b::l=>by have i:=zX c l;unfold indexByte;by_cases h:b=c;simp[h];have h':¬c=b:=λe=>h e.symm;simp only[beq_iff_eq,h,if_false,Tz,h',false_or];obtain⟨j,f⟩:=i;split;rename_i e;rw[e]at f;exact⟨by omega,by rw[<-f]⟩;rename_i e;refine⟨by omega,?_⟩;rw[<-f];omega
theorem Y8(u:Nat):(decDigits u).length<=u+1:=by rw[decDigits];split;simp;rename_i h;have:=Y8 (u / 10);simp;omega
theorem itoa_len(n:Int):(itoa n).length<=n.natAbs+2:=by unfold itoa;split;have:=Y8 n.natAbs;simp;omega;have:=Y8 n.toNat;omega
theorem EW(l:Bs)(c:UInt8):hasPrefix l [c]=(l.head?==Td c):=by
 cases l with
 |nil=>rfl
 |cons b t=>simp[hasPrefix,List.isPrefixOf];rw[T8];simp;exact eq_comm
theorem X5(l:Bs)(c:UInt8):trimPrefix l [c]=if l.head?==Td c then l.tail else l:=by unfold trimPrefix;rw[EW];split <;> simp
theorem Ox(l:Bs)(c:UInt8):zr (l++[c])=10*zr l+(c.toNat-48):=by simp[zr,List.foldl_append]
theorem Ey(b:k<l.length):zr (l.take (k+1))=10*zr (l.take k)+(l[k].toNat-48):=by rw[Tu b,Ox]
theorem CX{p:UInt8->Bool}(h:l.all p=Ta)(k:Nat):(l.take k).all p=Ta:=by rw[T7]at h ⊢;exact λx b=>h x (VJ b)
theorem AD(h:l.all wn=Ta)(b:k<l.length):48<=l[k].toNat/\l[k].toNat<=57:=by have:=T7.1 h _ (TA b);simpa[wn]using this
theorem Fb:∀(n:Nat) (l:Bs),l.length=n->l.all wn=Ta->zr l<10 ^ n
 |0,l,h,_=>by have:l=[]:=TT h;subst this;simp[zr]
 |n+1,l,h,hd=>by
  have b:l=l.take (n+1):=by rw[<-h,TN]
  rw[b,Ey (by omega)];have h1:=Fb n (l.take n) (by simp;omega) (CX hd n);have c:=AD hd (k:=n) (by omega);rw[Nat.pow_succ];omega
theorem vw{n:Nat}(b:l.length<=n)(h:l.all wn=Ta):zr l<10 ^ n:= U5 (Fb _ l rfl h) (Nat.pow_le_pow_right (by omega) b)
theorem tG(h:Xg l=Ta):l.all wn=Ta:=by unfold Xg at h;exact(Bool.and_eq_true_iff.1 h).1
theorem Y9{p q:UInt8->Bool}(h:l.all p=Ta):(l.dropWhile q).all p=Ta:=by rw[T7]at h ⊢;exact λx b=>h x ((List.dropWhile_sublist q).mem b)
theorem wo(l:Bs)(q:UInt8->Bool):(l.dropWhile q).length<=l.length:=(List.dropWhile_sublist q).length_le
theorem X6{q:UInt8->Bool}:∀c,(l.dropWhile q).head?=Td c->q c=Tc:=by
 induction l with
 |nil=>simp
 |cons b t e=>intro c h;rw[List.dropWhile_cons]at h;split at h;exact e c h;rename_i f;simp at h;subst h;exact Bool.eq_false_iff.2 f
theorem EU(h:l.all wn=Ta)(i:l.dropWhile (· == 48)≠[]):Xg (yq l)=Ta/\(yq l).length<=(l.dropWhile (· == 48)).length/\((yq l).head? != Td 48)=Ta/\((yq l).getLast? != Td 48)=Ta:=by
 unfold yq;obtain⟨c,t,f⟩:=Vb i;have j:(c==48)=Tc:=by have:=X6 (l:=l) (q:=(· == 48)) c (by rw[f];rfl);simpa using this
 have key:∀(t:Bs),∃u,((c::t).reverse.dropWhile (· == 48)).reverse=c::u:=by
  intro t;rw[List.reverse_cons];have k:∀(r:Bs),∃u,(r++[c]).dropWhile (· == 48)=u++[c]:=by
   intro r;induction r with
   |nil=>exact⟨[],by simp[j]⟩
   |cons b r m=>rw[Um,List.dropWhile_cons];split;exact m;exact⟨b::r,rfl⟩
  obtain⟨u,e⟩:=k t.reverse;exact⟨u.reverse,by rw[e];simp⟩
 rw[f];obtain⟨u,e⟩:=key t;refine⟨?_,?_,?_,?_⟩;rw[Xg,Bool.and_eq_true_iff];refine⟨?_,by rw[e];rfl⟩;rw[List.all_reverse];apply Y9;rw[List.all_reverse,<-f];exact Y9 h;rw[List.length_reverse];refine Ux (wo _ _) ?_;simp;rw[e];simp;simpa using j;rw[List.getLast?_reverse];cases hh:((c::t).reverse.dropWhile (· == 48)).head? with
 |none=>rfl
 |some x=>have:=X6 (l:=(c::t).reverse) (q:=(· == 48)) x hh;simpa using this
theorem Rn(h:l.all wn=Ta)(b:l.dropWhile (· == 48)≠[])(k:l.length<=1000)(neg:Bool)(e:Int):yy (neg,yq l,e)=(decide (-1000000<=e)&&decide (e<=1000000)):=by
 obtain⟨h1,j,i,f⟩:=EU h b;have m:=wo l (· == 48);have c:(yq l).isEmpty=Tc:=by rw[Xg]at h1;have:=(Bool.and_eq_true_iff.1 h1).2;simpa using this
 unfold yy mC;simp only[h1,i,f,c,Bool.and_false,Bool.false_and,Bool.false_or,UQ];have:decide ((yq l).length<=1000)=Ta:=by simp;omega
 rw[this];simp
theorem QK{s:Bs}{x:Lit}(h:lT s=Td x):Xg x.whole=Ta/\x.rest.all wn=Ta/\x.exp.all wn=Ta:=by
 obtain⟨b,rfl⟩:=BN h;unfold lI at b;simp only[TC]at b;obtain⟨⟨⟨h1,e⟩,c⟩,f⟩:=b;refine⟨e,?_,?_⟩;show(Z8 s).2.1.all wn=Ta;cases hp:(Z8 s).2.2 with
 |true=>rw[hp]at c;exact tG (by simpa using c)
 |false=>rw[show(Z8 s).2.1=[]from(yL hp).2];rfl
 show(if(Xh s).2.2 then jC s else []).all wn=Ta;cases hm:(Xh s).2.2 with
 |true=>rw[hm]at h1;simpa using tG (by simpa using h1)
 |false=>rfl
theorem vG(p:UInt8->Bool)(l:Bs):(cutAt p l).1.length+(cutAt p l).2.1.length<=l.length:=by
 induction l with
 |nil=>simp[cutAt]
 |cons c t b=>unfold cutAt;split <;> simp <;> omega
theorem Dk{s:Bs}{x:Lit}(h:lT s=Td x):x.whole.length+x.rest.length+x.exp.length<=s.length:=by
 obtain⟨b,rfl⟩:=BN h;have h1:(lQ s).length<=s.length:=by unfold lQ;split <;> simp
 have e:=vG p7 (lQ s);have i:=vG rV (Xh s).1;have c:(jC s).length<=(Xh s).2.1.length:=by unfold jC;split;simp;split <;> simp
 have f:(if(Xh s).2.2 then jC s else []).length<=(Xh s).2.1.length:=by split;exact c;simp
 show(Z8 s).1.length+(Z8 s).2.1.length+(if(Xh s).2.2 then jC s else []).length<=s.length;unfold Z8;unfold Xh at *;omega
end
end Go.X
end
section
namespace Go.X
section
variable {gl:Fr} {l:Bs}
theorem R8(c:UInt8):(((c.toNat:Int)).toNat).toUInt8=c:=by simp
theorem Dm{l sep:Bs}{p:UInt8->Bool}(t:∀c,p c=Ta↔c∈sep)(w:l.length<=4611686018427387904){R:Bt×Bt×Bool->Prop}(h:R (bl (cutAt p l).1,bl (cutAt p l).2.1,(cutAt p l).2.2)):
  PC Tp gl 268 [Arg.mk .str (bl l),Arg.mk .str (bl sep)] [.str,.str,.bool] R:=by
 apply NP;simp only[zt,Yl,Gv];refine⟨λi=>∃k:Nat,i=k/\k<=l.length/\∀j (f:j<l.length),j<k->p l[j]=Tc,λi=>l.length-i.toNat,⟨0,rfl,by omega,λj _ h=>by omega⟩,?_⟩;rintro i ⟨k,rfl,y,m⟩;refine⟨λr=>?_,λr=>?_⟩;have b:k<l.length:=by simpa using r
 simp only[Tq,G7 b];refine⟨by omega,Na ?_⟩;rw[R8,j4];have u:=(zX l[k] sep).2;rw[yr b w];refine⟨λq=>⟨by omega,by omega,?_⟩,λq=>⟨⟨k+1,rfl,by omega,λj f x=>?_⟩,by simp;omega⟩⟩;have n:p l[k]=Ta:=(t _).2 (u.1 (by simpa using q));rw[GI b (λj f=>m j (by omega) f) n]at h;simp only[Tq,Int.toNat_zero,Vp,Nat.sub_zero];rw[UK (l:=l.drop (k+1)) (by simp)];exact h;by_cases e:j=k;subst e;cases hpj:p l[j]with
 |false=>rfl
 |true=>exact absurd (u.2 ((t _).1 hpj)) (by simpa using q)
 exact m j f (by omega);have b:¬k<l.length:=by simpa using r
 rw[Ar (λc o=>by obtain⟨j,f,rfl⟩:=List.getElem_of_mem o;exact m j f (by omega))]at h;exact h
theorem Ek{c:UInt8}{R:Bt×Bool->Prop}(h:R (bl (if l.head?==Td c then l.tail else l),l.head?==Td c)):PC Tp gl 267 [Arg.mk .str (bl l),Arg.mk .str (bl [c])] [.str,.bool] R:=by refine JN ?_;rw[j4,j4,X5,EW];exact h
theorem OO{c:UInt8}{R:Bt->Prop}(h:R (bl (if l.head?==Td c then l.tail else l))):PC Tp gl 269 [Arg.mk .str (bl l),Arg.mk .str (bl [c])] [.str] R:=by refine Oc ?_;rw[j4,j4,X5];exact h
theorem xW{R:Bt->Prop}(h:R (bl (l.dropWhile (· == 48)))):PC Tp gl 218 [Arg.mk .str (bl l),Arg.mk .str (bl [48])] [.str] R:=by refine OC (c:=48) (by decide) ?_;rw[j4];exact h
theorem JC(b:l.length<=4611686018427387904){R:Bt->Prop}(h:R (bl (l.reverse.dropWhile (· == 48)).reverse)):PC Tp gl 219 [Arg.mk .str (bl l),Arg.mk .str (bl [48])] [.str] R:=by refine JQ (c:=48) (by decide) (by rw[zt];omega) ?_;rw[j4];exact h
theorem OJ{s:Bs}(Q:s.length<=4611686018427387904){R:(Bool×Bool×Bt×Bt×Bt)×Bool->Prop} (h1:lI s=Ta->R (((kM s).neg,(kM s).low,bl (kM s).whole,bl (kM s).rest,bl (kM s).exp),Ta)) (C:lI s=Tc->∀a b c d e,R ((a,b,bl c,bl d,bl e),Tc)):
  PC Tp gl 217 [Arg.mk .str (bl s)] [.pair .bool (.pair .bool (.pair .str (.pair .str .str))),.bool] R:=by
 apply R4;refine Ek (c:=45) ?_;dsimp only;have S:(lQ s).length<=s.length:=by unfold lQ;split <;> simp
 have H:=vG p7 (lQ s);refine Dm (l:=lQ s) (sep:=[101,69]) (p:=p7) (λc=>by simp[p7]) (by omega) ?_;dsimp only;have L:(Xh s).1.length+(Xh s).2.1.length<=(lQ s).length:=H;have r:∀(e:Bs) (low:Bool),((Xh s).2.2=Ta->Xg (jC s)=Ta/\low=mz s/\e=jC s)->((Xh s).2.2=Tc->low=Tc/\e=[]) ->
   PC Tp gl 268 [Arg.mk .str (bl (Xh s).1),Arg.mk .str (bl [46])] [.str,.str,.bool] (λf:Bt×Bt×Bool=>PC Tp gl 215 [Arg.mk .str f.1] [.bool] (λm:Bool=>∃u:Bool->Prop,(((!(!m))&&f.2.2)=Ta->PC Tp gl 215 [Arg.mk .str f.2.1] [.bool] u) /\ ∀o:Bool,(((!(!m))&&f.2.2)=Ta->u o)->((bif (!m)then Ta else(bif f.2.2 then(!o)else Tc))=Ta->R ((s.head?==Td 45,(low,(f.1,(f.2.1,bl e)))),Tc)) /\ ((bif (!m)then Ta else(bif f.2.2 then(!o)else Tc))=Tc->((!((f.1:Bt).toList==((⟨#[48]⟩:Bt):Bt).toList))=Ta->(0<=(0:Int)/\(0:Int)<((f.1).size:Int))) /\ R ((s.head?==Td 45,(low,(f.1,(f.2.1,bl e)))),bif ((f.1:Bt).toList==((⟨#[48]⟩:Bt):Bt).toList)then Ta else((yu f.1 (0:Int).toNat:Int) != 48))))):=by
  intro e low O k2;have w:(!(Xh s).2.2||Xg (jC s))=Ta/\mz s=low/\(if(Xh s).2.2 then jC s else [])=e:=by
   cases A:(Xh s).2.2 with
   |true=>obtain⟨a,b,c⟩:=O A;exact⟨by simp[a],b.symm,by simp[c]⟩
   |false=>obtain⟨a,b⟩:=k2 A;exact⟨rfl,by unfold mz;rw[A,a];rfl,by simp[b]⟩
  refine Dm (l:=(Xh s).1) (sep:=[46]) (p:=rV) (λc=>by simp[rV]) (by omega) ?_;refine tX ⟨λx=>Xg (Z8 s).2.1=x,λ_=>tX rfl,λy G=>?_⟩;dsimp only;simp only[show(⟨#[48]⟩:Bt)=bl [48]from rfl,l6,zt,Yl];change (_->Xg (Z8 s).2.1=y)at G;show((bif (!Xg (Z8 s).1)then Ta else(bif (Z8 s).2.2 then(!y)else Tc))=Ta->R ((s.head?==Td 45,(low,(bl (Z8 s).1,(bl (Z8 s).2.1,bl e)))),Tc)) /\ ((bif (!Xg (Z8 s).1)then Ta else(bif (Z8 s).2.2 then(!y)else Tc))=Tc->((!decide ((Z8 s).1=[48]))=Ta->(0<=(0:Int)/\(0:Int)<((Z8 s).1.length:Int))) /\ R ((s.head?==Td 45,(low,(bl (Z8 s).1,(bl (Z8 s).2.1,bl e)))),bif decide ((Z8 s).1=[48])then Ta else(((((Z8 s).1[(0:Int).toNat]?).getD 0).toNat:Int) != 48)));have B:Xg (Z8 s).1=Ta->(Z8 s).2.2=Ta->Xg (Z8 s).2.1=y:=λa b=>G (by show((!(!Xg (Z8 s).1))&&(Z8 s).2.2)=Ta;rw[a,b];rfl);refine⟨λi=>C ?_ _ _ _ _ _,λi=>⟨λ_=>?_,?_⟩⟩;unfold lI;cases q:Xg (Z8 s).1 with
  |false=>simp
  |true=>
   rw[q]at i;cases hw:(Z8 s).2.2 with
   |false=>rw[hw]at i;simp at i
   |true=>rw[hw]at i;have:=B q hw;rw[this];simp at i;simp[i]
  all_goals
   have q:Xg (Z8 s).1=Ta:=by
    cases q:Xg (Z8 s).1 with
    |true=>rfl
    |false=>rw[q]at i;simp at i
   have P:=CE q
  omega;have M:(!(Z8 s).2.2||Xg (Z8 s).2.1)=Ta:=by
   cases hw:(Z8 s).2.2 with
   |false=>rfl
   |true=>rw[q,hw]at i;have:=B q hw;rw[this];simpa using i
  have J:(bif decide ((Z8 s).1=[48])then Ta else(((((Z8 s).1[(0:Int).toNat]?).getD 0).toNat:Int) != 48))=((Z8 s).1==[48]||(Z8 s).1.head? != Td 48):=by rw[show(0:Int).toNat=0 from rfl,Ak P,Bool.cond_true_left,T8];simp
  have t:lI s=((Z8 s).1==[48]||(Z8 s).1.head? != Td 48):=by unfold lI;rw[w.1,q,M];simp
  rw[J];cases ho:((Z8 s).1==[48]||(Z8 s).1.head? != Td 48)with
  |true=>have:=h1 (t.trans ho);unfold kM at this;rw[w.2.1,w.2.2]at this;exact this
  |false=>exact C (t.trans ho) _ _ _ _ _
 intro K F;refine⟨λA=>?_,λA=>?_⟩;have n:(Xh s).2.2=Ta:=A;refine Ek (c:=45) (l:=(Xh s).2.1) ?_;dsimp only;intro I E;have step:∀low e,low=mz s->e=jC s->I (bl e) (s.head?==Td 45) low (bl []) (bl []) (bl []):=by
  intro low e D z;refine E _ _ _ _ _ _ (tX ⟨λi=>?_,λi=>?_⟩);refine C ?_ _ _ [] [] [];unfold lI;rw[n,<-z];have:Xg e=Tc:=by simpa using i
  rw[this];rfl;refine F _ _ _ _ _ _ (r e low (λ_=>⟨by rw[<-z];simpa using i,D,z⟩) λh=>by rw[n]at h;cases h)
 have k:mz s=((Xh s).2.1.head?==Td 45):=by unfold mz;rw[n];rfl
 refine⟨λi=>?_,λi=>?_⟩;have j:((Xh s).2.1.head?==Td 45)=Tc:=by simpa using i
 rw[j];refine OO (c:=43) ?_;simp only[Uz,if_false];refine step Tc _ (by rw[k,j]) ?_;unfold jC;rw[k,j];simp;have j:((Xh s).2.1.head?==Td 45)=Ta:=by simpa using i
 rw[j];simp only[if_true];refine step Ta _ (by rw[k,j]) ?_;unfold jC;rw[k,j];simp;have n:(Xh s).2.2=Tc:=A;have N:(Xh s).2.1=[]:=(yL n).2;have:=r [] Tc (λh=>by rw[n]at h;cases h) λ_=>⟨rfl,rfl⟩;show K (bl (Xh s).2.1) _ _ _ _ _;rw[N];exact F _ _ _ _ _ _ this
theorem G0{α β γ δ:Type}{B:α->β->γ->δ->Prop}{c:Bool}{a b:α}{x:β}{y:γ}{z:δ}(h:∀e,e=(bif c then a else b)->B e x y z):∀K:α->β->γ->δ->Prop,(∀e x y z,B e x y z->K e x y z)->(c=Ta->K a x y z)/\(c=Tc->K b x y z):= λK i=>⟨λf=>i _ _ _ _ (h _ (by subst f;rfl)),λf=>i _ _ _ _ (h _ (by subst f;rfl))⟩
theorem hX{n:Int}(h:-4611686018427387904<=n/\n<=4611686018427387904):Tj .i64 n=n:=wrap64 (by omega) (by omega)
set_option maxHeartbeats 1000000 in
theorem Gl{s:Bs}(T:s.length<=1152921504606846976){R:(Bool×Bt×Int)×Int->Prop}(h:R (nj (ql s).1,(ql s).2)):PC Tp gl 160 [Arg.mk .str (bl s)] [tN,.int .i64] R:=by
 apply Hj;refine OJ (by omega) (λq=>?_) (λq a b c d e=>?_);rotate_left;refine xW ⟨λ_=>?_,λk=>by cases k⟩;have:lT s=Te:=by unfold lT;simp[q]
 unfold ql at h;rw[this]at h;exact h;have f:lT s=Td (kM s):=by unfold lT;simp[q]
 have I:=Dk f;obtain⟨d1,d2,d3⟩:=QK f;unfold ql at h;rw[f]at h;simp only at h;generalize kM s=x at *;refine xW ⟨λk=>(by cases k),λ_=>?_⟩;simp only[zt];rw[hX (by omega)];refine⟨λk=>?_,λk=>?_⟩;rw[zA (by simp at k;omega)]at h;exact h;rw[zv (by simp at k;omega)]at h;refine⟨λj=>?_,λj=>?_⟩;rw[zA (by simp at j;omega)]at h;exact h;rw[zv (by simp at j;omega)]at h;have z:x.whole.length+x.rest.length<=1000:=by simp at k;omega
 have O:x.exp.all wn=Ta:=d3;generalize M:x.exp.dropWhile (· == 48)=E at *;have t:E.all wn=Ta:=by rw[<-M];exact Y9 d3
 have C:E.length<=9:=by simp at j;omega
 have N:zr E<10 ^ 9:=vw C t;refine⟨λe _ _ _ p=>p.1=bl E/\p.2<=E.length/\e=(zr (E.take p.2):Int),λ_ _ _ _ p=>E.length-p.2,⟨rfl,by omega,by simp[zr]⟩,?_⟩;rintro e b1 b2 b3 ⟨_,p⟩ ⟨rfl,L,rfl⟩;simp only at L ⊢;rw[yG,s8];refine⟨λy=>⟨y,?_⟩,λy=>?_⟩;have i:p<E.length:=by simpa using y
 have S:=AD t i;have G:E.drop p=E[p]::E.drop (p+1):=Uk i;rw[qT E p i,G,sZ (by omega)];have P:=vw (n:=9) (l:=E.take p) (by simp;omega) (CX t p);rw[Ly (by omega) (by omega),hX (n:=10*_) (by omega),hX (n:=(_:Int)-48) (by omega),hX (by omega)];simp only;refine⟨⟨trivial,by omega,?_⟩,by omega⟩;rw[Ey i];omega;have i:¬p<E.length:=by simpa using y
 have A:p=E.length:=by omega
 subst A;rw[TN];apply G0;intro u B;refine⟨by unfold yz;omega,?_⟩;rw[jd];refine xW ?_;rw[show(⟨#[]⟩:Bt)=bl []from rfl];simp only[l6];have H:(x.whole++x.rest).all wn=Ta:=by rw[VV,tG d1,d2];rfl
 refine⟨λr=>?_,λr=>?_⟩;rw[zA (by simpa using r)]at h;exact h;have m:(x.whole++x.rest).dropWhile (· == 48)≠[]:=by simpa using r
 rw[zv m]at h;have F:=wo (x.whole++x.rest) (· == 48);rw[Ts]at F;refine JC (by omega) ?_;have J:=(EU H m).2.1;have D:=Rn H m (by rw[Ts];exact z);simp only[zt,show((List.dropWhile (λx=>x==48) (x.whole++x.rest)).reverse.dropWhile (λx=>x==48)).reverse=yq (x.whole++x.rest)from rfl];have w:u=if x.low then-(zr E:Int)else(zr E:Int):=by rw[B];cases x.low <;> simp;exact hX (by omega)
 have Q:-1000000000<=u/\u<=1000000000:=by rw[w];split <;> omega
 rw[hX (n:=u-_) (by omega),hX (n:=u-_+_) (by omega),hX (by omega)];refine y4 (n:=(x.neg,yq (x.whole++x.rest),u-(x.rest.length:Int)+(((x.whole++x.rest).dropWhile (· == 48)).length:Int)-((yq (x.whole++x.rest)).length:Int))) (by simp only;omega) ?_;rw[D];change R (nj (if -1000000<=(if x.low=Ta then-(zr E:Int)else(zr E:Int))-(x.rest.length:Int)+(((x.whole++x.rest).dropWhile (· == 48)).length:Int)-((yq (x.whole++x.rest)).length:Int)/\(if x.low=Ta then-(zr E:Int)else(zr E:Int))-(x.rest.length:Int)+(((x.whole++x.rest).dropWhile (· == 48)).length:Int)-((yq (x.whole++x.rest)).length:Int)<=1000000 then((x.neg,yq (x.whole++x.rest),(if x.low=Ta then-(zr E:Int)else(zr E:Int))-(x.rest.length:Int)+(((x.whole++x.rest).dropWhile (· == 48)).length:Int)-((yq (x.whole++x.rest)).length:Int)),0)else((Tc,[],0),4)).1,_)at h;rw[<-w]at h;refine⟨λo=>?_,λo=>?_⟩;rw[zv (by simp at o;omega)]at h;exact h;rw[zA (by simp at o;omega)]at h;exact h
end
section
variable {gl:Fr}
theorem nn{a b:Bs}(h:a.length+b.length<=4611686018427387904):yz ((bl a).size+(bl b).size):=by unfold yz;rw[zt,zt];omega
theorem D7(m:pW gl){n:Nm}(q:n.2.1.length<=4611686018427387904){R:Bt->Prop}(h:R (bl (Jm n))):PC Tp gl 92 [Arg.mk tN (nj n)] [.str] R:=by
 apply KZ;refine y4 q ⟨λf=>?_,λf=>?_⟩;have:yy n=Tc:=by simpa using f
 have e:Jm n=[]:=by unfold Jm;simp[this]
 rw[e]at h;exact h;have i:yy n=Ta:=by simpa using f
 obtain⟨u,o,k⟩:=Eb i;unfold Jm at h;rw[zA i]at h;simp only[show(⟨#[]⟩:Bt)=bl []from rfl,l6];refine⟨λc=>?_,λc=>?_⟩;rw[zA (by simpa using c)]at h;exact h;rw[zv (by simpa using c)]at h;intro K r;have key:∀t:Bs,t=(if n.1 then [45]else [])++n.2.1->K (bl t):=by
  intro t j;have p:t.length<=1001:=by rw[j];split <;> simp <;> omega
  rw[<-j]at h;refine r _ ⟨λb=>?_,λb=>?_⟩;rw[zv (by simpa using b)]at h;have l:=Go.X.itoa_len n.2.2;refine uR m (by omega) (by omega) ?_;refine⟨nn (a:=[101]) (by simp;omega),?_⟩;rw[show(⟨#[101]⟩:Bt)=bl [101]from rfl,jd,jd];exact⟨nn (by simp;omega),h⟩;rw[zA (by simpa using b),Uq]at h;exact h
 refine⟨λb=>⟨nn (a:=[45]) (by simp;omega),?_⟩,λb=>?_⟩;rw[show(⟨#[45]⟩:Bt)=bl [45]from rfl,jd];exact key _ (by rw[zA (by simpa using b)]);exact key _ (by rw[zv (by simpa using b)];rfl)
theorem ND(i:pW gl){n:Int}(h1:-9223372036854775808<=n)(f:n<=9223372036854775807){R:Bool×Bt×Int->Prop}(h:R (nj (ql (Lib.itoa n)).1)):PC Tp gl 93 [Arg.mk (.int .i64) n] [tN] R:=by
 apply HT;refine uR i h1 f (Gl ?_ h);have:=Go.X.itoa_len n;have b:∀u:Nat,u<10 ^ 20->(Lib.decDigits u).length<=20:=by
  have:∀(k u:Nat),u<10 ^ (k+1)->(Lib.decDigits u).length<=k+1:=by
   intro k;induction k with
   |zero=>intro u c;rw[Lib.decDigits,dif_pos (by simpa using c)];simp
   |succ k e=>intro u c;rw[Lib.decDigits];split;simp;have:=e (u / 10) (by rw[Nat.pow_succ]at c;omega);simp;omega
  exact this 19
 have:(Lib.itoa n).length<=21:=by unfold Lib.itoa;split;have:=b n.natAbs (by omega);simp;omega;have:=b n.toNat (by omega);omega
 omega
end
end Go.X
end
section
namespace Go.X
open Go Go.Proofs Go.Shelf Go.RowKit
section
def K8:Go.Shelf.Ren:=⟨fun|196=>246|259=>297|n=>n,fun|9=>9|4=>4|3=>3|5=>5|12=>12|119=>305|0=>0|46=>123|139=>308|138=>307|53=>178|n=>n,fun|3=>0|4=>1|n=>n⟩
theorem JV:Go.Proofs.Lays.n196 Tp K8:=by constructor <;> intros <;> kernel_rfl
open Go.RowKit Go.Lib in
theorem HO(s:Bt)(w:World)(b:s.size<=9223372036854775807)(c:Lib.Utf8Tabs 0 1 w): Calls Tp 246 #[.string s] w λe w'=>e=.returned (.bool (Lib.validD s.data.toList))/\Below w.heap.size w w':=Any.utf8_ValidString JV s w b c
end
end Go.X
end
section
namespace Go.X
section
variable {l:Bs}
theorem OX{n:Int}{k:Nat}(b:n=(k:Int)):(bl l).extract n.toNat ((l.length:Int)).toNat=bl (l.drop k):=by subst b;rw[Tq,Tq,Gv,UK (by simp)]
theorem E3(l:Bs):Lib.validD l=Jl l:=by
 by_cases h:l=[];subst h;rw[FB];rfl;rw[Lib.validD_step l h,Wk h,Lib.decodeL_N,E3 (l.drop _)];have e:jL (dec l)=decide ((dec l).1=65533/\(dec l).2=1):=by unfold jL;rw[Bool.decide_and];rfl
 rw[e];by_cases c:(dec l).1=65533/\(dec l).2=1;rw[zJ c];exact zA c;rw[decide_eq_false c];exact zv c
termination_by l.length
decreasing_by
 have h1:=Yk l;have h2:0<l.length:=UH.2 h;unfold dec at h1;simp only[UJ];omega
theorem MQ{gl:Fr}(c:Tabs gl)(e:l.length<=4611686018427387904){R:Bool->Prop}(h:R (Jl l)):PC Tp gl 246 [Arg.mk .str (bl l)] [.bool] R:= PC.of_scal rfl (λ_=>Of _) (by rw[<-E3]at h;exact h) λw b=>HO (bl l) w (by rw[zt];omega) (c.at b)
end
end Go.X
end
section
namespace Go.X
open Go Go.Lib
section
theorem SC(l:Bs)(a:Nat):l.foldl (λn c=>10*n+(c.toNat-48)) a=a*10 ^ l.length+zr l:=by
 induction l generalizing a with
 |nil=>simp[zr]
 |cons c t b=>
  simp only[List.foldl_cons,TI,zr];rw[b,b (10*0+(c.toNat-48)),Nat.pow_succ];have:(10*a+(c.toNat-48))*10 ^ t.length=a*(10 ^ t.length*10)+(c.toNat-48)*10 ^ t.length:=by rw[UX,VA 10 a,Nat.mul_assoc,VA 10 (10 ^ t.length)]
  rw[this];simp;omega
theorem FZ(a b:Bs):zr (a++b)=zr a*10 ^ b.length+zr b:=by rw[zr,List.foldl_append,SC];rfl
theorem I4(n:Nat):zr (UL n 48)=0:=by
 induction n with
 |zero=>rfl
 |succ n b=>rw[List.replicate_succ];exact b
theorem EY:∀(l:Bs) (b:Nat),l.all wn=Ta->b*10 ^ l.length+zr l<10 ^ 19->parseUintM (2 ^ 64-1) b l=.ok (b*10 ^ l.length+zr l)
 |[],b,_,_=>by simp[parseUintM,zr]
 |c::t,b,hd,hl=>by
  rw[V3,TC]at hd
  have i:48<=c.toNat/\c.toNat<=57:=by simpa[wn]using hd.1
  have e:zr (c::t)=(c.toNat-48)*10 ^ t.length+zr t:=by
   have:=FZ [c] t
   rw[List.singleton_append]at this
   rw[this];simp[zr]
  have f:(b*10+(c.toNat-48))*10 ^ t.length+zr t=b*10 ^ (c::t).length+zr (c::t):=by
   rw[e,TI,Nat.pow_succ,UX,Nat.mul_assoc,VA 10 (10 ^ t.length)];omega
  have h:1<=10 ^ t.length:=Nat.one_le_pow _ _ (by decide)
  have j:b*10+(c.toNat-48)<=b*10 ^ (c::t).length+zr (c::t):=by
   rw[<-f]
   calc b*10+(c.toNat-48)=(b*10+(c.toNat-48))*1:=by omega
    _<=(b*10+(c.toNat-48))*10 ^ t.length:=Nat.mul_le_mul_left _ h
    _<=_:=by omega
  rw[parseUintM,zA i,zv (by omega),zv (by omega),EY t _ hd.2 (by rw[f];exact hl),f]
def Ym(n:Nm):Bs:=n.2.1++UL n.2.2.toNat 48
theorem QA(n:Nm):zr (Ym n)=zr n.2.1*10 ^ n.2.2.toNat:=by rw[Ym,FZ,I4,Vg,VM]
theorem I8{n:Nm}(h:yy n=Ta):n.2.1.all wn=Ta:=by unfold yy mC at h;rcases VC _ _ ▸ h with h|h;simp at h;rw[h.2.1];rfl;simp only[TC]at h;exact tG h.1.1.1.1.1
theorem KU{n:Nm}(h:yy n=Ta):(Ym n).all wn=Ta:=by rw[Ym,VV,I8 h,UQ,T7];intro x b;rw[List.mem_replicate]at b;rw[b.2];rfl
theorem Hx{l:Bs}(neg:Bool)(e:l.all wn=Ta)(j:l.length<=19)(b:l≠[]):
  parseIntB 64 ((if neg then [45]else [])++l)=if neg then(if zr l<=9223372036854775808 then .ok (-(zr l:Int))else .range)else(if zr l<=9223372036854775807 then .ok (zr l:Int)else .range):=by
 have k:zr l<10 ^ 19:=vw j e;have f:=EY l 0 e (by rw[Nat.zero_mul];omega);rw[Nat.zero_mul,TJ]at f;cases neg with
 |true=>simp only[if_true,List.singleton_append];unfold parseIntB;simp only[show(45:UInt8).toNat=45 from rfl,or_true,if_true];unfold parseUintB;rw[zv b,f];simp only[not_true_eq_false,false_and,if_false,true_and];split;rename_i h;rw[zv (by omega)];rename_i h;rw[zA (by omega)]
 |false=>
  simp only[Uz,if_false,UO];obtain⟨c,t,rfl⟩:=Vb b;have m:48<=c.toNat/\c.toNat<=57:=by rw[V3,TC]at e;simpa[wn]using e.1
  unfold parseIntB;simp only;rw[zv (by omega)];unfold parseUintB;rw[zv (by simp),f];have i:¬c.toNat=45:=by omega
  simp only[i,not_false_eq_true,true_and,false_and,if_false];split;rename_i h;rw[zv (by omega)];rename_i h;rw[zA (by omega)]
theorem RQ{a b:Nat}(j:a<18446744073709551616)(k:b<18446744073709551616):Tj .u64 (((UC (Ul .u64) (a:Int)) &&& (UC (Ul .u64) (b:Int))).toNat:Int)=((a &&& b:Nat):Int):=by
 have c:Ul .u64=64:=rfl;have e:((UC (Ul .u64) (a:Int)) &&& (UC (Ul .u64) (b:Int))).toNat=a &&& b:=by rw[BitVec.toNat_and,BitVec.ofInt_natCast,BitVec.ofInt_natCast,BitVec.toNat_ofNat,BitVec.toNat_ofNat,c,Nat.mod_eq_of_lt (by omega),Nat.mod_eq_of_lt (by omega)]
 rw[e];have f:a &&& b<2 ^ 64:=Nat.and_lt_two_pow _ (by omega);unfold Tj;have h:(2:Int) ^ Ul .u64=18446744073709551616:=by decide
 simp only[h];have i:V6 .u64=Tc:=rfl;simp only[i,Bool.false_and,Uz,if_false];omega
theorem Ra{n:Int}(h1:0<=n)(e:n<18446744073709551616):Tj .u64 n=n:=by
 unfold Tj;have b:(2:Int) ^ Ul .u64=18446744073709551616:=by decide
 simp only[b];have c:V6 .u64=Tc:=rfl;simp only[c,Bool.false_and,Uz,if_false];omega
end
section
variable {v:Tr} {l:List Tr} {k:Nat}
mutual
def cK:Tr->Nat | .mk _ _ _ xs=>1+Zc xs
def Zc:List Tr->Nat | []=>0|x::l=>cK x+Zc l
end
mutual
def ie:Tr->Nat | .mk _ _ _ xs=>X7 xs+1
def X7:List Tr->Nat | []=>0|x::l=>max (ie x) (X7 l)
end
mutual
def Qp(p:Tr->Bool):Tr->Bool | .mk k s ks xs=>p (.mk k s ks xs)&&lN p xs
def lN(p:Tr->Bool):List Tr->Bool | []=>Ta|x::l=>Qp p x&&lN p l
end
mutual
def jM(m:Nat):Tr->Prop | .mk _ s ks xs=>(s.size<=m/\ks.length<=m/\∀k∈ks,k.size<=m)/\lG m xs
def lG(m:Nat):List Tr->Prop | []=>True|x::l=>jM m x/\lG m l
end
theorem w7(v:Tr):cK v=1+Zc v.items:=by cases v;rw[cK]
theorem mJ(v:Tr):ie v=X7 v.items+1:=by cases v;rw[ie]
theorem xg(p:Tr->Bool)(v:Tr):Qp p v=(p v&&lN p v.items):=by cases v;rw[Qp]
theorem mA(m:Nat)(v:Tr):jM m v↔(v.text.size<=m/\v.keys.length<=m/\∀k∈v.keys,k.size<=m)/\lG m v.items:=by cases v;rw[jM]
theorem rF{m:Nat}:∀{l:List Tr},lG m l↔∀x∈l,jM m x
 |[]=>by simp[lG]
 |x::l=>by rw[lG,rF];simp
theorem Kh{m:Nat}{v x:Tr}(h:jM m v)(b:x∈v.items):jM m x:=rF.1 ((mA m v).1 h).2 x b
theorem je(p:Tr->Bool):∀l:List Tr,lN p l=l.all (Qp p)
 |[]=>rfl
 |x::l=>by rw[lN,je p l];rfl
theorem yF:∀a b:List Tr,Zc (a++b)=Zc a+Zc b
 |[],b=>by simp[Zc]
 |x::l,b=>by rw[Um,Zc,Zc,yF l b];omega
theorem Em:∀a b:List Tr,X7 (a++b)=max (X7 a) (X7 b)
 |[],b=>by simp[X7]
 |x::l,b=>by rw[Um,X7,X7,Em l b];omega
theorem Fv{x:Tr}:∀{l:List Tr},x∈l->cK x<=Zc l
 |y::l,h=>by rw[Zc];rcases Tz.1 h with rfl|h;omega;have:=Fv h;omega
theorem qq{v x:Tr}(h:x∈v.items):cK x<cK v:=by have:=Fv h;rw[w7 v];omega
theorem Zk:∀l:List Tr,l.length<=Zc l
 |[]=>by simp[Zc]
 |x::l=>by have:=Zk l;rw[Zc,TI,w7];omega
theorem Qx(v:Tr):0<cK v:=by rw[w7];omega
theorem Ii(b:k<l.length):Zc (l.take (k+1))=Zc (l.take k)+cK l[k]:=by rw[Tu b,yF];simp[Zc]
theorem R9(b:k<l.length):X7 (l.take (k+1))=max (X7 (l.take k)) (ie l[k]):=by rw[Tu b,Em];simp[X7]
mutual
theorem Oo:∀v:Tr,ie v<=cK v
 |.mk _ _ _ xs=>by rw[ie,cK];have:=vM xs;omega
theorem vM:∀l:List Tr,X7 l<=Zc l
 |[]=>by simp[X7]
 |x::l=>by rw[X7,Zc];have:=Oo x;have:=vM l;omega
end
def j8(ks:List Bt):Bool:=ks.all (λk=>Jl (lb k))&&decide ks.Nodup
def kq(s:Bs):Nm×Bool:=((ql s).1,(ql s).2==0&&decide (Jm (ql s).1=s))
def uh(s:Bs):Bool:=(kq s).2&&(rM (kq s).1).2&&decide (0<=(rM (kq s).1).1)
def zo(v:Tr):Bool:=
 if v.kind=1 then lb v.text==[]&&v.keys.isEmpty&&v.items.isEmpty
 else if v.kind=2 then(lb v.text==[116,114,117,101]||lb v.text==[102,97,108,115,101])&&v.keys.isEmpty&&v.items.isEmpty
 else if v.kind=3 then(kq (lb v.text)).2&&v.keys.isEmpty&&v.items.isEmpty
 else if v.kind=4 then Jl (lb v.text)&&v.keys.isEmpty&&v.items.isEmpty
 else if v.kind=5 then lb v.text==[]&&v.keys.isEmpty
 else if v.kind=6 then j8 v.keys&&decide (v.keys.length=v.items.length)&&lb v.text==[]
 else if v.kind=7 then uh (lb v.text)&&v.keys.isEmpty&&v.items.isEmpty
 else Tc
def Zj(v:Tr):Bool:=decide (cK v<=4096)&&decide (ie v<=32)
def we(v:Tr):Bool:=Zj v&&Qp zo v
def zm(v:Tr):Bool:=Zj v&&Qp (λx=>decide (x.kind≠7)&&zo x) v
structure Sm (v:Tr):Prop where
 sz:cK v<=1000000000000
 tx:jM 1048576 v
theorem Sm.item{v x:Tr}(h:Sm v)(b:x∈v.items):Sm x:=⟨by have:=qq b;have:=h.sz;omega,Kh h.tx b⟩
theorem Sm.text(h:Sm v):(lb v.text).length<=1048576:=by rw[ny];exact((mA _ v).1 h.tx).1.1
theorem Sm.key(h:Sm v){k:Bt}(b:k∈v.keys):(lb k).length<=1048576:=by rw[ny];exact((mA _ v).1 h.tx).1.2.2 k b
theorem Sm.keys(h:Sm v):v.keys.length<=1048576:=((mA _ v).1 h.tx).1.2.1
theorem Sm.items(h:Sm v):v.items.length<=1000000000000:=by have:=Zk v.items;have:=h.sz;rw[w7]at this;omega
end
end Go.X
end
section
namespace Go.X
section
variable {gl:Fr} {l:Bs} {R:Bool -> Prop}
theorem vJ(t:Tabs gl)(y:l.length<=4611686018427387904){R:Int×Bool->Prop}(h:∀k,R (k,Jl l)):PC Tp gl 196 [Arg.mk .str (bl l)] [.int .i64,.bool] R:=by
 apply Oz;refine MQ t y ⟨λn=>?_,λn=>?_⟩;have:=h ((bl l).size:Int);rw[n]at this;exact this;refine⟨λp=>p.1=bl l/\p.2<=l.length/\Jl (l.drop p.2)=Tc,λp=>l.length-p.2,⟨rfl,by omega,by simpa using n⟩,?_⟩;rintro⟨_,p⟩ ⟨rfl,w,c⟩;simp only at w c ⊢;rw[yG,s8];refine⟨λm=>⟨m,m,λq=>?_,λq=>⟨?_,?_⟩⟩,λm=>?_⟩;have f:p<l.length:=by simpa using m
 have b:l.drop p≠[]:=λe=>by have:=congrArg Uw e;simp at this;omega
 have o:jL (dec (l.drop p))=Tc:=by
  unfold jL;have:¬(dec (l.drop p)).1=65533:=λe=>by rw[e]at q;simp at q
  simp[this]
 rw[Wk b,o]at c;simp only[Uz,if_false,VI]at c;rw[qT l p f];have x:=Yk (l.drop p);have j:=wU b;simp only[UJ]at j;exact⟨⟨trivial,by omega,c⟩,by omega⟩;have f:p<l.length:=by simpa using m
 rw[zt];omega;have f:p<l.length:=by simpa using m
 have b:l.drop p≠[]:=λe=>by have:=congrArg Uw e;simp at this;omega
 rw[zt,OX (k:=p) rfl];refine Ik t ?_;have r:(bl (l.drop p)).size≠0:=by rw[zt];simp;omega
 have u:Lib.decodeGo (bl (l.drop p))=dec (l.drop p):=by unfold Lib.decodeGo;rw[zv r,uX,j4,Vp]
 rw[u];refine⟨λi=>?_,λi=>?_⟩;have:=h (p:Int);have z:Jl l=Tc:=n;rw[z]at this;exact this;have o:jL (dec (l.drop p))=Tc:=by
  unfold jL;have:¬(dec (l.drop p)).2=1:=λe=>by rw[e]at i;simp at i
  simp[this]
 rw[Wk b,o]at c;simp only[Uz,if_false,VI]at c;rw[qT l p f];have x:=Yk (l.drop p);have j:=wU b;simp only[UJ]at j;exact⟨⟨trivial,by omega,c⟩,by omega⟩;have:l.drop p=[]:=Va (by(have:¬p<l.length:=by simpa using m);omega);rw[this,FB]at c;cases c
theorem QQ(b:Tabs gl)(c:l.length<=4611686018427387904)(h:R (Jl l)):PC Tp gl 137 [Arg.mk .str (bl l)] [.bool] R:=by apply Mp;exact vJ b c λk=>h
theorem E6(b:Tabs gl)(c:l.length<=4611686018427387904)(h:R (Jl l)):PC Tp gl 149 [Arg.mk .str (bl l)] [.bool] R:=by apply G6;exact vJ b c λk=>h
structure GL (gl:Fr):Prop where
 tabs:Tabs gl
 pow:pW gl
 max:uJ gl
 err:EB gl
theorem Wn(s:Bs)(h:s.length<=1152921504606846976):(ql s).1.2.1.length<=4611686018427387904:=by
 unfold ql;split;simp;rename_i x f;have h1:=Dk f;split;simp;split;simp;simp only;generalize (if x.low=Ta then-(zr (x.exp.dropWhile (· == 48)):Int)else zr (x.exp.dropWhile (· == 48)))=e;split;simp;rename_i b;have c:(yq (x.whole++x.rest)).length<=(x.whole++x.rest).length:=by unfold yq;rw[List.length_reverse];refine Ux (wo _ _) ?_;rw[List.length_reverse];exact wo _ _
 rw[Ts]at c;split;show(yq (x.whole++x.rest)).length<=_;omega;simp
theorem vK(f:GL gl){s:Bs}(b:s.length<=1152921504606846976){R:(Bool×Bt×Int)×Bool->Prop}(h:R (nj (kq s).1,(kq s).2)):PC Tp gl 148 [Arg.mk .str (bl s)] [tN,.bool] R:=by
 apply SZ;refine Gl b ?_;refine⟨λt=>t=bl (Jm (ql s).1),λ_=>D7 f.pow (Wn s b) rfl,λr c=>?_⟩;have e:(bif ((ql s).2==0)then(r.toList==(bl s).toList)else Tc)=(kq s).2:=by
  unfold kq;cases hc:((ql s).2==0)with
  |false=>rfl
  |true=>rw[c hc,zK,l6];rfl
 simp only at e ⊢;rw[e];exact h
theorem RO(n:Nat):Lib.repeatL [48] n=UL n 48:=by
 induction n with
 |zero=>rfl
 |succ n b=>rw[Lib.repeatL,b];rfl
theorem OW(z:GL gl){n:Nm}(D:n.2.1.length<=4611686018427387904){R:Int×Bool->Prop}(h:R (rM n)):PC Tp gl 209 [Arg.mk tN (nj n)] [.int .i64,.bool] R:=by
 apply IQ;refine y4 D ?_;unfold rM at h;cases hr:yy n with
 |false=>rw[hr]at h;exact⟨λ_=>by simpa using h,λl=>by simp at l⟩
 |true=>
  obtain⟨E,C,B⟩:=Eb hr;rw[hr]at h;simp only[UQ]at h;simp only[zt];rw[hX (by omega)];refine⟨λl=>?_,λl=>?_⟩;rw[zv]at h;exact h;simp at l ⊢;omega;have y:0<=n.2.2/\(n.2.1.length:Int)+n.2.2<=19:=by simp at l;omega
  rw[zA (by simp;omega)]at h;rw[<-QA]at h;obtain⟨e,w⟩:∃e:Nat,n.2.2=(e:Int):=⟨n.2.2.toNat,by omega⟩;show PC Tp gl 200 [Arg.mk .str (bl [48]),Arg.mk (.int .i64) n.2.2] [.str] _;rw[w];refine u9 (by omega) (by rw[zt];simp;omega) ?_;rw[j4,RO,jd];have o:n.2.1++UL e 48=Ym n:=by rw[Ym,w,Tq]
  have p:(Ym n).length<=19:=by rw[<-o];simp;omega
  have u:=KU hr;rw[o];refine⟨nn (a:=n.2.1) (by rw[Vg];omega),?_⟩;rw[show(⟨#[]⟩:Bt)=bl []from rfl,show(⟨#[45]⟩:Bt)=bl [45]from rfl];simp only[jd];intro K A;have key:∀t:Bs,t=(if n.1 then [45]else [])++Ym n->K (bl t):=by
   intro t c;refine A _ ⟨λhz=>?_,λhz=>?_⟩;have r:t=[]:=by have:=l6 t [];rw[this]at hz;simpa using hz
   rw[r]at c;have k:n.1=Tc:=by cases hb:n.1 <;> simp[hb]at c;rfl
   have i:Ym n=[]:=by simp[k]at c;exact c
   rw[k,i]at h;exact h;have j:t≠[]:=by intro e;rw[e,l6]at hz;simp at hz
   refine MM z.err (by rw[zt,c];split <;> simp <;> omega) ?_;rw[j4,c];have i:Ym n≠[]:=by
    intro q;cases hb:n.1 with
    |false=>rw[c,hb,q]at j;exact j rfl
    |true=>
     have x:n.2.1=[]:=by rw[Ym]at q;exact(List.append_eq_nil_iff.1 q).1
     have:=JH hr x;unfold mC at this;rw[hb]at this;simp at this
   unfold xD;rw[Hx n.1 u p i];cases hb:n.1 with
   |true=>rw[hb]at h;simp only[if_true]at h ⊢;by_cases m:zr (Ym n)<=9223372036854775808;rw[zA (by omega)]at h;rw[zA m];exact⟨λf=>(by cases f),λ_=>h⟩;rw[zv (by omega)]at h;rw[zv m];exact⟨λ_=>h,λf=>(by cases f)⟩
   |false=>rw[hb]at h;simp only[Uz,if_false]at h ⊢;by_cases m:zr (Ym n)<=9223372036854775807;rw[zA (by omega)]at h;rw[zA m];exact⟨λf=>(by cases f),λ_=>h⟩;rw[zv (by omega)]at h;rw[zv m];exact⟨λ_=>h,λf=>(by cases f)⟩
  refine⟨λb=>⟨nn (a:=[45]) (by simp;omega),?_⟩,λb=>?_⟩;exact key _ (by rw[zA (by simpa using b)]);exact key _ (by rw[zv (by simpa using b)];rfl)
end
end Go.X
end
