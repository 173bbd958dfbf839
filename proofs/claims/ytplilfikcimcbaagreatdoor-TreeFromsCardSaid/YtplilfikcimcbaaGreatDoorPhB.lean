/- A part of the proof: nothing is stated here for its own sake. -/
import Derived.Test.YtplilfikcimcbaaGreatDoorPhA
import Derived.Deep.AppendSrc
import Derived.ProofKit
import Derived.OpenShut
import Derived.ShutString
import Derived.SizedLaws
import Derived.LaidSub
import Derived.Lib.LaidU8
import Derived.Test.YtplilfikcimcbaaGreatDoorProg
import Derived.Shelf.Strings.Trim
import Derived.Shelf.Small.Bits
import Derived.Shelf.Small.Wraps
import Derived.Shelf.Strings.BuilderRune
import Derived.Shelf.Utf8.AppendRune
import Derived.Shelf.Utf8.AppendRunePlain
import Derived.Shelf.Strconv.Itoa3
import Derived.Shelf.Strconv.AtoiErr
import Derived.Shelf.Strconv.ErrVarAll
import Derived.Shelf.Strconv.ErrVarParseInt
import Derived.Shelf.Pu.ParseUintPublic10
import Derived.Shelf.Sort.Plain
import Derived.Shelf.Unicode.Decode
import Derived.Shelf.Strings.IndexAnyAll
import Derived.Shelf.Strings.Repeat
import Derived.Shelf.Unicode.DecodeLast
import Derived.Shelf.Strings.BuilderCap
import Derived.Shelf.Slices.Turned
import Derived.Shelf.Slices.Clone
import Derived.Shelf.Slices.In.SortNone
import Derived.Shelf.SlicesE.Clone
import Derived.Shelf.Utf8.RuneCount
import Derived.Shelf.Strings.Shaped
import Derived.Shelf.Strings.SplitShaped
import Derived.Shelf.Strings.RuneCount
import Derived.Shelf.Slices.Cells
import Derived.Shelf.Slices.Empties
open _root_.Go.Addr renaming add->Ua
open _root_.Array renaming getD_eq_getD_getElem?->Vm,getElem?_append_left->V5,getElem?_eq_getElem->Vx,getElem?_eq_some_iff->Ut,getElem?_toList->VF,replicate->VL,size->UA,size_push->Ur
open _root_.Bool renaming cond_false_right->VG,cond_true_left->VS,eq_iff_iff->Uy,false_and->XU,false_eq_true->UR,false_or->XN,or_eq_false_iff->XB,or_eq_true->Vq,true_and->Vo
open _root_.Go.Builtin renaming append_->Ug,firstCells->VY
open _root_.Go.Code renaming cond->YJ,region->YR
open _root_.Go.Deferred renaming ofValue->XW
open _root_.Go.Instr renaming next->WS,range->YE,storeAt->Ub,sureAddr->XR
open _root_.Int renaming toNat_natCast->Ue
open _root_.Go.IntKind renaming bits->U4,i64->Ve,signed->XT,wrap->T9
open _root_.List.Pairwise renaming nil->YT
open _root_.List renaming all_cons->WQ,append_assoc->UB,append_nil->UM,cons_append->UF,drop_drop->Vl,drop_eq_getElem_cons->UZ,drop_eq_nil_of_le->Vr,drop_left->YF,drop_zero->VD,eq_nil_of_length_eq_zero->UK,exists_cons_of_ne_nil->U9,ext_getElem?->Vd,getD_eq_getElem?_getD->U0,getElem?_drop->Va,getElem?_eq_getElem->Ul,getElem?_eq_none->WC,getElem?_eq_some_iff->UE,getElem?_map->U2,getElem?_take->UU,getElem_map->WE,getElem_mem->Up,getElem_set_self->XO,length->VA,length_append->Uf,length_cons->Uk,length_drop->UD,length_map->Um,length_nil->UG,length_pos_iff->U5,length_set->WW,length_take->UQ,mapM_cons->YG,map_cons->Uq,mem_append->Uv,mem_append_left->Un,mem_append_right->Uw,mem_cons->Uj,mem_cons_of_mem->Uo,mem_cons_self->Uu,mem_flatMap->VO,mem_map->US,mem_range->UY,nil_append->UX,pairwise_append->XA,pairwise_cons->Vn,range->U8,take_append_drop->Vw,take_left->YH,take_succ_cons->V7,take_zero->WU
open _root_.List.cons renaming injEq->Vu
open _root_.Nat renaming add_mul->VU,add_zero->WP,blt_eq->YK,eq_of_beq_eq_true->Ux,eq_zero_or_pos->XI,le_of_ble_eq_true->VE,le_refl->Uc,le_trans->VB,lt_or_ge->U1,mul_le_mul_right->UC,mul_one->Vz,one_mul->YM,strongRecOn->YD,zero_add->UI,zero_le->UH
open _root_.Go.Next renaming value->XQ
open _root_.Option renaming bind_some->VM,map_eq_some_iff->VN
open _root_.Option.some renaming inj->UO,injEq->Ud
open _root_.Prod.mk renaming injEq->Vg
open _root_.Pure renaming pure->XM
open _root_.Go.Proofs.Tryz renaming prog->UN
open _root_.UInt8 renaming ofNat->UL,toNat_inj->XL
open _root_.Go.Utf8 renaming decode->YS,encode->YN
open _root_.Go.Value renaming int->UT,string->UJ
open _root_.Go.Value.slice renaming injEq->UW
set_option linter.unusedVariables false
set_option maxRecDepth 100000
namespace Go.X
end Go.X
namespace Go.Proofs
end Go.Proofs
open Go Go.X Go.Proofs
open _root_.Bool renaming true->Ta,false->Tc
open _root_.Option renaming some->Td,none->Te
namespace Go.X
section
section
variable {M gl:Fr} {u:Value} {P:Program} {f:FuncId} {γ:Gh} {cs C R:CS} {o:Oper} {σ:Operand -> Value} {h:zb} {tr:TypeId}
variable {h0 : zb} {W : Nat -> Prop} {M0 : Fr}
def dB:Ty->Bool
 |.tree=>Ta
 |.unit=>Ta
 |.pair _ _=>Ta
 |_=>Tc
def RdV(M:Fr)(t:Ty)(x:El t)(u:Value):Prop:=if dB t=Ta then ∃cs:List Value,u=.agg cs.toArray/\Rd M t x cs else Rd M t x [u]
theorem RdV.mono{M M':Fr}(c:Fr.le M M'){t:Ty}{x:El t}(h:RdV M t x u):RdV M' t x u:=by unfold RdV at *;by_cases b:dB t=Ta;rw[zA b]at *;grind [Rd.mono];rw[za b]at *;exact Rd.mono c h
structure Arg where
 t:Ty
 x:El t
def fV(M:Fr)(l:List Arg)(vs:List Value):Prop:=All2 (λ(a:Arg) u=>RdV M a.t a.x u) l vs
@[reducible] def dm:List Ty->Type
 |[]=>Unit
 |[t]=>El t
 |t::t'::l=>El t×dm (t'::l)
def C6:(l:List Ty)->dm l
 |[]=>()
 |[t]=>l6 t
 |t::t'::l=>(l6 t,C6 (t'::l))
def pY(M:Fr):(l:List Ty)->dm l->List Value->Prop
 |[],_,us=>us=[]
 |[t],x,us=>∃u,us=[u]/\RdV M t x u
 |t::t'::l,x,us=>∃u b,us=u::b/\RdV M t x.1 u/\pY M (t'::l) x.2 b
def Zp(M:Fr)(l:List Ty)(x:dm l)(v:Value):Prop:=∃us,pY M l x us/\v=fY us
def PC(P:Program)(gl:Fr)(f:FuncId)(args:List Arg)(rt:List Ty)(R:dm rt->Prop):Prop:=
 ∀(h:zb) (M:Fr) (vs:List Value),Fr.le gl M->AgM M h->fV M args vs->XC P f vs.toArray h λv h'=>
  Keep h.size h h'/\∃M' r,Fr.le M M'/\(∀b,b<h.size->M' b=M b)/\AgM M' h'/\Zp M' rt r v/\R r
theorem PC.mono{args:List Arg}{rt:List Ty}{R b:dm rt->Prop}(H:PC P gl f args rt R)(n:∀r,R r->b r):PC P gl f args rt b:= λh M vs h1 h2 e=>(H h M vs h1 h2 e).mono λv h' ⟨k,M',r,i,o,l,m,c⟩=>⟨k,M',r,i,o,l,m,n r c⟩
theorem RdV.bd{t:Ty}{x:El t}(h:RdV M t x u):Bd t x:=by unfold RdV at h;split at h;obtain⟨cs,_,h⟩:=h;exact h.bd;exact h.bd
theorem PC.bd{args:List Arg}{rt:List Ty}{R:dm rt->Prop}(H:(∀a∈args,Bd a.t a.x)->PC P gl f args rt R):PC P gl f args rt R:=by
 intro h M vs h1 h2 c;refine H ?_ h M vs h1 h2 c;clear H h1 h2;induction args generalizing vs with
 |nil=>simp
 |cons a args i=>
  cases vs with
  |nil=>exact c.elim
  |cons u us=>intro b e;rcases Uj.1 e with rfl|e;exact RdV.bd c.1;exact i us c.2 b e
def m0(t:Ty)(x:El t):AG:=bif dB t then .agg (Jk t x)else(match Jk t x with
 |[y]=>.a y
 |l=>.agg l)
theorem sP{t:Ty}{x:El t}(h:RdV γ.M t x u):DenG γ (m0 t x) u:=by
 unfold RdV at h;unfold m0;split at h;rename_i c;rw[c];obtain⟨cs,e,h⟩:=h;exact⟨cs,e,xq h⟩;rename_i c;have f:dB t=Tc:=by simpa using c
 rw[f];simp only[zH];have b:=xq (γ:=γ) h
 match hx:Jk t x,b with
 |[y],b=>exact b.1
 |[],b=>exact b.elim
 |_::_::_,b=>exact b.2.elim
def pV:(l:List Ty)->dm l->List AG
 |[],_=>[]
 |[t],x=>[m0 t x]
 |t::t'::l,x=>m0 t x.1::pV (t'::l) x.2
theorem Cv{γ:Gh}:∀{l:List Ty} {x:dm l} {us:List Value},pY γ.M l x us->All2 (DenG γ) (pV l x) us
 |[],_,_,h=>by rw[h];trivial
 |[_],_,_,⟨u,e,h⟩=>by rw[e];exact⟨sP h,trivial⟩
 |_::_::_,_,_,⟨u,us,e,h,h'⟩=>by rw[e];exact⟨sP h,Cv h'⟩
def mM(l:List Ty)(x:dm l):AV:=match pV l x with
 |[g]=>.g g
 |gs=>.tup gs
theorem KF{l:List Ty}{x:dm l}{v:Value}(h:Zp γ.M l x v):DenV γ (mM l x) v:=by
 obtain⟨us,h,rfl⟩:=h;have b:=Cv (γ:=γ) h;unfold mM;generalize pV l x=gs at *
 match gs,us,b with
 |[],[],_=>exact⟨[],rfl,trivial⟩
 |[g],[u],b=>exact b.1
 |g::g'::gs,u::u'::us,b=>exact⟨_,rfl,b⟩
 |[],_::_,b=>exact b.elim
 |_::_,[],b=>exact b.elim
 |[_],_::_::_,b=>exact b.2.elim
 |_::_::_,[_],b=>exact b.2.elim
def md(P:Program)(tr:TypeId):Nat->TypeId->Option Ty
 |0,_=>Te
 |n+1,t=>bif Nat.beq t tr then Td .tree else match P.underlying t with
  |some (.int k)=>Td (.int k)
  |some .bool=>Td .bool
  |some .string=>Td .str
  |some (.slice e)=>match md P tr n e with
   |some x=>Td (.row x)
   |none=>Te
  |some (.struct fs)=>tysOf P (λt=>md P tr n t) fs.toList
  |some (.interface _)=>Td .err
  |_=>Te
where tysOf (P:Program) (f:TypeId->Option Ty):List Field->Option Ty
 |[]=>Td .unit
 |[x]=>f x.type
 |x::y::l=>match f x.type,tysOf P f (y::l)with
  |some a,some b=>Td (.pair a b)
  |_,_=>Te
def qK(P:Program)(tr:TypeId):List TypeId->Option (List Ty)
 |[]=>Td []
 |t::l=>match md P tr 8 t,qK P tr l with
  |some a,some b=>Td (a::b)
  |_,_=>Te
def CM:AA->List Nat
 |.own c=>[c]
 |_=>[]
def kN:List AA->List Nat
 |[]=>[]
 |x::l=>CM x++kN l
def P6:AV->List Nat
 |.g (.a x)=>CM x
 |.g (.agg l)=>kN l
 |_=>[]
def fJ:List AV->List Nat
 |[]=>[]
 |v::l=>P6 v++fJ l
def frzL:List Nat->CS->CS
 |[],C=>C
 |c::l,C=>frzL l (iR c C)
theorem Inv.frzL{C R:CS}{γ:Gh}{h:zb}:∀(l:List Nat) {C:CS} {γ:Gh},Inv h0 W M0 (C++R) γ h->∃γ',Inv h0 W M0 (frzL l C++R) γ' h/\Gx Te γ γ'
 |[],C,γ,I=>⟨γ,I,Gx.refl _ _⟩
 |c::l,C,γ,I=>by obtain⟨n,m,e⟩:=Inv.freeze c C [] I;obtain⟨f,k,b⟩:=Inv.frzL (C:=C) (γ:=γ) l m;exact⟨f,k,e.1.trans b.1,λi hi=>⟨(b.2 i hi).1.trans (e.2 i hi).1,(b.2 i hi).2.trans (e.2 i hi).2⟩⟩
def lh(cs:CS)(t:Ty):AV->Option (El t)
 |.g (.agg l)=>bif dB t then(match collect cs t l with
  |some (y,[])=>Td y
  |_=>Te)else Te
 |.g (.a x)=>bif dB t then Te else gp cs t x
 |_=>Te
theorem q8(c:gj γ cs){t:Ty}{av:AV}{y:El t}(h:lh cs t av=Td y)(b:DenV γ av u):RdV γ.M t y u:=by
 unfold lh at h;unfold RdV;split at h;rename_i l;cases ha:dB t with
 |false=>simp_all
 |true=>
  rw[ha]at h;simp only[zG]at h;split at h;rename_i m i;simp only[Ud]at h;subst h;obtain⟨us,e,h2⟩:=b;obtain⟨c1,c2,rfl,k,f⟩:=Jm c i h2;cases c2 with
  |nil=>simp_all
  |cons _ _=>exact f.elim
  cases h
 rename_i x;cases ha:dB t with
 |true=>simp_all
 |false=>rw[ha]at h;simp only[UR,if_false];exact wa c h b
 cases h
def wl(cs:CS):List Ty->List AV->Option (List Arg)
 |[],[]=>Td []
 |t::ts,v::vs=>match lh cs t v,wl cs ts vs with
  |some x,some l=>Td (⟨t,x⟩::l)
  |_,_=>Te
 |_,_=>Te
theorem Y4{γ:Gh}{cs:CS}(b:gj γ cs):∀{ts:List Ty} {vs:List AV} {l:List Arg},wl cs ts vs=Td l->∀{us:List Value},All2 (DenV γ) vs us->fV γ.M l us
 |[],[],l,h,[],_=>by simp only[wl,Ud]at h;subst h;trivial
 |[],[],_,_,_::_,hd=>hd.elim
 |t::ts,v::vs,l,h,[],hd=>hd.elim
 |t::ts,v::vs,l,h,u::us,hd=>by simp only[wl]at h;split at h;rename_i x c h1 h2;simp only[Ud]at h;subst h;exact⟨q8 b h1 hd.1,Y4 b h2 hd.2⟩;cases h
 |[],_::_,_,h,_,_=>by simp[wl]at h
 |_::_,[],_,h,_,_=>by simp[wl]at h
def jD(ρ:Operand->Option AV):List Operand->Option (List AV)
 |[]=>Td []
 |x::l=>match ρ x,jD ρ l with
  |some v,some vs=>Td (v::vs)
  |_,_=>Te
theorem uv{γ:Gh}{ρ:Operand->Option AV}{σ:Operand->Value}(b:∀x av,ρ x=Td av->DenV γ av (σ x)):∀{l:List Operand} {vs:List AV},jD ρ l=Td vs->All2 (DenV γ) vs (l.map σ)
 |[],vs,h=>by simp only[jD,Ud]at h;subst h;trivial
 |x::l,vs,h=>by simp only[jD]at h;split at h;rename_i v c h1 h2;simp only[Ud]at h;subst h;exact⟨b _ _ h1,uv b h2⟩;cases h
def ExA(P:Program)(s:Sem Next)(h:zb)(Post:Value->zb->Prop):Prop:=∀B d,
 (∃v b h',s.run P (mk B d h)=.ok (.value v) (mk B b h')/\Post v h') \/
 (∃b h',s.run P (mk B d h)=.ok .skip (mk B b h')/\Post undef h') \/
 (∃f args,s.run P (mk B d h)=.ok (.enter f args) (mk B d h)/\XC P f args h Post)
theorem ExA.upon{Post:Value->zb->Prop}(H:ExA P (execOp σ o) h Post)(B:World)(d:Nat){a:Act}{next:Act->World->Prop}{Q:Exit->Act->World->Prop}
  (i:∀v c h',Post v h'->next (a.put o.dst v) (mk B c h')):o.upon P a next Q ((execOp σ o).run P (mk B d h)):=by
 rcases H B d with⟨v,c,h',e,b⟩|⟨c,h',e,b⟩|⟨f,args,e,k⟩;exact upon_value e (i _ _ _ b);exact upon_skip e (i _ _ _ b);rw[e];refine(k B d).mono ?_;simp_all
def fa(h0:zb)(W:Nat->Prop)(M0:Fr)(R:CS)(γ:Gh)(K:AV->CS->Option Nat->Prop)(v:Value)(h':zb):Prop:=
 ∃av b c γ',K av b c/\DenV γ' av v/\Inv h0 W M0 (b++R) γ' h'/\Gx c γ γ'
theorem t7(b:Fr.le gl M0){ρ:Operand->Option AV}{K:AV->CS->Option Nat->Prop}(H:qA P gl o ρ Te (C++R) λav=>K av C Te)(I:Inv h0 W M0 (C++R) γ h)
  (f:∀x av,ρ x=Td av->DenV γ av (σ x)):ExA P (execOp σ o) h (fa h0 W M0 R γ K):=by
 obtain⟨av,h1,h2⟩:=oy (h0:=h0) (W:=W) (M0:=M0) b H;obtain⟨v,c,e⟩:=h2 trivial γ h σ I f;exact λB d=>.inl ⟨v,d,h,e B d,av,C,Te,γ,h1,c,I,Gx.refl _ _⟩
def py:Operand->Option FuncId
 |.func f=>Td f
 |_=>Te
def C3(P:Program)(tr:TypeId)(f:FuncId):Option (List Ty×List Ty):=match P.funcs[f]? with
 |some fn=>match qK P tr fn.params.toList,qK P tr fn.resultTypes.toList with
  |some a,some b=>Td (a,b)
  |_,_=>Te
 |none=>Te
def v7(P:Program)(gl:Fr)(tr:TypeId)(o:Oper)(ρ:Operand->Option AV)(C R:CS)(K:AV->CS->Prop):Prop:=
 match o.op with
 |.call c=>match c.callee with
  |.value x=>match py x with
   |some f=>bif zo P f then(match C3 P tr f,jD ρ c.args.toList with
    |some (ts,rt),some vs=>match wl (frzL (fJ vs) C++R) ts vs with
     |some args=>PC P gl f args rt λr=>K (mM rt r) (frzL (fJ vs) C)
     |none=>False
    |_,_=>False)else False
   |none=>False
  |_=>False
 |_=>False
def vm(P:Program)(gl:Fr)(tr:TypeId)(o:Oper)(ρ:Operand->Option AV)(b:Bool)(cs:CS)(K:AV->Prop):Prop:=
 match o.op with
 |.call c=>match c.callee with
  |.value x=>match py x with
   |some f=>bif zo P f then(match C3 P tr f,jD ρ c.args.toList with
    |some (ts,rt),some vs=>match wl cs ts vs with
     |some args=>∃J:dm rt->Prop,(b=Ta->PC P gl f args rt J)/\∀r,(b=Ta->J r)->K (mM rt r)
     |none=>False
    |_,_=>False)else False
   |none=>False
  |_=>False
 |_=>False
theorem xY{x:Operand}(h:py x=Td f):x=.func f:=by unfold py at h;grind
theorem Cc{c:Call}(e:o.op=.call c)(i:c.callee=.value (.func f))(b:zo P f=Ta)(h:σ (.func f)=.func (.func f) #[] #[])(w:World):
  (execOp σ o).run P w=.ok (.enter f (c.args.map σ)) w:=by
 simp only[execOp,e,resolve,i,h,XW,Sem.run_bind,Sem.run_pure,Result.andThen_ok,invoke];rw[X5 b];simp
theorem Ay(b:Fr.le gl M0){args:List Arg}{rt:List Ty}{e:dm rt->Prop}(H:PC P gl f args rt e)(I:Inv h0 W M0 cs γ h){us:List Value}(m:fV γ.M args us):
  XC P f us.toArray h λv h'=>∃r γ',e r/\DenV γ' (mM rt r) v/\Inv h0 W M0 cs γ' h'/\Gx Te γ γ'/\Keep h.size h h':=
 (H h γ.M us (b.trans I.le) I.ag m).mono λv h' ⟨k,M',r,c,o,l,n,i⟩=>
  ⟨r,{ γ with M:=M' },i,KF (γ:={ γ with M:=M' }) n,I.call k c o l,⟨c,λ_ _=>⟨rfl,rfl⟩⟩,k⟩
theorem PS(n:Fr.le gl M0){ρ:Operand->Option AV}{K:AV->CS->Option Nat->Prop}(H:v7 P gl tr o ρ C R λav q=>K av q Te)(I:Inv h0 W M0 (C++R) γ h)
  (E:∀f,σ (.func f)=.func (.func f) #[] #[]) (D:∀x av,ρ x=Td av->DenV γ av (σ x)):ExA P (execOp σ o) h (fa h0 W M0 R γ K):=by
 unfold v7 at H;split at H;rename_i c w;split at H;rename_i x A;split at H;rename_i f t;cases hcal:zo P f with
 |false=>simp_all
 |true=>
  rw[hcal]at H;simp only[zG]at H;split at H;rename_i ts rt vs J m;split at H;rename_i args b;intro B d;have e:=xY t;subst e;obtain⟨G,p,k⟩:=Inv.frzL (C:=C) (γ:=γ) (fJ vs) I;have F:=Y4 p.fz b ((uv D m).imp λv _ u y=>y.gx k rfl);refine .inr (.inr ⟨f,c.args.map σ,Cc w A hcal (E f) _,?_⟩);have s:c.args.map σ=(c.args.toList.map σ).toArray:=by rw[<-Array.toList_map]
  rw[s];refine(Ay n H p F).mono ?_;rintro v h' ⟨r,γ',h1,h2,z,l,_⟩;exact⟨_,_,Te,γ',h1,h2,z,k.1.trans l.1,λi hi=>⟨(l.2 i hi).1.trans (k.2 i hi).1,(l.2 i hi).2.trans (k.2 i hi).2⟩⟩;exact H.elim;exact H.elim
 exact H.elim;exact H.elim;exact H.elim
theorem Bn{ρ:Operand->Option AV}{b:Bool}{K:AV->Prop}(H:vm P gl tr o ρ b cs K):(b=Tc->∃av,K av) /\
  (b=Ta->Fr.le gl M0->∀γ h σ,Inv h0 W M0 cs γ h->(∀f,σ (.func f)=.func (.func f) #[] #[])->(∀x av,ρ x=Td av->DenV γ av (σ x))->∃f args,(∀w,(execOp σ o).run P w=.ok (.enter f args) w) /\ XC P f args h λv h'=>∃av γ',K av/\DenV γ' av v/\Inv h0 W M0 cs γ' h'/\Gx Te γ γ'/\Keep h.size h h'):=by
 unfold vm at H;split at H;rename_i c p;split at H;rename_i x r;split at H;rename_i f n;cases hcal:zo P f with
 |false=>simp_all
 |true=>
  rw[hcal]at H;simp only[zG]at H;split at H;rename_i ts rt vs u k;split at H;rename_i args i;obtain⟨J,h1,h2⟩:=H;refine⟨λm=>⟨_,h2 (C6 rt) (λh=>by simp_all)⟩,λm l γ h σ I t s=>?_⟩;have e:=xY n;subst e;refine⟨f,c.args.map σ,λw=>Cc p r hcal (t f) w,?_⟩;have q:c.args.map σ=(c.args.toList.map σ).toArray:=by rw[<-Array.toList_map]
  rw[q];refine(Ay l (h1 m) I (Y4 I.fz i (uv s k))).mono ?_;grind;exact H.elim;exact H.elim
 exact H.elim;exact H.elim;exact H.elim
end
section
variable {P:Program} {t:TypeId} {o:Oper} {d:Nat} {C R:CS} {γ:Gh} {h:zb} {σ:Operand -> Value} {av:AV}
variable {h0 : zb} {W : Nat -> Prop} {M0 : Fr}
def rH(P:Program)(t:TypeId)(d:Nat)(C R:CS)(K:AV->CS->Option Nat->Prop):Prop:=match zeroOf P t with
 |some z=>bif Qb d R then(bif fc (z.cells.toList.map .v)then False else K (.g (.a (.box d 0))) ((d,.box (z.cells.toList.map .v))::jb d C) (Td d))else False
 |none=>False
theorem BS(c:Nat):∀l:List Value,ft c (l.map .v)=Tc
 |[]=>rfl
 |_::l=>by simp only[Uq,ft,ij,zH,BS c l]
theorem Ae(t:TypeId)(v:Value)(B:World)(d:Nat)(h:zb):(newVar t v).run P (mk B d h)=.ok ⟨h.size,0,Te⟩ (mk B d (h.push (.cells v.cells t))):=rfl
theorem HQ(b:o.op=.alloc t){K:AV->CS->Option Nat->Prop}(H:rH P t d C R K)(I:Inv h0 W M0 (C++R) γ h):ExA P (execOp σ o) h (fa h0 W M0 R γ K):=by
 unfold rH at H;split at H
 ·rename_i z i;cases hR:Qb d R with
  |false=>simp_all
  |true=>
   rw[hR]at H;cases hit:fc (z.cells.toList.map .v)with
   |true=>simp_all
   |false=>
   rw[hit]at H;intro B e;refine .inl ⟨.pointer (Td ⟨h.size,0,Te⟩),e,h.push (.cells z.cells t),?_,_,_,_,ga γ d h.size,H,?_,?_,jQ _ _ _⟩;have f:=qR i h B e;simp only[execOp,b];refine eP ?_;unfold Instr.alloc;simp_all[Sem.run_bind,Result.andThen_ok,Ae];simp only[DenV,DenG,DenA,Jn];have:=I.newBox (c:=d) hR (Jp γ z.cells.toList) (BS d _) hit t;omega
 exact H.elim
def uF(t:TypeId)(d:Nat)(l:List AA)(C R:CS)(K:AV->CS->Option Nat->Prop):Prop:=
 bif Qb d R then(bif ft d l then False else(bif fc l then False else K (.g (.a (.box d 0))) ((d,.box l)::jb d C) (Td d)))else False
theorem LY{x:Operand}(b:o.op=.box t x){l:List AA}{K:AV->CS->Option Nat->Prop}(H:uF t d l C R K)(I:Inv h0 W M0 (C++R) γ h)
  (f:All2 (DenA γ) l (σ x).cells.toList):ExA P (execOp σ o) h (fa h0 W M0 R γ K):=by
 unfold uF at H;cases hR:Qb d R with
 |false=>simp_all
 |true=>
  rw[hR]at H;cases hm:ft d l with
  |true=>simp_all
  |false=>
   rw[hm]at H;cases hit:fc l with
   |true=>simp_all
   |false=>
   rw[hit]at H;intro B e;refine .inl ⟨.pointer (Td ⟨h.size,0,Te⟩),e,h.push (.cells (σ x).cells t),?_,_,_,_,ga γ d h.size,H,?_,?_,jQ _ _ _⟩;simp only[execOp,b];refine eP ?_;unfold Instr.box;rw[Sem.run_bind,Ae];rfl;simp only[DenV,DenG,DenA,Jn];have:=I.newBox (c:=d) hR f hm hit t;omega
def tf:AA->Bool
 |.v x=>x.oneCell'
 |_=>Ta
def lp:List AA->Bool
 |[]=>Ta
 |x::l=>bif tf x then lp l else Tc
theorem MG{x:AA}{u:Value}(h:tf x=Ta)(k:DenA γ x u):u.oneCell'=Ta:=by
 cases x with
 |v y=>rw[show u=y from k];exact h
 |d t y=>exact Rd.one (show Rd γ.M t y [u]from k) u (by simp)
 |box c o=>rw[show u=_ from k];rfl
 |own c=>rw[show u=_ from k];rfl
 |oelt c z i o=>obtain⟨g,_,e⟩:=k;rw[e];rfl
 |elt t y o=>obtain⟨b,f,cs,e,_⟩:=k;rw[e];rfl
 |dc t xs=>obtain⟨s,e,_⟩:=k;rw[e];rfl
theorem wB{γ:Gh}:∀{l:List AA} {us:List Value},lp l=Ta->All2 (DenA γ) l us->∀u∈us,u.oneCell'=Ta
 |[],[],_,_,u,b=>by cases b
 |[],_::_,_,h,_,_=>h.elim
 |_::_,[],_,h,_,_=>h.elim
 |x::l,v::us,h,hd,u,b=>by
  simp only[lp]at h;cases hx:tf x with
  |false=>simp_all
  |true=>rw[hx]at h;rcases Uj.1 b with rfl|b;exact MG hx hd.1;exact wB h hd.2 u b
def fH(c:Nat):CS->Bool
 |[]=>Ta
 |(j,_)::l=>bif Nat.beq j c then Tc else fH c l
theorem kj{c:Nat}:∀{l:CS},fH c l=Ta->∀x∈l,x.1≠c
 |[],_,x,b=>by cases b
 |(j,k)::l,h,x,b=>by
  simp only[fH]at h;cases hb:Nat.beq j c with
  |true=>simp_all
  |false=>rw[hb]at h;rcases Uj.1 b with rfl|b;intro e;simp_all;exact kj h x b
theorem vz{P:Program}{g o:Nat}:∀(vs:List Value) (i:Nat) (w:World),(storeCells ⟨g,o,Te⟩ vs i).run P w=(storeCells ⟨g,0,Te⟩ vs (o+i)).run P w
 |[],i,w=>rfl
 |v::vs,i,w=>by unfold storeCells;rw[Sem.run_bind,Sem.run_bind,zj,zj,UI];congr 1;funext a w';exact vz vs (i+1) w'
theorem Q8{n:Nat}(hi:qj P t=Ta)(i:jg P t=n){b o:Nat}{cs:Array Value}{T:TypeId}(e:h[b]?=Td (.cells cs T (0,0))){v:Value}(l:v.cells.size=n)(p:o+n<=cs.size)(h1:∀u∈v.cells.toList,u.oneCell'=Ta)(B:World)(d:Nat):
  ∃h',(Ub t (.pointer (Td ⟨b,o,Te⟩)) v).run P (mk B d h)=.ok () (mk B d h')/\h'[b]?=Td (.cells (cs.toList.take o++v.cells.toList++cs.toList.drop (o+n)).toArray T (0,0))/\h'.size=h.size/\∀j,j≠b->h'[j]?=h[j]?:=by
 obtain⟨h',f,q,c,k⟩:=Y3 (P:=P) B d v.cells.toList (o+0) h cs e (by simp;omega) h1;refine⟨h',?_,by grind,c,k⟩;have m:=QExec.sizeOf (P:=P) (h:=h) (wh hi).choose_spec B d;unfold Ub XR;simp only[Sem.run_bind,Sem.run_pure,Result.andThen_ok];unfold storeVar;rw[Sem.run_bind,m];simp only[Result.andThen_ok];rw[i,l];simp only[ne_eq,not_true_eq_false,if_false];rw[vz];exact f
theorem Qy{α:Type}{L vs:List α}{p:Nat}(h:p+vs.length<=L.length)(q:Nat):(L.take p++vs++L.drop (p+vs.length))[q]?=if q<p then L[q]? else if q<p+vs.length then vs[q-p]? else L[q]?:=by grind
theorem RowC.set{M:Fr}{t:Ty}{xs:List (El t)}{cells:List Value}(H:RowC M t xs cells){i:Nat}(hi:i<xs.length){y:El t}{o:Nat}{vs:List Value}(m:o+vs.length<=sz t) (n:Rd M t y ((((cells.drop (i*sz t)).take (sz t)).take o)++vs++(((cells.drop (i*sz t)).take (sz t)).drop (o+vs.length)))):
  RowC M t (xs.set i y) (cells.take (i*sz t+o)++vs++cells.drop (i*sz t+o+vs.length)):=by
 have c:(i+1)*sz t<=cells.length:=by rw[H.1];exact UC _ hi
 rw[VU,YM]at c;have l:((cells.drop (i*sz t)).take (sz t)).length=sz t:=by rw[UQ,UD];omega
 refine⟨?_,λj h=>?_⟩;rw[WW,<-H.1];grind;rw[WW]at h;by_cases b:i=j;subst b;rw[XO];have e:(((cells.take (i*sz t+o)++vs++cells.drop (i*sz t+o+vs.length)).drop (i*sz t)).take (sz t))=(((cells.drop (i*sz t)).take (sz t)).take o)++vs++(((cells.drop (i*sz t)).take (sz t)).drop (o+vs.length)):=by apply Vd;intro k;rw[Qy (by omega),UU,UU,Va,Va,Qy (by omega)];by_cases f:k<sz t;grind;grind
 grind;rw[List.getElem_set_ne b];have e:(((cells.take (i*sz t+o)++vs++cells.drop (i*sz t+o+vs.length)).drop (j*sz t)).take (sz t))=(cells.drop (j*sz t)).take (sz t):=by
  apply Vd;intro k;rw[UU,UU,Va,Va,Qy (by omega)];by_cases f:k<sz t;simp only[f,if_true];rcases U1 j i with h1|h1;have:(j+1)*sz t<=i*sz t:=UC _ h1;grind;have h2:i+1<=j:=by omega
  have:(i+1)*sz t<=j*sz t:=UC _ h2;grind;grind
 rw[e];exact H.2 j h
theorem Inv.setRow{h h':zb}(I:Inv h0 W M0 (C++R) γ h){c:Nat}{e:TypeId}{t:Ty}{xs l:List (El t)}(u:(c,Ch.row e t xs)∈C){g:Nat}(n:(γ.σ c).a.map (·.block)=Td g)
  (D:∀i,i≠g->h'[i]?=h[i]?) (G:h'.size=h.size) (w:DenC h0.size γ h' c (.row e t l)) (J:∀x∈R,x.1≠c):Inv h0 W M0 ((c,.row e t l)::dJ c C++R) γ h':=by
 have s:=I.sep _ (Un R u) g n;have q:∀x∈dJ c C++R,blk γ x.1 x.2≠Td g:=by
  intro x k;have p:x≠(c,Ch.row e t xs):=by rintro rfl;rcases Uv.1 k with k|k;exact(Yx k).2 rfl;grind
  have o:x∈C++R:=((Zb c C).append_right R).subset k;have A:=@mo _ (λ(x y:Nat×Ch)=>∀b,blk γ x.1 x.2=Td b->blk γ y.1 y.2≠Td b) (λx y h b f r=>h b r f) _ I.apart;intro f;exact A (Un R u) o (λe=>p e.symm) _ n f
 have B:Inv h0 W M0 (dJ c C++R) γ h':=by refine I.rest ((Zb c C).append_right R) (c:=Te) (Gx.refl _ _) (λx _=>⟨by simp,rfl⟩) (λx k b f=>?_) (λb z E=>?_) (λi hi F=>?_) (by omega) (λb f=>rfl);exact⟨D b λe'=>q x k (e' ▸ f),(I.sep x (((Zb c C).append_right R).subset k) b f).2⟩;obtain⟨H,m,e'⟩:=I.ag b z E;grind;grind
 refine B.cons w (λb f=>?_) (λb f x k=>?_);simp only[blk,n,Ud]at f;grind;simp only[blk,n,Ud]at f;simp_all
def sM(P:Program)(t:TypeId)(f:AA)(b:List AA)(C R:CS)(K:AV->CS->Option Nat->Prop):Prop:=
 bif qj P t then(bif Nat.beq b.length (jg P t)then(bif lp b then(match f with
 |.box c o=>match Jl C c with
  |some (.box l)=>bif fH c R then(bif (bif fc l then Ta else fc (l.take o++b++l.drop (o+b.length)))then False else(bif Nat.ble (o+b.length) l.length then K (jZ undef) ((c,.box (l.take o++b++l.drop (o+b.length)))::dJ c C) Te else False))else False
  |_=>False
 |.oelt c z i o=>match Jl (frzL (kN b) C) c with
  |some (.row e ty xs)=>bif fH c R then(bif Nat.beq z (sz ty)then(bif Nat.ble (o+b.length) (sz ty)then ∃y:El ty,xs[i]?=Td y/\(match collect (frzL (kN b) C++R) ty ((Jk ty y).take o++b++(Jk ty y).drop (o+b.length))with
   |some (y',[])=>K (jZ undef) ((c,.row e ty (xs.set i y'))::dJ c (frzL (kN b) C)) Te
   |_=>False)else False)else False)else False
  |_=>False
 |_=>False)else False)else False)else False
theorem Mo{a x:Operand}(ho:o.op=.store t a x){aa:AA}{f:List AA}{K:AV->CS->Option Nat->Prop}(H:sM P t aa f C R K)(I:Inv h0 W M0 (C++R) γ h)
  (D:All2 (DenA γ) f (σ x).cells.toList) (ha:DenA γ aa (σ a)):ExA P (execOp σ o) h (fa h0 W M0 R γ K):=by
 unfold sM at H;cases hi:qj P t with
 |false=>grind
 |true=>
  rw[hi]at H;cases hn:Nat.beq f.length (jg P t)with
  |false=>simp_all
  |true=>
   rw[hn]at H;cases hok:lp f with
   |false=>simp_all
   |true=>
    rw[hok]at H;have N:f.length=jg P t:=Ux hn;have u:(σ x).cells.size=jg P t:=by rw[<-N,D.length];simp
    have h1:=wB hok D;simp only[zG]at H;split at H
    ·rename_i c off;split at H
     ·rename_i l Y;cases hR:fH c R with
      |false=>simp_all
      |true=>
       rw[hR]at H;cases hit:fc l with
       |true=>simp_all
       |false=>
       rw[hit]at H;cases hit2:fc (l.take off++f++l.drop (off+f.length))with
       |true=>simp_all
       |false=>
       rw[hit2]at H;simp only[zG,zH]at H;cases hble:Nat.ble (off+f.length) l.length with
       |false=>grind
       |true=>
        rw[hble]at H;have ai:=VE hble;obtain⟨us,e,h2⟩:=I.den _ (Un R (qf Y));rcases e with⟨⟨T,e⟩,_⟩|⟨s,p,e,_⟩;case inr=>grind [pB]
        have ax:=h2.length;intro B d;obtain⟨h',r1,r2,r3,r4⟩:=Q8 (P:=P) hi rfl e (o:=off) u (by simp;omega) h1 B d;refine .inr (.inl ⟨d,h',?_,_,_,_,γ,H,mU _ _,?_,Gx.refl _ _⟩);simp only[execOp,ho];rw[show σ a=_ from ha];exact kL r1;refine I.setBox (qf Y) (us:=us.take off++(σ x).cells.toList++us.drop (off+f.length)) (.inl ⟨⟨T,?_⟩,λs p=>pB hit2 (((h2.take off).append D).append (h2.drop _)) s p⟩) r4 r3 ?_ (kj hR);rw[r2,N];exact((h2.take off).append D).append (h2.drop _)
     exact H.elim
    rename_i c z i off;split at H;rename_i e ty xs Y;cases hR:fH c R with
    |false=>simp_all
    |true=>
     rw[hR]at H;cases hz:Nat.beq z (sz ty)with
     |false=>simp_all
     |true=>
      rw[hz]at H;cases hble:Nat.ble (off+f.length) (sz ty)with
      |false=>grind
      |true=>
       rw[hble]at H;simp only[zG]at H;obtain⟨y,hy,H⟩:=H;split at H;rename_i y' Q;have ai:=VE hble;obtain⟨γ1,I1,g1⟩:=Inv.frzL (C:=C) (γ:=γ) (kN f) I;have E:=ha.gx g1 rfl;have ab:=DenL.gx (c:=Te) g1 rfl D;rw[Ux hz]at E;obtain⟨g,hg,ah⟩:=E;have q:=qf Y;obtain⟨cells,r,b,n,m⟩:=I1.den _ (Un R q);simp only at r b n m;have A:i<xs.length:=(UE.1 hy).1;have aj:xs[i]=y:=(UE.1 hy).2;rcases r.2 with⟨hv,au⟩|⟨g',cap,M,hv,ak,ae,am,J,af,w⟩;omega;simp only[UW]at hv;have an:g'=g:=by have:=hv.1;rw[hg]at this;simp only[Ud,Addr.mk.injEq]at this;exact this.1.symm
       subst an;have F:cells.length=xs.length*sz ty:=b.1;have G:(i+1)*sz ty<=xs.length*sz ty:=UC _ A;rw[VU,YM]at G;have Z:xs.length*sz ty<=cap*sz ty:=UC _ (by omega);have ap:(σ x).cells.toList.length=f.length:=D.length.symm;intro B d;obtain⟨h',r1,r2,r3,r4⟩:=Q8 (P:=P) hi rfl ae (o:=i*sz ty+off) u (by rw[af];omega) h1 B d;refine .inr (.inl ⟨d,h',?_,_,_,_,γ1,H,mU _ _,?_,g1⟩);simp only[execOp,ho];rw[ah];exact kL r1;refine I1.setRow q (g:=g') (by rw[hg];rfl) r4 r3 ?_ (kj hR);have hE:=b.2 i A;rw[aj]at hE;have S:=xq (γ:=γ1) hE;have V:=((S.take off).append ab).append (S.drop (off+f.length));obtain⟨c1,c2,e1,r5,r6⟩:=Jm I1.fz Q V;cases c2 with
       |cons _ _=>exact r6.elim
       |nil=>
        rw[UM]at e1;rw[<-e1]at r5;have O:=b.set A (o:=off) (vs:=(σ x).cells.toList) (by omega) (by rw[ap];exact r5);refine⟨_,⟨?_,.inr ⟨g',cap,_,by simp[hv],ak,r2,am,J,?_,?_⟩⟩,O,by grind,by grind⟩;grind;grind;apply Vd;intro k;have U:(σ x).cells.toList.length=jg P t:=by simpa using u
        rw[UU,<-U];simp only;rw[Qy (L:=cells) (by omega)];have ar:cells=M.toList.take (xs.length*sz ty):=by rw[<-w,m]
        rw[Qy (L:=M.toList) (by grind),ar,m];grind
       exact H.elim
    exact H.elim;exact H.elim
def dy(s:Bt)(p:Nat):Bool:=Nat.blt p s.size
def dE(s:Bt)(p:Nat):Nat:=bif Nat.blt p s.size then p+(YS s p).2 else p
def eA(s:Bt)(p:Nat):Int:=((YS s p).1:Int)
def rz(P:Program)(t:TypeId)(av:AV)(d:Nat)(C R:CS)(K:AV->CS->Option Nat->Prop):Prop:=match av,P.underlying t with
 |.g (.a (.v (.string s))),Td .string=>bif Qb d R then K (.g (.a (.box d 0))) ((d,.box [.d .iter (s,0)])::jb d C) (Td d)else False
 |_,_=>False
theorem Om{x:Operand}(f:o.op=.range t x){K:AV->CS->Option Nat->Prop}(H:rz P t av d C R K)(I:Inv h0 W M0 (C++R) γ h)
  (b:DenV γ av (σ x)):ExA P (execOp σ o) h (fa h0 W M0 R γ K):=by
 unfold rz at H;split at H;rename_i s k;cases hR:Qb d R with
 |false=>simp_all
 |true=>rw[hR]at H;intro B e;refine .inl ⟨.pointer (Td ⟨h.size,0,Te⟩),e,h.push (.stringIter s 0),?_,_,_,_,ga γ d h.size,H,?_,?_,jQ _ _ _⟩;simp only[execOp,f,show σ x=.string s from b];refine eP ?_;have i:=QExec.underlying (h:=h) k B e;unfold YE;rw[Sem.run_bind,i];rfl;simp only[DenV,DenG,DenA,Jn];exact Inv.newBoxO (c:=d) I hR (l:=[.d .iter (s,0)]) (us:=[Zu s 0]) ⟨rfl,trivial⟩ rfl (.inr ⟨s,0,rfl,rfl⟩)
 exact H.elim
def u0(av:AV)(C R:CS)(K:AV->CS->Option Nat->Prop):Prop:=match av with
 |.g (.a (.box c 0))=>match Jl C c with
  |some (.box [.d .iter x])=>bif fH c R then K (.nx (dy x.1 x.2) (x.2:Int) (eA x.1 x.2)) ((c,.box [.d .iter (x.1,dE x.1 x.2)])::dJ c C) Te else False
  |_=>False
 |_=>False
theorem QG{x:Operand}(t:o.op=.next x Ta){K:AV->CS->Option Nat->Prop}(H:u0 av C R K)(I:Inv h0 W M0 (C++R) γ h)
  (E:DenV γ av (σ x)):ExA P (execOp σ o) h (fa h0 W M0 R γ K):=by
 unfold u0 at H;split at H;rename_i c;split at H;rename_i y f;cases hR:fH c R with
 |false=>simp_all
 |true=>
  rw[hR]at H;simp only[zG]at H;obtain⟨us,F,h2⟩:=I.den _ (Un R (qf f));have m:us=[Zu y.1 y.2]:=by
   match us,h2 with
   |[u],h2=>have G:Rd γ.M .iter y [u]:=h2.1;simpa[Rd]using G
  subst m;have b:h[γ.β c]?=Td (.stringIter y.1 y.2):=by
   rcases F with⟨_,e⟩|⟨s,p,D,L⟩;grind;have N:y.1=s/\y.2=p:=by simp only[Zu,Vu,Value.iface.injEq,Value.agg.injEq,Array.mk.injEq,Value.string.injEq,Value.int.injEq,and_true,true_and]at D;exact⟨D.1,by omega⟩
   grind
  have k:γ.β c<h.size:=(Ut.1 b).1;intro B d;have r:∀(w:World),w.heap[γ.β c]?=Td (.stringIter y.1 y.2)->(getObj (γ.β c)).run P w=.ok (.stringIter y.1 y.2) w:=λw e=>by simp[getObj,Sem.run,e]
  have J:∀(w:World) (q:Obj),w.heap[γ.β c]?=Td (.stringIter y.1 y.2)->(setObj (γ.β c) q).run P w=.ok () { w with heap:=w.heap.setIfInBounds (γ.β c) q }:=λw q e=>by simp[setObj,Sem.run,e]
  have z:σ x=.pointer (Td ⟨γ.β c,0,Te⟩):=E;by_cases l:y.2<y.1.size;have n:dy y.1 y.2=Ta:=by simpa[dy,YK]using l
  have A:dE y.1 y.2=y.2+(YS y.1 y.2).2:=by unfold dE;rw[show Nat.blt y.2 y.1.size=Ta from n];rfl
  refine .inl ⟨.tuple #[.bool Ta,.int .i64 y.2,.int .i32 (eA y.1 y.2)],d,h.setIfInBounds (γ.β c) (.stringIter y.1 (dE y.1 y.2)),?_,_,_,_,γ,H,⟨λ_=>rfl,λf=>by simp_all⟩,?_,Gx.refl _ _⟩;simp only[execOp,t,z];refine eP ?_;unfold WS;simp only;rw[Sem.run_bind,r _ b];simp only[Result.andThen_ok,l,if_true];rw[Sem.run_bind,J _ _ b,A];rfl;refine I.setBox (qf f) (us:=[Zu y.1 (dE y.1 y.2)]) (.inr ⟨_,_,rfl,by simp[k]⟩) (λi hi=>by grind) (by simp) ⟨rfl,trivial⟩ (kj hR);have n:dy y.1 y.2=Tc:=by
   cases h:dy y.1 y.2 with
   |false=>rfl
   |true=>exact absurd (by simpa[dy,YK]using h) l
  have A:dE y.1 y.2=y.2:=by unfold dE;rw[show Nat.blt y.2 y.1.size=Tc from n];rfl
  refine .inl ⟨.tuple #[.bool Tc],d,h,?_,_,_,_,γ,H,⟨λf=>(by simp_all),λ_=>rfl⟩,?_,Gx.refl _ _⟩;simp only[execOp,t,z];refine eP ?_;unfold WS;simp only;rw[Sem.run_bind,r _ b];simp;omega;refine I.setBox (qf f) (us:=[Zu y.1 (dE y.1 y.2)]) (.inr ⟨_,_,rfl,by grind⟩) (λi hi=>rfl) rfl ⟨rfl,trivial⟩ (kj hR)
 exact H.elim;exact H.elim
end
section
variable {P:Program} {tr t tx e ty:TypeId} {n d m b:Nat} {C R:CS} {γ:Gh} {h:zb} {s:Sl} {z x u:Value} {xs news:List Value}
variable {h0 : zb} {W : Nat -> Prop} {M0 : Fr}
def lR(cs:CS)(t:Ty):Nat->List AA->Option (List (El t)×List AA)
 |0,l=>Td ([],l)
 |n+1,l=>match collect cs t l with
  |some (y,l')=>match lR cs t n l' with
   |some (ys,l'')=>Td (y::ys,l'')
   |none=>Te
  |none=>Te
theorem zU{γ:Gh}{cs:CS}(c:gj γ cs){t:Ty}:∀{n:Nat} {l b:List AA} {ys:List (El t)},lR cs t n l=Td (ys,b)->∀{us:List Value},All2 (DenA γ) l us->∃c1 c2,us=c1++c2/\RowC γ.M t ys c1/\ys.length=n/\All2 (DenA γ) b c2
 |0,l,b,ys,h,us,hu=>by simp only[lR,Ud,Vg]at h;obtain⟨rfl,rfl⟩:=h;exact⟨[],us,rfl,RowC.nil _ _,rfl,hu⟩
 |n+1,l,b,ys,h,us,hu=>by simp only[lR]at h;split at h;rename_i y q h1;split at h;rename_i e r h2;simp only[Ud,Vg]at h;obtain⟨rfl,rfl⟩:=h;obtain⟨c1,c2,rfl,i,m⟩:=Jm c h1 hu;obtain⟨c3,p,rfl,f,o,k⟩:=zU c h2 m;exact⟨c1++c3,p,by simp,by simpa using (RowC.single i).append f,by simp[o],k⟩;cases h;cases h
def EK(P:Program)(el:TypeId)(k:Nat):Option (List Value):=bif Nat.beq k 0 then Td []else(match zeroOf P el with
 |some z=>Td ((Array.range k).map (z.cells[· % z.cells.size]!)).toList
 |none=>Te)
def oC:List (Nat×AV)->List AV
 |[]=>[]
 |(_,v)::l=>v::oC l
def sH(P:Program)(tr:TypeId)(t:TypeId)(n:Nat)(ps:List (Nat×AV))(d:Nat)(C R:CS)(K:AV->CS->Option Nat->Prop):Prop:=
 match j4 P t with
 |some el=>match md P tr 8 el,EK P el (n*jg P el)with
  |some ty,some zs=>bif Nat.beq (jg P el) (sz ty)then(bif Nat.ble (n*jg P el) 16777216 then(bif Nat.blt 0 (jg P el)then(bif Qb d R then(match jH (λi=>Td (i*jg P el,jg P el)) (zs.map .v) ps with
   |some r=>match lR (frzL (fJ (oC ps)) C++R) ty n r with
    |some (ys,[])=>K (.g (.a (.own d))) ((d,.row el ty ys)::jb d (frzL (fJ (oC ps)) C)) (Td d)
    |_=>False
   |none=>False)else False)else False)else False)else False
  |_,_=>False
 |none=>False
theorem Kp{c:Array (Nat×Operand)}{o:Oper}(ho:o.op=.buildSlice t n c){ps:List (Nat×AV)}{ρ:Operand->Option AV}(J:iI ρ c.toList=Td ps){K:AV->CS->Option Nat->Prop}
  (H:sH P tr t n ps d C R K) {σ:Operand->Value} (I:Inv h0 W M0 (C++R) γ h) (hρ:∀x av,ρ x=Td av->DenV γ av (σ x)):ExA P (execOp σ o) h (fa h0 W M0 R γ K):=by
 unfold sH at H;split at H
 ·rename_i el D;obtain⟨hu,L⟩:=oq D;split at H
  ·rename_i ty w aa f;cases hz:Nat.beq (jg P el) (sz ty)with
   |false=>simp_all
   |true=>
   rw[hz]at H;cases hb1:Nat.ble (n*jg P el) 16777216 with
   |false=>simp_all
   |true=>
   rw[hb1]at H;cases hb2:Nat.blt 0 (jg P el)with
   |false=>simp_all
   |true=>
   rw[hb2]at H;cases hR:Qb d R with
   |false=>simp_all
   |true=>
   rw[hR]at H;simp only[zG]at H;split at H
   ·rename_i r hr;split at H
    ·rename_i ys E;obtain⟨l,Q,s⟩:=Inv.frzL (C:=C) (γ:=γ) (fJ (oC ps)) I;have N:∀x av,ρ x=Td av->DenV l av (σ x):=λx av hx=>(hρ x av hx).gx s rfl;obtain⟨ws,e1,Y⟩:=uE hr (Jp l w) (vh N J);obtain⟨c1,c2,rfl,O,S,Z⟩:=zU Q.fz E Y;cases c2 with
     |cons _ _=>exact Z.elim
     |nil=>
     rw[UM]at *;have F:=Ux hz;have m:0<jg P el:=by simpa[YK]using hb2
     have ab:n*jg P el<=16777216:=VE hb1;have hn:n<=n*jg P el:=Nat.le_mul_of_pos_right _ m;have ae:c1.length=n*jg P el:=by rw[O.1,S,F]
     intro B e;refine .inl ⟨.slice (Td ⟨h.size,0,Te⟩) n n,e,h.push (.cells c1.toArray el),?_,_,_,_,eL l d ⟨Td ⟨h.size,0,Te⟩,n,n⟩,H,?_,?_,?_⟩;have A:=QExec.underlying (h:=h) hu B e;have hs:=QExec.sizeOf (P:=P) (h:=h) (wh L).choose_spec B e;have V:(c.map λx=>(x.1,σ x.2)).toList=c.toList.map λx=>(x.1,σ x.2):=by rw[Array.toList_map]
     have U:Instr.fill (λi=>Td (i*jg P el,jg P el)) w.toArray (c.map λx=>(x.1,σ x.2)).toList=Td c1.toArray:=by rw[V];exact e1
     simp only[execOp,ho];refine eP ?_;unfold Instr.buildSlice;rw[Sem.run_bind,A];simp only[Result.andThen_ok];rw[Sem.run_bind,hs];simp only[Result.andThen_ok];rw[za (by omega)];unfold EK at f;by_cases k:n*jg P el=0;rw[zA k];rw[k]at f ⊢;simp at f;subst f;simp only[Sem.run_bind,Sem.run_pure,Result.andThen_ok];have u:Array.map (λx=>(#[]:Array Value)[x % (#[]:Array Value).size]!) (Array.range 0)=([]:List Value).toArray:=by simp
     rw[u,U];rfl;rw[za k];have y:Nat.beq (n*jg P el) 0=Tc:=by
      cases hh:Nat.beq (n*jg P el) 0 with
      |false=>rfl
      |true=>simp_all
     rw[y]at f;simp only[zH]at f;split at f;rename_i z M;have G:=qR M h B e;simp only[Ud]at f;rw[Sem.run_bind,G];simp only[Result.andThen_ok,Sem.run_bind,Sem.run_pure];have u:Array.map (λx=>z.cells[x % z.cells.size]!) (Array.range (n*jg P el))=w.toArray:=by rw[<-f]
     rw[u,U];rfl;cases f;simp only[DenV,DenG,DenA,yc];rfl;refine Q.newRow hR (by simp) (p:=Te) (λi hi _=>by grind) (λb y=>by cases y) (cells:=c1) ⟨by grind,.inr ⟨h.size,n,c1.toArray,rfl,I.size,yx _ _,Uc _,by unfold maxLen;omega,by simp_all,?_⟩⟩ (λq A=>.inr (by cases A;rfl)) O (by omega) S.symm;grind;exact⟨s.1,λi hi=>⟨((Qc l d _).2 i hi).1.trans (s.2 i (by simp)).1,((Qc l d _).2 i hi).2.trans (s.2 i (by simp)).2⟩⟩
    exact H.elim
   exact H.elim
  exact H.elim
 exact H.elim
theorem Jq{n sz:Nat}{cells:List Value}(k:fD n h s.a cells)(f:cells.length=s.len*sz)(c:0<sz)(B:World)(d:Nat):
  (VY sz s.len (.slice s.a s.len s.cap)).run P (mk B d h)=.ok cells.toArray (mk B d h):=by
 rcases k with rfl|⟨b,o,e,_,l⟩;have h0:s.len=0:=by rcases XI s.len with h0|h0;exact h0;have:=Nat.mul_pos h0 c;grind
 rw[h0];cases s.a with
 |none=>simp[VY]
 |some p=>simp[VY,loadCells,loadCellsFrom]
 rw[e];exact run_firstCells_some (mk B d h) sz s.len ⟨b,o,Te⟩ s.len s.cap cells f λj u i=>by rw[zj];exact l j u i
theorem yH{n sz:Nat}{cells:List Value}(e:fD n h s.a cells)(c:cells.length=s.len*sz)(b:0<sz)(h1:∀u∈cells,u.oneCell'=Ta){tx e':TypeId}(f:P.underlying tx=Td (.slice e'))(B:World)(d:Nat):
  Src P sz tx (aK s) s.len cells (mk B d h):=
 ⟨.inl ⟨e',f⟩,λ_=>rfl,Jq e c b B d,Jq e c b B (d+1),c,h1⟩
theorem Ek{g o:Nat}{b:Array Value}{T:TypeId}(c:h[g]?=Td (.cells b T (0,0))){vs:List Value}(k:o+vs.length<=b.size)(h1:∀u∈vs,u.oneCell'=Ta)(B:World)(d:Nat):
  ∃h',(storeCells ⟨g,o,Te⟩ vs 0).run P (mk B d h)=.ok () (mk B d h')/\h'[g]?=Td (.cells (b.toList.take o++vs++b.toList.drop (o+vs.length)).toArray T (0,0))/\h'.size=h.size/\∀j,j≠g->h'[j]?=h[j]?:=by
 obtain⟨h',l,e,i,f⟩:=Y3 (P:=P) B d vs (o+0) h b c (by omega) h1;grind [vz]
theorem sA{sz bytes:Nat}(T:ElemT P t e z sz bytes){base:Nat}(k:xs.length=s.len*sz)(l:∀B d,(VY sz s.len (aK s)).run P (mk B d h)=.ok xs.toArray (mk B d h))(A:∀B d,Src P sz tx x m news (mk B d h))(b:(s.len+m)*bytes<=140737488355328)(w:s.len+m<=140737488355328)(q:base<=h.size)(C:s.cap<s.len+m)(B:World)(d:Nat):
  ∃c blk,(Ug #[t,tx] ty #[aK s,x]).run P (mk B d h)=.ok (.slice (Td ⟨h.size,0,Te⟩) (s.len+m) c) (mk B (d+1) (h.push (.cells blk e)))/\s.len+m<=c/\c<=maxLen/\blk.size=c*sz/\blk.toList.take ((s.len+m)*sz)=xs++news:=by
 obtain⟨i,hi,D,r,o⟩:=T.info;subst r;subst o;have u:=A B d;have f:=u.newsLen;have y:=run_append_grow_src (P:=P) (mk B d h) t tx ty e i z T.slice hi D s.a s.len s.cap xs (l B (d+1)) x m news u C (by omega) (growslice_fits (by omega) b);have n:=grownCap_ge (mk B d h) (s.len+m) s.cap e;have p:=grownCap_le_maxLen (mk B d h) (s.len+m) s.cap e (by unfold maxLen;omega);generalize grownCap (mk B d h) (s.len+m) s.cap e=c at *;refine⟨c,_,y,n,p,?_,?_⟩;simp only[Array.size_append,List.size_toArray,size_zeroCells,Uf,T.zero,k,f,<-VU];grind;simp only[Array.toList_append];have:(xs++news).length=(s.len+m)*i.size:=by rw[Uf,k,f,VU]
 grind
theorem Wr{sz bytes:Nat}(T:ElemT P t e z sz bytes){h h':zb}{B:World}(c:Src P sz tx x m news (mk B d h))(b:s.len+m<=s.cap)
  (k:∀p,s.a=Td p->(storeCells (p.add (s.len*sz)) news 0).run P (mk B d h)=.ok () (mk B d h')) (f:s.a=Te->h'=h):(Ug #[t,tx] ty #[aK s,x]).run P (mk B d h)=.ok (.slice s.a (s.len+m) s.cap) (mk B d h'):=by
 obtain⟨i,hi,r,o,q⟩:=T.info;subst o;have n:=T.slice;unfold aK;rcases c.kind with⟨e',l⟩|l;cases ha:s.a with
 |none=>rw[f ha];simp[Ug,run_underlying n,run_underlying l,sizeOf,typeInfo,hi,c.len,b,c.cells]
 |some p=>simp[Ug,run_underlying n,run_underlying l,sizeOf,typeInfo,hi,c.len,b,c.cells,k p ha]
 cases ha:s.a with
 |none=>rw[f ha];simp[Ug,run_underlying n,run_underlying l,sizeOf,typeInfo,hi,c.len,b,c.cells]
 |some p=>simp[Ug,run_underlying n,run_underlying l,sizeOf,typeInfo,hi,c.len,b,c.cells,k p ha]
theorem Jr{sz bytes:Nat}(T:ElemT P t e z sz bytes){base:Nat}(H:Owns h base e sz s xs)(Y:∀B d,Src P sz tx x m news (mk B d h)) (l:(s.len+m)*bytes<=140737488355328) (u:s.len+m<=140737488355328) (f:base<=h.size) {K:Value->zb->Prop} (J:∀(D:Sl) (h':zb),D.len=s.len+m->Owns h' base e sz D (xs++news)->(∀i,i<h.size->(∀p,s.a=Td p->i≠p.block)->h'[i]?=h[i]?)->h.size<=h'.size->(∀r,D.a=Td r->(∃p,s.a=Td p/\r.block=p.block)\/r.block=h.size)->K (aK D) h'):
  XRun P (Ug #[t,tx] ty #[aK s,x]) h K:=by
 intro B d;have E:=Y B d;have y:=E.newsLen;have n:=H.1;have w:=H.arr;by_cases b:s.len+m<=s.cap;rcases H.2 with⟨C,aa⟩|⟨g,cap,L,C,N,hg,ab,G,Q,q⟩;simp only[UW]at C;obtain⟨e1,e2,e3⟩:=C;have hm:m=0:=by omega
 subst hm;have Z:news=[]:=UK (by simpa using y);subst Z;have A:=Wr (P:=P) (ty:=ty) T (s:=s) (h':=h) E b (λp hp=>by simp_all) (λ_=>rfl);refine⟨_,d,h,A,J ⟨s.a,s.len+0,s.cap⟩ h rfl ?_ (λ_ _ _=>rfl) (Uc _) (λr k=>by simp_all)⟩;simp;omega;simp only[UW]at C;obtain⟨e1,_,e3⟩:=C;have I:h[g]?=Td (.cells L e (0,0)):=hg;have S:(s.len+m)*sz<=cap*sz:=UC _ (by omega);rw[VU]at S;obtain⟨h',r1,r2,r3,r4⟩:=Ek (P:=P) I (o:=s.len*sz) (vs:=news) (by rw[Q];omega) E.one B d;have A:=Wr (P:=P) (ty:=ty) T (s:=s) (h':=h') E b (λp hp=>by simp_all[zj,UI]) (λZ=>by simp_all);refine⟨_,d,h',A,J ⟨s.a,s.len+m,s.cap⟩ h' rfl ⟨?_,.inr ⟨g,cap,_,?_,N,r2,(by simp_all),G,?_,?_⟩⟩ (λi hi F=>r4 i λe'=>F _ e1 e') (by omega) (λr k=>.inl ⟨r,k,rfl⟩)⟩;grind;grind;grind;simp only;rw[q];have:(xs++news).length=(s.len+m)*sz:=by rw[Uf,n,y,VU]
 grind;obtain⟨c,blk,A,V,O,U,M⟩:=sA (P:=P) (ty:=ty) (base:=base) T n (λB d=>Jq w n T.pos B d) Y l u f (by omega) B d;refine⟨_,d+1,_,A,J ⟨Td ⟨h.size,0,Te⟩,s.len+m,c⟩ _ rfl ⟨?_,.inr ⟨h.size,c,blk,rfl,f,yx _ _,V,O,U,M⟩⟩ (λi hi _=>by grind) (by simp) (λr k=>.inr (by cases k;rfl))⟩;grind
def gK(s:Bt):List Int:=s.data.toList.map λb=>(b.toNat:Int)
def wJ:(ty:Ty)->Bt->Option (List (El ty))
 |.int .u8,s=>Td (gK s)
 |_,_=>Te
def uR(P:Program)(cs:CS)(tx:TypeId)(ty:Ty):AV->Option (List (El ty))
 |.g (.a (.v (.string s)))=>match P.underlying tx with
  |some .string=>wJ ty s
  |_=>Te
 |.g (.a (.v (.slice Te 0 0)))=>match P.underlying tx with
  |some (.slice _)=>Td []
  |_=>Te
 |.g (.a aa)=>match P.underlying tx with
  |some (.slice _)=>match rowOf cs aa with
   |some r=>Ym (.row r.1) (.row ty) r.2
   |none=>match aa with
    |.own c=>match Jl cs c with
     |some (.row _ t xs)=>Ym (.row t) (.row ty) xs
     |_=>Te
    |_=>Te
  |_=>Te
 |_=>Te
theorem RowC.bytes(M:Fr)(s:Bt):RowC M (.int .u8) (gK s) (byteCells s):=by
 have c:(byteCells s).length=(gK s).length:=by unfold byteCells gK;simp
 refine⟨by rw[c];simp[sz],λi hi=>?_⟩;have b:i<(byteCells s).length:=by rw[c];exact hi
 have e:(byteCells s)[i]=.int .u8 (gK s)[i]:=by simp only[byteCells,gK,WE]
 have f:((byteCells s).drop (i*1)).take 1=[(byteCells s)[i]]:=by rw[Vz,UZ b];rfl
 show((byteCells s).drop (i*1)).take 1=[.int .u8 (gK s)[i]];rw[f,e]
theorem Js{t t':Ty}{xs:List (El t)}{ys:List (El t')}(h:Ym (.row t) (.row t') xs=Td ys):∃e:t=t',ys=e ▸ xs:=by unfold Ym at h;grind
theorem N8{cs:CS}(I:Inv h0 W M0 cs γ h){ty:Ty}{av:AV}{ys:List (El ty)}(b:uR P cs tx ty av=Td ys)(o:0<sz ty)(p:DenV γ av u):
  ∃news,RowC γ.M ty ys news/\∀B d,Src P (sz ty) tx u ys.length news (mk B d h):=by
 have row:∀{t:Ty} {xs:List (El t)} {n:Nat} {s:Sl} {cells:List Value} {e':TypeId},Ym (.row t) (.row ty) xs=Td ys->P.underlying tx=Td (.slice e')->u=aK s->s.len=xs.length->RowC γ.M t xs cells->fD n h s.a cells ->
   ∃news,RowC γ.M ty ys news/\∀B d,Src P (sz ty) tx u ys.length news (mk B d h):=by
  intro t xs n s cells e' q i e l m A;obtain⟨z,w⟩:=Js q;subst z;simp only at w;subst w;refine⟨cells,m,λB d=>?_⟩;rw[e,<-l];exact yH A (by rw[l];exact m.1) o m.one i B d
 unfold uR at b;split at b
 ·rename_i s;split at b
  ·rename_i i;unfold wJ at b;split at b;case h_2=>cases b
   simp only[Ud]at b;subst b;refine⟨byteCells s,RowC.bytes _ s,λB d=>?_⟩;rw[show u=.string s from p];have:=Src.ofString (P:=P) (mk B d h) i s;have e:(gK s).length=s.size:=by unfold gK;rw[Um,Array.length_toList];rfl
   rw[e];exact this
  cases b
 split at b;rename_i e' i;simp only[Ud]at b;subst b;refine⟨[],RowC.nil _ _,λB d=>?_⟩;rw[show u=.slice Te 0 0 from p];exact Src.ofNil (mk B d h) i 0;cases b;rename_i C _ _;split at b;rename_i e' i;split at b;rename_i r m;obtain⟨s,e,l,y,cells,f,x⟩:=(mK I m p).rowC I.ag;grind;split at b;rename_i c _ _ _;split at b;rename_i e t xs q;obtain⟨cells,k,f,y,l⟩:=I.den _ (qf q);exact row b i (show u=aK _ from p) l f k.arr;cases b;cases b;cases b;cases b
def r9(P:Program)(el:TypeId)(ty:Ty):Option Nat:=match P.info? el with
 |some i=>match i.zero with
  |some z=>bif (bif Nat.beq i.size (sz ty)then(bif Nat.beq z.cells.size i.size then(bif Nat.blt 0 i.size then Nat.blt 0 i.bytes else Tc)else Tc)else Tc)then Td i.bytes else Te
  |none=>Te
 |none=>Te
theorem Oq{t el:TypeId}{ty:Ty}(e:P.underlying t=Td (.slice el))(h:r9 P el ty=Td b):(∃z,ElemT P t el z (sz ty) b)/\0<b:=by
 unfold r9 at h;split at h
 ·rename_i i hi;split at h
  ·rename_i z k;cases h1:Nat.beq i.size (sz ty)with
   |false=>simp_all
   |true=>
   cases h2:Nat.beq z.cells.size i.size with
   |false=>simp_all
   |true=>
   cases h3:Nat.blt 0 i.size with
   |false=>simp_all
   |true=>
   cases h4:Nat.blt 0 i.bytes with
   |false=>simp_all
   |true=>
   rw[h1,h2,h3,h4]at h;simp only[zG,Ud]at h;have c:=Ux h1;have f:=Ux h2;have l:0<i.size:=by simpa[YK]using h3
   have m:0<i.bytes:=by simpa[YK]using h4
   exact⟨⟨z,e,⟨i,hi,k,c,h⟩,by rw[f,c],by omega⟩,by omega⟩
  cases h
 cases h
def su(P:Program)(tr:TypeId)(t tx:TypeId)(bv f:AV)(d:Nat)(C R:CS)(K:AV->CS->Option Nat->Prop):Prop:=
 match j4 P t with
 |some el=>match md P tr 8 el with
  |some ty=>match r9 P el ty,uR P (C++R) tx ty f with
   |some b,some ys=>match bv with
    |.g (.a (.v (.slice Te 0 0)))=>bif Qb d R then(ys.length*b<=140737488355328/\K (.g (.a (.own d))) ((d,.row el ty ys)::jb d C) (Td d))else False
    |.g (.a (.own c))=>match Jl C c with
     |some (.row e t' xs)=>match Ym (.row t') (.row ty) xs with
      |some xs=>bif Nat.beq e el then(bif Qb d R then((xs.length+ys.length)*b<=140737488355328/\K (.g (.a (.own d))) ((d,.row el ty (xs++ys))::jb d (dJ c C)) (Td d))else False)else False
      |none=>False
     |_=>False
    |.g (.a (.dc t' xs))=>match Ym (.row t') (.row ty) xs with
     |some xs=>(xs.length+ys.length)*b<=140737488355328/\K (.g (.a (.d (.row ty) (xs++ys)))) C Te
     |none=>False
    |_=>False
   |_,_=>False
  |none=>False
 |none=>False
theorem tV{n b k:Nat}(c:0<b)(h:n*b<=k):n<=k:=VB (Nat.le_mul_of_pos_right _ c) h
theorem Mq{tr t tx ty':TypeId}{bv sv:AV}{K:AV->CS->Option Nat->Prop}(H:su P tr t tx bv sv d C R K)(I:Inv h0 W M0 (C++R) γ h)
  {u v:Value} (S:DenV γ bv u) (au:DenV γ sv v):XRun P (Ug #[t,tx] ty' #[u,v]) h (fa h0 W M0 R γ K):=by
 unfold su at H;split at H
 ·rename_i el am;obtain⟨hu,aB⟩:=oq am;split at H
  ·rename_i ty aA;split at H
   ·rename_i b ys r an;obtain⟨⟨z,T⟩,F⟩:=Oq hu r;obtain⟨news,w,D⟩:=N8 I an T.pos au;split at H
    ·cases hR:Qb d R with
     |false=>rw[hR]at H;exact H.elim
     |true=>
     rw[hR]at H;obtain⟨E,V⟩:=H;rw[show u=aK ⟨Te,0,0⟩from S];have L:=tV F E;refine Jr T (Owns.nil h h0.size el (sz ty)) D (by simpa using E) (by simpa using L) I.size λs' h' hl A hk hs N=>?_;rw[UX]at A;simp only[UI]at hl;refine⟨_,_,_,eL γ d s',V,?_,I.newRow hR hs (p:=Te) (λi hi _=>hk i hi (by simp)) (λb r=>by cases r) A (λq hq=>?_) w L hl,Qc _ _ _⟩;simp only[DenV,DenG,DenA,yc];simp_all
    ·rename_i c;split at H
     ·rename_i e t' ax hc;split at H
      ·rename_i xs l;cases hee:Nat.beq e el with
       |false=>rw[hee]at H;exact H.elim
       |true=>
       rw[hee]at H;cases hR:Qb d R with
       |false=>rw[hR]at H;exact H.elim
       |true=>
       rw[hR]at H;obtain⟨E,V⟩:=H;have L:=tV F E;have G:=qf hc;obtain⟨e1,e2⟩:=Js l;subst e1;simp only at e2;subst e2;have e3:=Ux hee;subst e3;have ab:=I.den _ (Un R G);obtain⟨cells,n,f,ai,J⟩:=ab;simp only at n f J;rw[show u=aK (γ.σ c)from S];refine Jr T n D (by grind) (by omega) I.size λs' h' hl A hk hs N=>?_;have Z:=I.sep _ (Un R G);have az:=tO hR;have ap:Inv h0 W M0 (dJ c C++R) γ h:=I.sub ((Zb c C).append_right R);refine⟨_,_,_,eL γ d s',V,?_,ap.newRow hR hs (p:=(γ.σ c).a.map (·.block)) (λi hi Q=>hk i hi λp N e=>Q (by rw[N,e];rfl)) (λb r=>?_) A (λq hq=>?_) (f.append w) (by simp_all) (by simp_all),Qc _ _ _⟩;simp only[DenV,DenG,DenA,yc];obtain⟨h1,h2⟩:=Z b r;refine⟨?_,h2,λx hx ah=>?_⟩;simp only[VN]at r;obtain⟨p,N,rfl⟩:=r;exact(n.base_le p N).1;have aj:x∈C++R:=((Zb c C).append_right R).subset hx;have Q:x≠(c,Ch.row e t' xs):=by rintro rfl;rcases Uv.1 hx with hx|hx;exact(Yx hx).2 rfl;have aH:=I.apart;grind
       have N:=@mo _ (λ(x y:Nat×Ch)=>∀b,blk γ x.1 x.2=Td b->blk γ y.1 y.2≠Td b) (λx y h b r aa=>h b aa r) _ I.apart;exact N aj (Un R G) Q b ah r;grind
      exact H.elim
     exact H.elim
    rename_i t' ax;split at H;rename_i xs l;obtain⟨E,V⟩:=H;have L:=tV F E;obtain⟨e1,e2⟩:=Js l;subst e1;simp only at e2;subst e2;obtain⟨s,e,aI,ae⟩:=(show ∃s:Sl,u=aK s/\s.cap=s.len/\Rd γ.M (.row t') xs [u]from S);subst e;obtain⟨s2,e,J,ai,cells,f,Y⟩:=ae.rowC I.ag;have e':s=s2:=by cases s;cases s2;simp only[aK,UW]at e;simp[e]
    subst e';have O:cells.length=s.len*sz t':=by rw[J];exact f.1
    intro B dr;by_cases hm:ys.length=0;have ar:ys=[]:=UK hm;subst ar;have ay:news=[]:=UK (by rw[w.1];simp);subst ay;have hr:=Wr (P:=P) (ty:=ty') T (s:=s) (h':=h) (D B dr) (by simp;omega) (λp N=>by simp[storeCells]) (λ_=>rfl);refine⟨_,dr,h,hr,_,C,Te,γ,V,?_,I,Gx.refl _ _⟩;rw[UM];exact ae;obtain⟨c,k,hr,aJ,aF,aG,aE⟩:=sA (P:=P) (ty:=ty') (base:=0) T O (λB d=>Jq Y O T.pos B d) D (by grind) (by omega) (UH _) (by omega) B dr;have aC:γ.M h.size=Te:=I.ag.none (Uc _);have hM:Fr.le γ.M (en γ h.size k).M:=by
     intro b cc U;have:Nat.beq b h.size=Tc:=by
      cases r:Nat.beq b h.size with
      |false=>rfl
      |true=>simp_all
     simp[en,this,U]
    have ak:AgM (en γ h.size k).M (h.push (.cells k el)):=by
     intro b cc U;by_cases r:b=h.size;subst r;have:cc=k:=by simp[en]at U;exact U.symm
     simp_all;have:Nat.beq b h.size=Tc:=by
      cases aa:Nat.beq b h.size with
      |false=>rfl
      |true=>simp_all
     simp only[en,this,zH]at U;obtain⟨T',m,e'⟩:=I.ag b cc U;grind
    refine⟨_,dr+1,_,hr,_,C,Te,en γ h.size k,V,?_,I.call (Keep.push h _ (Uc _)) hM (λb r=>?_) ak,⟨hM,λ_ _=>⟨rfl,rfl⟩⟩⟩;have af:=((f.append w).mono hM).rd (b:=h.size) (o:=0) (c:=c) (cs:=k) (by simp[en]) (by simp_all) (by simp_all);rw[Uf,<-J]at af;exact af;grind [Ux];exact H.elim;exact H.elim
   exact H.elim
  exact H.elim
 exact H.elim
end
section
variable {cs C R:CS} {γ b:Gh} {h:zb} {u:Value} {P:Program} {o:Oper} {σ:Operand -> Value} {n:Nat} {gl:Fr} {tr:TypeId} {c:qp} {a:Act} {S:List Nat}
variable {h0 : zb} {W : Nat -> Prop} {M0 : Fr}
def pd(b:List Int):Bt:=b.foldl (λr n=>r.push (UL n.toNat)) ByteArray.empty
def Mc(t:Ty)(xs:List (El t)):Option (List Int):=Ym (.row t) (.row (.int .u8)) xs
def oh(cs:CS):AA->Option ((t:Ty)×List (El t))
 |.own c=>match Jl cs c with
  |some (.row _ t xs)=>Td ⟨t,xs⟩
  |some (.fz t xs)=>Td ⟨t,xs⟩
  |_=>Te
 |aa=>rowOf cs aa
theorem E2(I:Inv h0 W M0 cs γ h){o:AA}{r:(t:Ty)×List (El t)}(b:oh cs o=Td r)(k:DenA γ o u):
  ∃s:Sl,u=aK s/\s.len=r.2.length/\∃cells,RowC γ.M r.1 r.2 cells/\fD h.size h s.a cells:=by
 unfold oh at b;split at b;split at b;rename_i c e t xs m;simp only[Ud]at b;subst b;obtain⟨cells,f,i,n,l⟩:=I.den _ (qf m);exact⟨_,k,l,cells,i,f.arr⟩;rename_i c t xs m;simp only[Ud]at b;subst b;have:Rd γ.M (.row t) xs [u]:=by rw[show u=_ from k];exact I.den _ (qf m)
 obtain⟨s,e,l,n,cells,h1,h2⟩:=this.rowC I.ag;grind;cases b;obtain⟨s,e,l,n,cells,h1,h2⟩:=(mK I b k).rowC I.ag;grind
def sd(P:Program)(s t:TypeId)(av:AV)(cs:CS)(K:AV->Prop):Prop:=
 match P.underlying s,P.underlying t with
 |some (.slice e),Td .string=>match P.underlying e,av with
  |some (.int .u8),.g (.a aa)=>match oh cs aa with
   |some r=>match Mc r.1 r.2 with
    |some b=>K (.g (.a (.v (.string (pd b)))))
    |none=>False
   |none=>False
  |_,_=>False
 |some (.int _),Td .string=>match av with
  |.g (.a (.v (.int _ n)))=>K (.g (.a (.v (.string (YN n)))))
  |_=>False
 |_,_=>False
theorem Mp{M:Fr}{k:IntKind}:∀{b:List Int} {cells:List Value},RowC M (.int k) b cells->cells=b.map (UT k)
 |b,cells,H=>by
  apply Vd;intro i;have c:cells.length=b.length:=by rw[H.1];simp[sz]
  rw[U2];by_cases hi:i<b.length;have:((cells.drop (i*1)).take 1)=[.int k b[i]]:=H.2 i hi;have e:cells[i]?=Td (.int k b[i]):=by
   have h2:((cells.drop (i*1)).take 1)[0]?=Td (.int k b[i]):=by rw[this];rfl
   rw[UU,zA (by omega),Va]at h2;simpa using h2
  simp_all;simp_all
theorem TO{s t:TypeId}{x:Operand}(N:o.op=.convert s t x){av:AV}{K:AV->Prop}(H:sd P s t av cs K)(I:Inv h0 W M0 cs γ h)(G:DenV γ av (σ x)):
  ∃m v,K m/\DenV γ m v/\QExec P (execOp σ o) h (.value v):=by
 have val:∀{v:Value},QExec P (convert s t (σ x)) h v->QExec P (execOp σ o) h (.value v):=λS=>by simp only[execOp,N];exact QExec.val S
 unfold sd at H;split at H;rename_i e C u;split at H;rename_i Y O;split at H;rename_i r U;split at H;rename_i i A;refine⟨_,.string (pd i),H,rfl,val λB d=>?_⟩;obtain⟨sl,F,q,cells,f,l⟩:=E2 I U G;obtain⟨tt,xs⟩:=r;obtain⟨E,L⟩:=Js A;simp only at E;subst E;simp only at L q f;subst L;have Q:=Mp f;subst Q;have h1:=QExec.underlying (h:=h) C B d;have h2:=QExec.underlying (h:=h) u B d;have V:=QExec.underlying (h:=h) O B d;have c:(Conv.bytesToString (σ x)).run P (mk B d h)=.ok (.string (pd i)) (mk B d h):=by
  rw[F];unfold aK;rcases l with y|⟨b,J,w,_,z⟩;have D:i=[]:=by simpa using y
  subst D;simp only[UG]at q;cases ha:sl.a with
  |none=>simp[Conv.bytesToString,pd]
  |some p=>have:=run_bytesToString (P:=P) (mk B d h) p sl.len sl.cap [] (by rw[q];simp[loadCells,loadCellsFrom]);exact this
  rw[w];refine run_bytesToString (mk B d h) ⟨b,J,Te⟩ sl.len sl.cap i ?_;have:=Jq (P:=P) (h:=h) (n:=b+1) (sz:=1) (s:=sl) (cells:=i.map (UT .u8)) (.inr ⟨b,J,w,by omega,z⟩) (by rw[q];simp) (by omega) B d;rw[w]at this;simpa[VY]using this
 unfold convert;rw[Sem.run_bind,h1];simp only[Result.andThen_ok];rw[Sem.run_bind,h2];simp only[Result.andThen_ok];rw[F]at c ⊢;unfold aK at c ⊢;simp_all;exact H.elim;exact H.elim;exact H.elim;rename_i k C u;split at H;rename_i M n;refine⟨_,.string (YN n),H,rfl,val λB d=>?_⟩;have h1:=QExec.underlying (h:=h) C B d;have h2:=QExec.underlying (h:=h) u B d;have e:σ x=.int M n:=G;unfold convert;rw[Sem.run_bind,h1];simp only[Result.andThen_ok];rw[Sem.run_bind,h2,e];rfl;exact H.elim;exact H.elim
def EF:BinOp->Option Bool
 |.eql=>Td Ta
 |.neq=>Td Tc
 |_=>Te
def qH(P:Program)(o:Oper)(ρ:Operand->Option AV)(cs:CS):Option (Bool×Nat):=match o.op with
 |.binOp b t x y _=>match EF b,ρ x,ρ y with
  |some pol,Td (.g (.a aa)),Td (.g (.a (.v (.slice Te 0 0))))=>match oh cs aa,P.underlying t with
   |some ⟨ty,xs⟩,Td (.slice _)=>bif Nat.blt 0 (sz ty)then Td (pol,xs.length)else Te
   |_,_=>Te
  |_,_,_=>Te
 |_=>Te
theorem Tv(e:BinOp)(t:TypeId)(x y:Operand)(a b:Option Addr)(l c f h:Nat)(w:World):(eqGuard e t x y (.slice a l c) (.slice b f h)).run P w=.ok () w:=by unfold eqGuard;simp
theorem Ns{ρ:Operand->Option AV}{i:Bool}(c:qH P o ρ (C++R)=Td (i,n)){K:AV->CS->Option Nat->Prop}(H:∀b:Bool,(b=Ta->n=0)->K (.g (.a (.v (.bool (bif i then b else !b))))) C Te)
  (I:Inv h0 W M0 (C++R) γ h) (w:∀x av,ρ x=Td av->DenV γ av (σ x)):ExA P (execOp σ o) h (fa h0 W M0 R γ K):=by
 unfold qH at c;split at c
 ·rename_i M t x y O A;split at c
  ·rename_i r S f D J;split at c
   ·rename_i ty xs e L q;cases hz:Nat.blt 0 (sz ty)with
    |false=>rw[hz]at c;cases c
    |true=>
     rw[hz]at c;simp only[zG,Ud,Vg]at c;obtain⟨rfl,rfl⟩:=c;have N:0<sz ty:=by simpa[YK]using hz
     obtain⟨s,E,Q,cells,m,k⟩:=E2 I L (w _ _ D);have z:σ y=.slice Te 0 0:=w _ _ J;have l:s.a.isNone=Ta->xs.length=0:=by
      intro u;have p:cells=[]:=by rcases k with p|⟨b,o,F,_⟩;exact p;rw[F]at u;cases u
      have:=m.1;rw[p]at this;simp only[UG]at this;rcases Nat.mul_eq_zero.1 this.symm with h1|h1;exact h1;omega
     have G:=H s.a.isNone l;intro B d;refine .inl ⟨_,d,h,?_,_,C,Te,γ,G,rfl,I,Gx.refl _ _⟩;simp only[execOp,A];refine eP ?_;rw[E,z];simp only[aK];rw[Sem.run_bind,Tv];simp only[Result.andThen_ok];cases M <;> simp only[EF,Ud]at f <;> (try (cases f;done)) <;> subst f;simp only[binOp,Sem.run_bind,run_equal_slice_nil _ t _ _ _ _ q];rfl;simp only[binOp,Sem.run_bind,run_equal_slice_nil _ t _ _ _ _ q];rfl
   cases c
  cases c
 cases c
def jP(P:Program)(gl:Fr)(tr:TypeId)(o:Oper)(ρ:Operand->Option AV)(C R:CS)(K:AV->CS->Option Nat->Prop):Prop:=
 match o.op with
 |.alloc t=>match o.dst with
  |some d=>rH P t d C R K
  |none=>False
 |.box t x=>match o.dst,ρ x with
  |some d,some av=>match lU av with
   |some l=>uF t d l C R K
   |none=>False
  |_,_=>False
 |.store t a x=>match ρ a,ρ x with
  |some (.g (.a aa)),some xv=>match lU xv with
   |some h=>sM P t aa h C R K
   |none=>False
  |_,_=>False
 |.buildSlice t n b=>match o.dst,iI ρ b.toList with
  |some d,some ps=>sH P tr t n ps d C R K
  |_,_=>False
 |.convert s t x=>bif gW P o then qA P gl o ρ Te (C++R) (λav=>K av C Te)else(match ρ x with
  |some av=>sd P s t av (C++R) λe=>K e C Te
  |none=>False)
 |.call c=>match c.callee with
  |.builtin .append=>match c.args.toList,c.argTypes.toList,o.dst with
   |[s,x],[t,tx],some d=>match ρ s,ρ x with
    |some bv,some sv=>su P tr t tx bv sv d C R K
    |_,_=>False
   |_,_,_=>False
  |.builtin _=>qA P gl o ρ Te (C++R) λav=>K av C Te
  |_=>v7 P gl tr o ρ C R λav f=>K av f Te
 |.range t x=>match o.dst,ρ x with
  |some d,some av=>rz P t av d C R K
  |_,_=>False
 |.next x true=>match ρ x with
  |some av=>u0 av C R K
  |none=>False
 |_=>qA P gl o ρ Te (C++R) λav=>K av C Te
theorem toList_eq{α:Type}{x:Array α}{l:List α}(h:x.toList=l):x=l.toArray:=by grind
theorem Sd(k:Fr.le gl M0){ρ:Operand->Option AV}{K:AV->CS->Option Nat->Prop}(H:jP P gl tr o ρ C R K)(I:Inv h0 W M0 (C++R) γ h)
  (G:∀f,σ (.func f)=.func (.func f) #[] #[]) (b:∀x av,ρ x=Td av->DenV γ av (σ x)):ExA P (execOp σ o) h (fa h0 W M0 R γ K):=by
 unfold jP at H;split at H;grind [HQ];grind [LY,tu];rename_i t a x n;split at H;rename_i Q N J u;split at H;rename_i l A;exact Mo n H I (tu A (b _ _ u)) (b _ _ J);exact H.elim;exact H.elim;grind [Kp];rename_i s t x n;cases hq:gW P o with
 |true=>grind [t7]
 |false=>rw[hq]at H;simp only[zH]at H;split at H;rename_i av q;obtain⟨w,v,h1,h2,E⟩:=TO n H I (b _ _ q);exact λB d=>.inl ⟨v,d,h,E B d,w,C,Te,γ,h1,h2,I,Gx.refl _ _⟩;exact H.elim
 rename_i c n;split at H;rename_i L;split at H;rename_i s x t tx d i m M;split at H;rename_i bv O F u;have p:=Mq (ty':=o.type) H I (b _ _ F) (b _ _ u);intro B e;obtain⟨v,D,h',r,z⟩:=p B e;refine .inl ⟨v,D,h',?_,z⟩;have y:execOp σ o=(Ug c.argTypes o.type (c.args.map σ) >>= λx=>(XM (XQ x):Sem Next)):=by simp only[execOp,n,resolve,L];rfl
 rw[y,toList_eq i,toList_eq m];simp_all;exact H.elim;exact H.elim;exact t7 k H I b;exact PS k H I G b;grind [Om];grind [QG];exact t7 k H I b
def hA(P:Program)(gl:Fr)(tr:TypeId)(o:Oper)(ρ:Operand->Option AV)(C R:CS)(K:AV->CS->Option Nat->Prop):Prop:=match qH P o ρ (C++R)with
 |some (pol,n)=>∀b:Bool,(b=Ta->n=0)->K (.g (.a (.v (.bool (bif pol then b else !b))))) C Te
 |none=>jP P gl tr o ρ C R K
theorem HU(i:Fr.le gl M0){ρ:Operand->Option AV}{K:AV->CS->Option Nat->Prop}(H:hA P gl tr o ρ C R K)(I:Inv h0 W M0 (C++R) γ h)
  (k:∀f,σ (.func f)=.func (.func f) #[] #[]) (b:∀x av,ρ x=Td av->DenV γ av (σ x)):ExA P (execOp σ o) h (fa h0 W M0 R γ K):=by
 unfold hA at H;split at H;rename_i c n e;exact Ns e H I b;grind [Sd]
def ov:Option AV->Option AV->Option AV
 |some v,_=>Td v
 |none,w=>w
def uZ(b:Bool)(x y:AV):Option AV:=match kK x,kK y with
 |some u,some v=>Td (jZ (mV b u v))
 |_,_=>match x,y with
  |.g (.a (.d t xs)),.g (.a (.d t' ys))=>match Ym t' t ys with
   |some ys=>Td (.g (.a (.d t (bif b then xs else ys))))
   |none=>Te
  |_,_=>Te
theorem Px{b:Bool}{x y z:AV}(h:uZ b x y=Td z){u v:Value}(f:b=Ta->DenV γ x u)(c:b=Tc->DenV γ y v):DenV γ z (if b=Ta then u else v):=by
 unfold uZ at h;split at h;rename_i p q i l;simp only[Ud]at h;subst h;have e:(if b=Ta then u else v)=mV b p q:=by
  rw[BX];cases b with
  |true=>simp only[if_true];exact uu i (f rfl)
  |false=>simp only[UR,if_false];exact uu l (c rfl)
 rw[e];exact mU γ _;split at h;rename_i t xs t' ys _;split at h;rename_i k m;simp only[Ud]at h;subst h;cases b with
 |true=>exact f rfl
 |false=>exact Wq m (c rfl)
 cases h;cases h
def pJ(e:js)(c:qp)(x a b:Operand)(K:AV->Prop):Prop:=
 match x with
 |.tmp s=>match gH e s with
  |some (cs,v)=>match jX v with
   |some t=>bif fQ cs c then(match ov (eH e c a) (eH e ((s,Ta)::cs) a),ov (eH e c b) (eH e ((s,Tc)::cs) b)with
    |some va,some vb=>match uZ t va vb with
     |some z=>K z
     |none=>False
    |_,_=>False)else False
   |none=>False
  |none=>False
 |_=>False
theorem vc{e:js}{x a b:Operand}{K:AV->Prop}(H:pJ e c x a b K):
  ∃z,K z/\∀(n:Nat) (γ:Gh) (f:Act),SatA n e γ f->valid (qg f) c->∃t,f.eval x=.bool t/\DenV γ z (if t=Ta then f.eval a else f.eval b):=by
 unfold pJ at H;split at H;rename_i s;split at H;rename_i cs v q;split at H;rename_i t r;cases hsf:fQ cs c with
 |false=>simp_all
 |true=>rw[hsf]at H;simp only[zG]at H;split at H;rename_i y A p i;split at H;rename_i z w;refine⟨z,H,λn γ f k u=>?_⟩;have h:=Jc hsf u;have o:qg f s=.bool t:=uO r ((k.all _ (Z6 q)).1 h);refine⟨t,o,Px w (λm=>?_) (λl=>?_)⟩;unfold ov at p;split at p;grind [Ud,Zv];exact Zv k (c:=(s,Ta)::cs) ⟨by rw[o,m],h⟩ p;unfold ov at i;split at i;grind [Ud,Zv];exact Zv k (c:=(s,Tc)::cs) ⟨by rw[o,l],h⟩ i;exact H.elim;exact H.elim
 exact H.elim;exact H.elim;exact H.elim
def kZ(P:Program)(gl:Fr)(tr:TypeId)(o:Oper)(e:js)(c:qp)(C R:CS)(K:AV->CS->Option Nat->Prop):Prop:=
 match o.op with
 |.pick x a b=>pJ e c x a b λav=>K av C Te
 |_=>match kI e c with
  |some none=>hA P gl tr o (eH e c) C R K
  |some (Td b)=>bif mP o then vm P gl tr o (eH e c) b (C++R) (λav=>K av C Te)else qA P gl o (eH e c) (Td b) (C++R) (λav=>K av C Te)
  |none=>False
theorem RU(i:Fr.le gl M0){e:js}{K:AV->CS->Option Nat->Prop}(H:kZ P gl tr o e c C R K)(k:SatA n e γ a)(I:Inv h0 W M0 (C++R) γ h)(l:valid (qg a) c):
  ExA P (execOp a.eval o) h (fa h0 W M0 R γ K):=by
 have G:∀f,a.eval (.func f)=.func (.func f) #[] #[]:=λ_=>rfl;have p:∀x av,eH e c x=Td av->DenV γ av (a.eval x):=λx av D=>Zv k l D;unfold kZ at H;split at H;rename_i x y z s;obtain⟨av,h1,h2⟩:=vc H;obtain⟨t,w,J⟩:=h2 n γ a k l;refine λB d=>.inl ⟨_,d,h,?_,av,C,Te,γ,h1,J,I,Gx.refl _ _⟩;simp only[execOp,s,w,asBool,Sem.run_bind,Sem.run_pure,Result.andThen_ok];split at H;grind [HU];rename_i b A;have m:=Fp k A l;cases hic:mP o with
 |true=>rw[hic]at H;simp only[zG]at H;obtain⟨f,args,h1,h2⟩:=(Bn (h0:=h0) (W:=W) (M0:=M0) H).2 m i γ h a.eval I G p;refine λB d=>.inr (.inr ⟨f,args,h1 _,h2.mono ?_⟩);rintro v h' ⟨av,γ',u,E,L,r,_⟩;exact⟨av,C,Te,γ',u,E,L,r⟩
 |false=>rw[hic]at H;simp only[zH]at H;obtain⟨av,h1,h2⟩:=oy (h0:=h0) (W:=W) (M0:=M0) i H;obtain⟨v,q,F⟩:=h2 m γ h a.eval I p;exact λB d=>.inl ⟨v,d,h,F B d,av,C,Te,γ,h1,q,I,Gx.refl _ _⟩
 exact H.elim
theorem HG{e:js}{K:AV->CS->Option Nat->Prop}(H:kZ P gl tr o e c C R K)(k:SatA n e γ a)(h:¬valid (qg a) c):∃av,K av C Te:=by
 unfold kZ at H;split at H;grind [vc];split at H;grind [yL];rename_i b i;have f:=yL k i h;simp only[Ud]at f;cases hic:mP o with
 |true=>rw[hic]at H;simp only[zG]at H;exact(Bn (h0:=#[]) (W:=λ_=>False) (M0:=λ_=>Te) H).1 f
 |false=>rw[hic]at H;simp only[zH]at H;obtain⟨av,h1,_⟩:=oy (h0:=#[]) (W:=λ_=>False) (M0:=gl) (Fr.le.refl _) H;grind
 exact H.elim
def GxS(S:List Nat)(γ γ':Gh):Prop:=Fr.le γ.M γ'.M/\∀i,i∉S->γ'.β i=γ.β i/\γ'.σ i=γ.σ i
theorem GxS.refl(S:List Nat)(γ:Gh):GxS S γ γ:=⟨Fr.le.refl _,λ_ _=>⟨rfl,rfl⟩⟩
theorem GxS.trans{a b c:Gh}(h:GxS S a b)(k:GxS S b c):GxS S a c:=⟨h.1.trans k.1,λi hi=>⟨(k.2 i hi).1.trans (h.2 i hi).1,(k.2 i hi).2.trans (h.2 i hi).2⟩⟩
theorem GxS.mono{S c:List Nat}{a b:Gh}(h:GxS S a b)(f:∀x∈S,x∈c):GxS c a b:=⟨h.1,λi hi=>h.2 i λe=>hi (f i e)⟩
def pE(c:Option Nat)(d:Option Nat):Bool:=match c,d with
 |none,_=>Ta
 |some x,some y=>Nat.beq x y
 |some _,none=>Tc
theorem Gx.toS{c d:Option Nat}{γ γ':Gh}(g:Gx c γ γ')(h:pE c d=Ta)(b:∀i,d=Td i->i∈S):GxS S γ γ':=by
 refine⟨g.1,λi hi=>g.2 i λe=>?_⟩;subst e;cases d with
 |none=>cases h
 |some y=>have:i=y:=Ux h;simp_all
def jO(P:Program)(gl:Fr)(tr:TypeId)(n:Nat)(ops:Array Oper)(R:CS)(K:js->CS->Prop):List Oper->js->CS->Prop
 |[],e,C=>K (ik e) C
 |o::rest,e,C=>match mR ops e o.guard with
  |some c=>bif xg n c o.dst then kZ P gl tr o e c C R (λav b i=>bif pE i o.dst then jO P gl tr n ops R K rest (nT (pf i e) o.dst c av) b else False)else False
  |none=>False
theorem sK{P:Program}{gl:Fr}(r:Fr.le gl M0){tr:TypeId}{n:Nat}{ops:Array Oper}{R:CS}{K:js->CS->Prop}{Q:Exit->Act->World->Prop}(B:World):
  ∀(l:List Oper) (e:js) (C:CS) (γ:Gh) (h:zb) (a:Act) (d:Nat),jO P gl tr n ops R K l e C->SatA n e γ a->Inv h0 W M0 (C++R) γ h -> (∀e' k γ' a' m h',SatA n e' γ' a'->Inv h0 W M0 (k++R) γ' h'->Same (xx l) a a'->GxS (xx l) γ γ'->K e' k->Q .normal a' (mk B m h'))->wpList P ops Q l a (mk B d h)
 |[],e,C,γ,h,a,d,H,hs,I,hQ=>hQ _ _ _ _ _ _ hs.clean I (Same.refl _ _) (GxS.refl _ _) H
 |o::rest,e,C,γ,h,a,d,H,hs,I,hQ=>by
  unfold jO at H;split at H
  ·rename_i c N;cases hd:xg n c o.dst with
   |false=>simp_all
   |true=>
    rw[hd]at H;simp only[zG]at H;have z:=Bw hs N;have f:∀i,o.dst=Td i->i∈xx (o::rest):=λi hi=>by simp[xx,hi]
    have b:∀x∈xx rest,x∈xx (o::rest):=λx D=>by unfold xx;grind
    have q:∀av u m h' k i γ',(valid (qg a) c->DenV γ' av u)->(¬valid (qg a) c->u=undef)->Inv h0 W M0 (k++R) γ' h'->Gx i γ γ'->(bif pE i o.dst then jO P gl tr n ops R K rest (nT (pf i e) o.dst c av) k else False) ->
      wpList P ops Q rest (a.put o.dst u) (mk B m h'):=λav u m h' k i γ' h1 h2 F g A=>by
     cases hid:pE i o.dst with
     |false=>simp_all
     |true=>
      rw[hid]at A;exact sK r B rest _ _ _ _ _ _ A ((hs.gx g).putO hd h1 h2) F λe' s y a' w h'' E O J M L=>
       hQ e' s y a' w h'' E O ((Same.put a o.dst u f).trans (J.mono b)) ((g.toS hid f).trans (M.mono b)) L
    unfold wpList;by_cases p:valid (qg a) c;rw[zA (z.2 p)];refine .inl ((RU r H hs I p).upon B d ?_);rintro v m h' ⟨av,k,i,γ',Y,U,S,V⟩;grind;rw[za (λD=>p (z.1 D))];obtain⟨av,G⟩:=HG H hs p;exact q av undef d h C Te γ (λt=>absurd t p) (λ_=>rfl) I (Gx.refl _ _) G
  exact H.elim
end
section
variable {cs C R:CS} {γ:Gh} {h:zb} {i:Nat} {e:TypeId} {t:Ty}
variable {h0 : zb} {W : Nat -> Prop} {M0 : Fr}
inductive Shp where
 |dat (t:Ty)
 |own (e:TypeId) (t:Ty)
 deriving DecidableEq
@[reducible] def DS:Shp->Type
 |.dat t=>El t
 |.own _ t=>List (El t)
inductive SG where
 |one (s:Shp)
 |agg (l:List Shp)
structure AnnA where
 slots:List (Nat×SG)
 boxes:List (Nat×List Shp)
 ro:List Nat
 ids:List Nat
abbrev Dy:=(s:Shp)×DS s
@[reducible] def fe:List Shp->Type->Type
 |[],X=>X
 |s::l,X=>DS s->fe l X
def vg(s b:Shp)(x:DS s):Option (DS b):=if h:s=b then Td (h ▸ x)else Te
def kW{X:Type}:(l:List Shp)->fe l X->(List Dy->X->Prop)->Prop
 |[],f,k=>k [] f
 |s::l,f,k=>∀x:DS s,kW l (f x) λvs y=>k (⟨s,x⟩::vs) y
def fC{X:Type}:(l:List Shp)->List Dy->fe l X->Option X
 |[],[],f=>Td f
 |s::l,d::ds,f=>match vg d.1 s d.2 with
  |some x=>fC l ds (f x)
  |none=>Te
 |_,_,_=>Te
def l3{X:Type}:(l:List Shp)->(List Dy->X)->fe l X
 |[],f=>f []
 |s::l,f=>λx=>l3 l λvs=>f (⟨s,x⟩::vs)
def m4{X Y:Type}:(l:List Shp)->fe l X->fe l Y->fe l (X×Y)
 |[],f,g=>(f,g)
 |_::l,f,g=>λx=>m4 l (f x) (g x)
theorem Bj{s b:Shp}{x:DS s}{y:DS b}(h:vg s b x=Td y):(⟨b,y⟩:Dy)=⟨s,x⟩:=by unfold vg at h;grind
theorem y6{X:Type}:∀{l:List Shp} {vs:List Dy} {f:fe l X} {x:X} {k:List Dy->X->Prop},fC l vs f=Td x->kW l f k->k vs x
 |[],[],f,x,k,h,g=>by have h:=UO h;subst h;exact g
 |[],_::_,f,x,k,h,g=>by simp[fC]at h
 |_::_,[],f,x,k,h,g=>by simp[fC]at h
 |s::l,d::ds,f,x,k,h,g=>by simp only[fC]at h;split at h;rename_i y b;have:=y6 h (g y);grind [Bj];cases h
theorem A5{X:Type}:∀{l:List Shp} {vs:List Dy} {f:List Dy->X} {x:X},fC l vs (l3 l f)=Td x->x=f vs
 |[],[],f,x,h=>(UO h).symm
 |[],_::_,f,x,h=>by simp[fC]at h
 |_::_,[],f,x,h=>by simp[fC]at h
 |s::l,d::ds,f,x,h=>by simp only[fC,l3]at h;split at h;rename_i y b;have:=A5 h;grind [Bj];cases h
theorem E3{X:Type}:∀{l:List Shp} {f:List Dy->X} {k:List Dy->X->Prop},(∀vs,k vs (f vs))->kW l (l3 l f) k
 |[],_,_,h=>h []
 |_::_,_,_,h=>λ_=>E3 λ_=>h _
structure Pl where
 id:Nat
 s:Shp
 a:AA
def hO(base:Nat):List Shp->List AA->Option (List Pl)
 |[],[]=>Td []
 |s::ss,a::as1=>match hO (base+1) ss as1 with
  |some l=>Td (⟨base,s,a⟩::l)
  |none=>Te
 |_,_=>Te
def mY(e:js):List (Nat×SG)->Option (List Pl)
 |[]=>Td []
 |(i,sg)::l=>match gH e i,mY e l with
  |some ([],.g x),some r=>match sg,x with
   |.one s,.a a=>Td (⟨100000+64*i,s,a⟩::r)
   |.agg ss,.agg as1=>match hO (100000+64*i) ss as1 with
    |some q=>Td (q++r)
    |none=>Te
   |_,_=>Te
  |_,_=>Te
def l5(C:CS):List (Nat×List Shp)->Option (List Pl)
 |[]=>Td []
 |(c,ss)::l=>match Jl C c,l5 C l with
  |some (.box as1),some r=>match hO (1000000+64*c) ss as1 with
   |some q=>Td (q++r)
   |none=>Te
  |_,_=>Te
def Ro:SG->List Shp
 |.one s=>[s]
 |.agg l=>l
def BO:List (Nat×SG)->List Shp
 |[]=>[]
 |(_,sg)::l=>Ro sg++BO l
def BR:List (Nat×List Shp)->List Shp
 |[]=>[]
 |(_,ss)::l=>ss++BR l
def eI(J:AnnA):List Shp:=BO J.slots++BR J.boxes
def jY:List Pl->List Nat
 |[]=>[]
 |⟨_,.dat _,.own c⟩::l=>c::jY l
 |_::l=>jY l
def mS(c:Nat):List Pl->Bool
 |[]=>Tc
 |p::l=>bif (bif Nat.beq p.id c then Ta else ij c p.a)then Ta else mS c l
def gT(R:CS):List Pl->CS->Option CS
 |[],C=>Td C
 |p::l,C=>match p.s with
  |.dat _=>gT R l C
  |.own e t=>bif mS p.id l then Te else(match p.a with
   |.own c=>match Jl C c with
    |some (.row e' t' xs)=>match Ym (.row t') (.row t) xs with
     |some ys=>bif Nat.beq e e' then(bif Nat.beq c p.id then gT R l C else(bif Qb p.id R then gT R l ((p.id,.row e t ys)::jb p.id (dJ c C))else Te))else Te
     |none=>Te
    |_=>Te
   |.v (.slice Te 0 0)=>bif Qb p.id R then gT R l ((p.id,.row e t [])::jb p.id C)else Te
   |_=>Te)
theorem xK(I:Inv h0 W M0 cs γ h){x y:Nat×Ch}(k:x∈cs)(f:y∈cs)(e:x≠y):∀b,blk γ x.1 x.2=Td b->blk γ y.1 y.2≠Td b:= @mo _ (λ(x y:Nat×Ch)=>∀b,blk γ x.1 x.2=Td b->blk γ y.1 y.2≠Td b) (λx y h b i c=>h b c i) _ I.apart _ _ k f e
theorem Inv.rename(I:Inv h0 W M0 (C++R) γ h){c i:Nat}(p:Qb i R=Ta){xs:List (El t)}(z:(c,Ch.row e t xs)∈C):
  Inv h0 W M0 ((i,.row e t xs)::jb i (dJ c C)++R) (eL γ i (γ.σ c)) h:=by
 have f:(jb i (dJ c C)++R).Sublist (C++R):=(((wu i _).trans (Zb c C))).append_right R;have k:(c,Ch.row e t xs)∈C++R:=Un R z;have r:∀x∈jb i (dJ c C)++R,∀b,blk γ c (.row e t xs)=Td b->blk γ x.1 x.2≠Td b:=by
  intro x l b m o;have n:x≠(c,Ch.row e t xs):=by rintro rfl;rcases Uv.1 l with l|l;exact(Yx ((wu i _).subset l)).2 rfl;have u:=I.apart;grind
  exact xK I (f.subset l) k n b o m
 have w:Inv h0 W M0 (jb i (dJ c C)++R) (eL γ i (γ.σ c)) h:= I.rest f (Qc γ i _) (iF p) (λx l b m=>⟨rfl,(I.sep x (f.subset l) b m).2⟩) I.ag (λ_ _ _=>rfl) (Uc _) (λ_ _=>rfl);obtain⟨cells,h1,h2,y,q⟩:=I.den _ k;have s:∀b,blk (eL γ i (γ.σ c)) i (.row e t xs)=Td b->blk γ c (.row e t xs)=Td b:=λb m=>by simpa[blk,yc]using m
 refine w.cons ⟨cells,by rw[yc];exact h1,h2,y,by rw[yc];exact q⟩ (λb m=>I.sep _ k b (s b m)) (λb m x l e'=>?_);rw[ke (Qc γ i _) _ (iF p x l).1]at e';simp_all
theorem Inv.nilRow(I:Inv h0 W M0 (C++R) γ h)(l:Qb i R=Ta)(e:TypeId)(t:Ty):
  Inv h0 W M0 ((i,.row e t [])::jb i C++R) (eL γ i ⟨Te,0,0⟩) h:=by
 have c:=(wu i C).append_right R;have k:Inv h0 W M0 (jb i C++R) (eL γ i ⟨Te,0,0⟩) h:= I.rest c (Qc γ i _) (iF l) (λx m b f=>⟨rfl,(I.sep x (c.subset m) b f).2⟩) I.ag (λ_ _ _=>rfl) (Uc _) (λ_ _=>rfl);refine k.cons ⟨[],by rw[yc];exact Owns.nil _ _ _ _,RowC.nil _ _,by simp,by rw[yc];rfl⟩ (λb f=>by simp[blk,yc]at f) (λb f=>by simp[blk,yc]at f)
theorem BZ{c:Nat}:∀{l:List Pl},mS c l=Tc->∀p∈l,p.id≠c/\ij c p.a=Tc
 |[],_,p,b=>by cases b
 |q::l,h,p,b=>by
  simp only[mS]at h;cases hq:(bif Nat.beq q.id c then Ta else ij c q.a)with
  |true=>simp_all
  |false=>
   rw[hq]at h;rcases Uj.1 b with rfl|b;cases hb:Nat.beq p.id c with
   |true=>simp_all
   |false=>rw[hb]at hq;exact⟨λe=>by simp_all,hq⟩
   exact BZ h p b
def ff:List Pl->List Nat
 |[]=>[]
 |p::l=>p.id::ff l
theorem vG{R:CS}{h:zb}:∀{l:List Pl} {C r:CS} {γ:Gh},gT R l C=Td r->Inv h0 W M0 (C++R) γ h ->
  ∃f,Inv h0 W M0 (r++R) f h/\GxS (ff l) γ f/\(f.M=γ.M/\f.β=γ.β)/\∀p∈l,∀e t,p.s=.own e t->∀u,DenA γ p.a u->DenA f (.own p.id) u
 |[],C,r,γ,hn,I=>by simp only[gT,Ud]at hn;grind [GxS.refl]
 |p::l,C,r,γ,hn,I=>by
  have P:∀{S:List Nat} {a b:Gh},GxS (ff l) a b->GxS (ff (p::l)) a b:=λg=>g.mono λx hx=>Uo _ hx;have k:∀s,GxS (ff (p::l)) γ (eL γ p.id s):=λs=>⟨Fr.le.refl _,λi hi=>(Qc γ p.id s).2 i (by simp only[ff,Uj,not_or]at hi;grind)⟩;simp only[gT]at hn;split at hn;rename_i t hs;obtain⟨f,H,B,D,h1⟩:=vG hn I;exact⟨f,H,P (S:=[]) B,D,λq z e t' A=>by grind⟩
  ·rename_i e t hs;cases hm:mS p.id l with
   |true=>simp_all
   |false=>
    rw[hm]at hn;simp only[zH]at hn;have w:=BZ hm;have fin:∀{G:CS} {m:Gh},gT R l G=Td r->Inv h0 W M0 (G++R) m h->GxS (ff (p::l)) γ m->(m.M=γ.M/\m.β=γ.β)->(∀i,i≠p.id->m.σ i=γ.σ i/\m.β i=γ.β i)->(∀u,DenA γ p.a u->DenA m (.own p.id) u) ->
      ∃f,Inv h0 W M0 (r++R) f h/\GxS (ff (p::l)) γ f/\(f.M=γ.M/\f.β=γ.β)/\∀q∈p::l,∀e t,q.s=.own e t->∀u,DenA γ q.a u->DenA f (.own q.id) u:=by
     intro G m J Y V F L E;obtain⟨f,H,B,D,h1⟩:=vG J Y;refine⟨f,H,V.trans (P (S:=[]) B),⟨D.1.trans F.1,D.2.trans F.2⟩,λq z e' t' A u n=>?_⟩;rcases Uj.1 z with rfl|z;have h2:=E u n;have N:q.id∉ff l:=by
      intro hi;have:∀{l:List Pl},q.id∈ff l->∃p∈l,p.id=q.id:=by
       intro l;induction l with
       |nil=>intro h;cases h
       |cons x l ih=>intro h;simp only[ff,Uj]at h;grind
      obtain⟨y,Z,e⟩:=this hi;exact(w y Z).1 e
     rw[show u=_ from h2];simp only[DenA,(B.2 _ N).2];refine h1 q z e' t' A u ?_;have gx:Gx (Td p.id) γ m:=⟨by rw[F.1];exact Fr.le.refl _,λi hi=>by grind⟩;exact n.gx gx (w q z).2
    split at hn;rename_i c O;split at hn;rename_i e' t' xs hc;split at hn;rename_i ys o;obtain⟨e1,Q⟩:=Js o;subst e1;simp only at Q;subst Q;cases hee:Nat.beq e e' with
    |false=>simp_all
    |true=>
     rw[hee]at hn;have:=Ux hee;subst this;simp only[zG]at hn;cases hci:Nat.beq c p.id with
     |true=>rw[hci]at hn;simp only[zG]at hn;have U:=Ux hci;exact fin hn I (GxS.refl _ _) ⟨rfl,rfl⟩ (λ_ _=>⟨rfl,rfl⟩) (λu n=>by simp_all)
     |false=>
      rw[hci]at hn;simp only[zH]at hn;cases hR:Qb p.id R with
      |false=>simp_all
      |true=>rw[hR]at hn;simp only[zG]at hn;refine fin hn (I.rename hR (qf hc)) (k _) ⟨rfl,rfl⟩ (λi hi=>?_) (λu n=>?_);have:=(Qc γ p.id (γ.σ c)).2 i (by grind);simp_all;rw[O]at n;rw[show u=_ from n];simp only[DenA,yc]
    cases hn;cases hn;rename_i O;cases hR:Qb p.id R with
    |false=>simp_all
    |true=>rw[hR]at hn;simp only[zG]at hn;refine fin hn (I.nilRow hR e t) (k _) ⟨rfl,rfl⟩ (λi hi=>?_) (λu n=>?_);have:=(Qc γ p.id ⟨Te,0,0⟩).2 i (by grind);simp_all;rw[O]at n;rw[show u=_ from n];simp only[DenA,yc];rfl
    cases hn
def EE(b cs:CS)(p:Pl):Option Dy:=match p.s with
 |.dat t=>match gp b t p.a with
  |some x=>Td ⟨.dat t,x⟩
  |none=>Te
 |.own e t=>match Jl cs p.id with
  |some (.row e' t' xs)=>match Ym (.row t') (.row t) xs with
   |some ys=>bif Nat.beq e e' then Td ⟨.own e t,ys⟩else Te
   |none=>Te
  |_=>Te
def fb(b cs:CS):List Pl->Option (List Dy)
 |[]=>Td []
 |p::l=>match EE b cs p,fb b cs l with
  |some d,some v=>Td (d::v)
  |_,_=>Te
def o1(i:Nat):Dy->AA
 |⟨.dat t,x⟩=>match Jk t x with
  |[a]=>a
  |_=>.v undef
 |⟨.own _ _,_⟩=>.own i
def pN:Nat->List Dy->List AA
 |_,[]=>[]
 |i,d::l=>o1 i d::pN (i+1) l
def jJ(i:Nat):Dy->CS
 |⟨.own e t,xs⟩=>[(i,.row e t xs)]
 |_=>[]
def jB:Nat->List Dy->CS
 |_,[]=>[]
 |i,d::l=>jJ i d++jB (i+1) l
theorem Dd{x:El t}{u:Value}(h:Rd γ.M t x [u]):DenA γ (o1 i ⟨.dat t,x⟩) u:=by
 have b:=xq (γ:=γ) h;unfold o1
 match hx:Jk t x,b with
 |[a],b=>simp only[hx];exact b.1
 |[],b=>exact b.elim
 |_::_::_,b=>exact b.2.elim
theorem Ru{t':Ty}{xs:List (El t')}{ys:List (El t)}(h:Ym (.row t') (.row t) xs=Td ys):Ch.row e t' xs=Ch.row e t ys:=by grind [Js]
theorem AW{b cs:CS}{p:Pl}{l:List Pl}{v:List Dy}(h:fb b cs (p::l)=Td v):∃d w,v=d::w/\fb b cs l=Td w /\
  ((∃t x,p.s=.dat t/\d=⟨.dat t,x⟩/\gp b t p.a=Td x)\/(∃e t xs,p.s=.own e t/\d=⟨.own e t,xs⟩/\(p.id,Ch.row e t xs)∈cs)):=by
 simp only[fb]at h;split at h;rename_i d w h1 h2;have h:=UO h;refine⟨d,w,h.symm,h2,?_⟩;unfold EE at h1;split at h1;grind;rename_i e t c;split at h1;rename_i e' t' xs f;split at h1;rename_i ys i;cases he:Nat.beq e e' with
 |false=>simp_all
 |true=>rw[he]at h1;refine .inr ⟨e,t,ys,c,(UO (show Td (⟨.own e t,ys⟩:Dy)=Td d from h1)).symm,?_⟩;grind [qf,Ru,Ux]
 cases h1;cases h1;cases h
theorem Ws{b cs:CS}:∀{q r:List Pl} {v:List Dy},fb b cs (q++r)=Td v->∃c e,v=c++e/\c.length=q.length/\fb b cs q=Td c/\fb b cs r=Td e
 |[],r,v,h=>⟨[],v,rfl,rfl,rfl,h⟩
 |p::q,r,v,h=>by simp only[UF,fb]at h;split at h;rename_i d w h1 h2;have h:=UO h;obtain⟨c,e,rfl,f,k,i⟩:=Ws h2;exact⟨d::c,e,by rw[<-h];rfl,by simp[f],by simp only[fb,h1,k],i⟩;cases h
theorem CK{base:Nat}:∀{ss:List Shp} {b:List AA} {l:List Pl},hO base ss b=Td l->l.length=ss.length/\∀{γ m:Gh} {c f:CS} {v:List Dy} {us:List Value},gj γ c->m.M=γ.M->fb c f l=Td v ->
   (∀p∈l,∀e t,p.s=.own e t->∀u,DenA γ p.a u->DenA m (.own p.id) u)->All2 (DenA γ) b us->All2 (DenA m) (pN base v) us/\∀x∈jB base v,x∈f:=by
 intro ss;induction ss generalizing base with
 |nil=>
  intro b l h;cases b with
  |nil=>
   simp only[hO,Ud]at h;subst h;refine⟨rfl,λo n k q i=>?_⟩;have k:=UO k;subst k;refine⟨?_,λx G=>by cases G⟩;rename_i us;cases us with
   |nil=>trivial
   |cons _ _=>exact i.elim
  |cons a b=>simp[hO]at h
 |cons s ss z=>
  intro b l h;cases b with
  |nil=>simp[hO]at h
  |cons a b=>
   simp only[hO]at h;split at h;rename_i L E;simp only[Ud]at h;subst h;obtain⟨H,z⟩:=z E;refine⟨by simp[H],λ {γ m c f v us} o n k q i=>?_⟩;obtain⟨d,w,rfl,h2,F⟩:=AW k;cases us with
   |nil=>exact i.elim
   |cons u us=>obtain⟨B,C⟩:=z o n h2 (λp D=>q p (Uo _ D)) i.2;rcases F with⟨t,x,A,rfl,I⟩|⟨e,t,xs,A,rfl,J⟩;have:=wa o I i.1;rw[<-n]at this;refine⟨⟨Dd this,B⟩,λy r=>C y ?_⟩;simpa[jB,jJ]using r;refine⟨⟨q _ Uu e t A u i.1,B⟩,λy r=>?_⟩;simp only[jB,jJ,UF,UX,Uj]at r;grind
   cases h
def iY:List (Nat×SG)->List Dy->js
 |[],_=>[]
 |(i,.one _)::l,d::ds=>(i,[],.g (.a (o1 (100000+64*i) d)))::iY l ds
 |(_,.one _)::_,[]=>[]
 |(i,.agg ss)::l,ds=>(i,[],.g (.agg (pN (100000+64*i) (ds.take ss.length))))::iY l (ds.drop ss.length)
def Wt:List (Nat×SG)->List Dy->CS
 |[],_=>[]
 |(i,.one _)::l,d::ds=>jJ (100000+64*i) d++Wt l ds
 |(_,.one _)::_,[]=>[]
 |(i,.agg ss)::l,ds=>jB (100000+64*i) (ds.take ss.length)++Wt l (ds.drop ss.length)
def pz:List (Nat×List Shp)->List Dy->CS
 |[],_=>[]
 |(c,ss)::l,ds=>(c,.box (pN (1000000+64*c) (ds.take ss.length)))::(jB (1000000+64*c) (ds.take ss.length)++pz l (ds.drop ss.length))
def i3:List (Nat×SG)->Nat
 |[]=>0
 |(_,.one _)::l=>1+i3 l
 |(_,.agg ss)::l=>ss.length+i3 l
def iy(J:AnnA)(b:List Dy):js:=iY J.slots b
def g6(J:AnnA)(b:List Dy):CS:=Wt J.slots b++pz J.boxes (b.drop (i3 J.slots))
theorem Wu{e:js}{n:Nat}{a:Act}:∀{ss:List (Nat×SG)} {l:List Pl},mY e ss=Td l->l.length=i3 ss/\∀{γ B:Gh} {f k:CS} {v w:List Dy},SatA n e γ a->gj γ f->B.M=γ.M->fb f k l=Td v ->
   (∀p∈l,∀e t,p.s=.own e t->∀u,DenA γ p.a u->DenA B (.own p.id) u)->(∀x∈iY ss (v++w),hG B (qg a) x)/\∀x∈Wt ss (v++w),x∈k
 |[],l,h=>by simp only[mY,Ud]at h;subst h;refine⟨rfl,λ_ _ _ m _=>?_⟩;have m:=UO m;subst m;exact⟨λx N=>(by cases N),λx N=>(by cases N)⟩
 |(i,sg)::ss,l,h=>by
  simp only[mY]at h;split at h;rename_i x r S U;split at h;rename_i s aa;simp only[Ud]at h;subst h;obtain⟨O,P⟩:=Wu (n:=n) (a:=a) U;refine⟨by simp[O,i3];omega,λ {γ B f k v w} F D A m E=>?_⟩;obtain⟨d,v',rfl,h2,h3⟩:=AW m;obtain⟨i1,Q⟩:=P (w:=w) F D A h2 (λp o=>E p (Uo _ o));have c:DenA γ aa (qg a i):=(F.all _ (Z6 S)).1 trivial;rcases h3 with⟨t,x,z,rfl,hc⟩|⟨e',t,xs,z,rfl,hm⟩;have:=wa D hc c;rw[<-A]at this;refine⟨λy b=>?_,λy b=>?_⟩;simp only[UF,iY,Uj]at b;rcases b with rfl|b;exact⟨λ_=>Dd this,λG=>absurd trivial G⟩;grind;simp only[UF,Wt,jJ,UX]at b;exact Q y b;refine⟨λy b=>?_,λy b=>?_⟩;simp only[UF,iY,Uj]at b;rcases b with rfl|b;exact⟨λ_=>E _ Uu e' t z _ c,λG=>absurd trivial G⟩;grind;simp only[UF,Wt,jJ,UX,Uj]at b;grind;rename_i C H;split at h;rename_i q Z;simp only[Ud]at h;subst h;obtain⟨O,P⟩:=Wu (n:=n) (a:=a) U;obtain⟨J,o⟩:=CK Z;refine⟨by simp[O,J,i3],λ {γ B f k v w} F D A m E=>?_⟩;obtain⟨I,L,rfl,Y,d1,d2⟩:=Ws m;obtain⟨i1,Q⟩:=P (w:=w) F D A d2 (λp o=>E p (Uw _ o));obtain⟨us,hu,c⟩:=(show ∃us,qg a i=.agg us.toArray/\All2 (DenA γ) H us from(F.all _ (Z6 S)).1 trivial);obtain⟨p1,p2⟩:=o D A d1 (λp o=>E p (Un _ o)) c;have et:(I++L++w).take C.length=I:=by rw[<-J,<-Y,UB,YH]
  have V:(I++L++w).drop C.length=L++w:=by rw[<-J,<-Y,UB,YF]
  refine⟨λy b=>?_,λy b=>?_⟩;simp only[iY,et,V,Uj]at b;rcases b with rfl|b;exact⟨λ_=>⟨us,hu,p1⟩,λG=>absurd trivial G⟩;grind;simp only[Wt,et,V,Uv]at b;grind;cases h;cases h;cases h
theorem AB{z:CS}:∀{bs:List (Nat×List Shp)} {l:List Pl},l5 z bs=Td l->∀{R:CS} {γ n:Gh} {i k:CS} {v:List Dy} {h:zb},Inv h0 W M0 (z++R) γ h->gj γ i->n.M=γ.M->n.β=γ.β->fb i k l=Td v -> (∀p∈l,∀e t,p.s=.own e t->∀u,DenA γ p.a u->DenA n (.own p.id) u) ->
   ∀x∈pz bs v,x∈k\/(DenC h0.size n h x.1 x.2/\(∃f,(x.1,Ch.box f)∈z)/\(∃f,x.2=Ch.box f)/\∃ss,(x.1,ss)∈bs)
 |[],l,b,R,γ,n,i,k,v,h,I,hf,hM,hβ,hd,ho,x,m=>by cases m
 |(c,ss)::bs,l,b,R,γ,n,i,k,v,h,I,hf,hM,hβ,hd,ho,x,m=>by
  simp only[l5]at b;split at b;rename_i f r D H;split at b;rename_i q E;simp only[Ud]at b;subst b;obtain⟨B,w⟩:=CK E;obtain⟨y,A,rfl,C,F,d2⟩:=Ws hd;obtain⟨us,P,o⟩:=I.den _ (Un R (qf D));obtain⟨G,N⟩:=w hf hM F (λp b=>ho p (Un _ b)) o;have et:(y++A).take ss.length=y:=by rw[<-B,<-C,YH]
  have J:(y++A).drop ss.length=A:=by rw[<-B,<-C,YF]
  simp only[pz,et,J,Uj,Uv]at m;rcases m with rfl|m|m;exact .inr ⟨⟨us,by grind,G⟩,⟨f,qf D⟩,⟨_,rfl⟩,ss,Uu⟩;simp_all;rcases AB H I hf hM hβ d2 (λp b=>ho p (Uw _ b)) x m with h1|⟨h1,h2,Q,L,O⟩;grind;grind;cases b;cases b
def lI(C:CS):List (Nat×List Shp)->Bool
 |[]=>Ta
 |(c,_)::l=>match Jl C c with
  |some (.box _)=>lI C l
  |_=>Tc
theorem zS{C:CS}:∀{l:List (Nat×List Shp)},lI C l=Ta->∀c ss,(c,ss)∈l->∃b,(c,Ch.box b)∈C
 |[],_,c,ss,h=>by cases h
 |(c',ss')::l,hb,c,ss,h=>by simp only[lI]at hb;split at hb;rename_i b e;rcases Uj.1 h with h|h;grind [qf];exact zS hb c ss h;cases hb
def ko:CS->Bool
 |[]=>Ta
 |(c,_)::l=>bif fH c l then ko l else Tc
theorem Di:∀{l:CS},ko l=Ta->l.Pairwise λx y=>x.1≠y.1
 |[],_=>.nil
 |(c,k)::l,h=>by
  simp only[ko]at h;cases hn:fH c l with
  |false=>simp_all
  |true=>rw[hn]at h;exact Vn.2 ⟨λy b e=>kj hn y b e.symm,Di h⟩
def allIn(S:List Nat):List Nat->Bool
 |[]=>Ta
 |i::l=>bif Xr S i then allIn S l else Tc
theorem I6{l:List Nat}(h:Xr l i=Ta):i∈l:=by
 induction l with
 |nil=>cases h
 |cons j l b=>simp only[Xr]at h;grind [Ux,Uu,Uo]
theorem Dk{S:List Nat}:∀{l:List Nat},allIn S l=Ta->∀i∈l,i∈S
 |[],_,i,h=>by cases h
 |j::l,hl,i,h=>by
  simp only[allIn]at hl;cases hm:Xr S j with
  |false=>simp_all
  |true=>rw[hm]at hl;rcases Uj.1 h with rfl|h;exact I6 hm;exact Dk hl i h
theorem Inv.pick{C F R:CS}(I:Inv h0 W M0 (C++R) γ h)(hnd:ko F=Ta)(hsrc:∀x∈F,DenC h0.size γ h x.1 x.2/\∃k,(x.1,k)∈C/\blk γ x.1 k=blk γ x.1 x.2):Inv h0 W M0 (F++R) γ h where
 ag:=I.ag
 frame:=I.frame
 size:=I.size
 old:=I.old
 le:=I.le
 den:=λx hx=>by rcases Uv.1 hx with hx|hx;simp_all;exact I.den x (Uw _ hx)
 sep:=λx hx b hb=>by rcases Uv.1 hx with hx|hx;obtain⟨_,k,hk,e⟩:=hsrc x hx;exact I.sep _ (Un _ hk) b (by grind);exact I.sep x (Uw _ hx) b hb
 apart:=by have hI:=I.apart;rw[XA]at hI ⊢;refine⟨(Di hnd).imp_of_mem λ {x y} hx hy hne b hb hb'=>?_,hI.2.1,λx hx y hy b hb=>?_⟩;obtain⟨_,k,hk,e⟩:=hsrc x hx;obtain⟨_,k',hk',e'⟩:=hsrc y hy;exact xK I (Un R hk) (Un R hk') (λe2=>hne (Prod.mk.inj e2).1) b (by grind) (by grind);grind
def nF(J:AnnA)(R:CS)(e:js)(C:CS):Option (List Dy):=
 match mY e J.slots,l5 C J.boxes with
 |some ps,some pb=>match l5 (frzL (jY (ps++pb)) C) J.boxes with
  |some b=>match gT R (ps++b) (frzL (jY (ps++pb)) C)with
   |some c=>bif lI c J.boxes then(bif allIn J.ids (ff (ps++b))then(match fb (frzL (jY (ps++pb)) C++R) c (ps++b)with
    |some f=>bif ko (g6 J f)then Td f else Te
    |none=>Te)else Te)else Te
   |none=>Te
  |none=>Te
 |_,_=>Te
theorem vO{J:AnnA}{e:js}{l:List Dy}(b:nF J R e C=Td l){n:Nat}{a:Act}(hs:SatA n e γ a)(I:Inv h0 W M0 (C++R) γ h):
  ∃c,Inv h0 W M0 (g6 J l++R) c h/\GxS J.ids γ c/\∀x∈iy J l,hG c (qg a) x:=by
 unfold nF at b;split at b
 ·rename_i ps U B L;split at b
  ·rename_i o f;split at b
   ·rename_i Y D;cases hbi:lI Y J.boxes with
    |false=>simp_all
    |true=>
    rw[hbi]at b;cases hai:allIn J.ids (ff (ps++o))with
    |false=>simp_all
    |true=>
    rw[hai]at b;simp only[zG]at b;split at b
    ·rename_i k q;cases hnd:ko (g6 J k)with
     |false=>simp_all
     |true=>
     rw[hnd]at b;have b:=UO (show Td k=Td l from b);subst b;obtain⟨γ0,m,y⟩:=Inv.frzL (C:=C) (γ:=γ) (jY (ps++U)) I;have s:=hs.gx0 y;obtain⟨c,r,H,⟨E,V⟩,G⟩:=vG D m;obtain⟨S,A,rfl,l1,Q,d2⟩:=Ws q;obtain⟨e1,t⟩:=Wu (n:=n) (a:=a) B;obtain⟨O,f2⟩:=t (w:=A) s m.fz E Q (λp z=>G p (Un _ z));have u:=AB f m m.fz E V d2 (λp z=>G p (Uw _ z));have ed:(S++A).drop (i3 J.slots)=A:=by rw[<-e1,<-l1,YF]
     have M:GxS J.ids γ c:=⟨y.1.trans H.1,λi hi=>by have h2:=H.2 i (λhm=>hi (Dk hai i hm));have h1:=y.2 i (by simp);simp_all⟩;refine⟨c,r.pick hnd λx b=>?_,M,O⟩;unfold g6 at b;rw[ed]at b;rcases Uv.1 b with b|b;have:=f2 x b;exact⟨r.den x (Un _ this),x.2,this,rfl⟩;rcases u x b with h1|⟨h1,_,⟨N,h2⟩,ss,Z⟩;exact⟨r.den x (Un _ h1),x.2,h1,rfl⟩;obtain⟨F,P⟩:=zS hbi _ _ Z;exact⟨h1,_,P,by rw[h2];rfl⟩
    cases b
   cases b
  cases b
 cases b
theorem HO{α:Type}{R:α->α->Prop}(i:∀x y,R x y->R y x){l b:List α}(p:l.Perm b):l.Pairwise R->b.Pairwise R:=by
 induction p with
 |nil=>exact id
 |cons x p f=>intro h;rw[Vn]at h ⊢;grind
 |swap x y l=>simp_all
 |trans _ _ c e=>simp_all
theorem Inv.perm{cs cs':CS}(I:Inv h0 W M0 cs γ h)(p:cs.Perm cs'):Inv h0 W M0 cs' γ h where
 ag:=I.ag
 frame:=I.frame
 size:=I.size
 old:=I.old
 le:=I.le
 den:=λx hx=>I.den x (p.symm.subset hx)
 sep:=λx hx=>I.sep x (p.symm.subset hx)
 apart:=HO (λx y h b hb hb'=>h b hb' hb) p I.apart
end
section
variable {P:Program} {gl:Fr}
variable {h0 : zb} {W : Nat -> Prop} {M0 : Fr}
def vo(P:Program)(gl:Fr)(o:Oper)(e:js)(c:qp)(cs:CS)(K:AV->Prop):Prop:=
 match o.op with
 |.pick x a b=>pJ e c x a b K
 |_=>match kI e c with
  |some g=>qA P gl o (eH e c) g cs K
  |none=>False
def lz(P:Program)(gl:Fr)(n:Nat)(ops:Array Oper)(cs:CS)(K:js->Prop):List Oper->js->Prop
 |[],e=>K e
 |o::rest,e=>match mR ops e o.guard with
  |some c=>bif xg n c o.dst then vo P gl o e c cs λv=>lz P gl n ops cs K rest (nT e o.dst c v)else False
  |none=>False
theorem KY(i:Fr.le gl M0){o:Oper}{e:js}{c:qp}{cs:CS}{K:AV->Prop}(H:vo P gl o e c cs K):∃av,K av/\∀(n:Nat) (γ:Gh) (a:Act) (h:zb),SatA n e γ a->Inv h0 W M0 cs γ h->valid (qg a) c->∃v,DenV γ av v/\QExec P (execOp a.eval o) h (.value v):=by unfold vo at H;split at H;rename_i x y z k;obtain⟨av,h1,h2⟩:=vc H;refine⟨av,h1,λn γ a h b I f=>?_⟩;obtain⟨t,l,q⟩:=h2 n γ a b f;refine⟨_,q,λB d=>?_⟩;simp only[execOp,k,l,asBool,Sem.run_bind,Sem.run_pure,Result.andThen_ok];split at H;rename_i g m;obtain⟨av,h1,h2⟩:=oy (h0:=h0) (W:=W) (M0:=M0) i H;exact⟨av,h1,λn γ a h b I f=>h2 (Fp b m f) γ h a.eval I λx av p=>Zv b f p⟩;exact H.elim
theorem qU{P:Program}{gl:Fr}(q:Fr.le gl M0){n:Nat}{ops:Array Oper}{cs:CS}{K:js->Prop}{Q:Act->Prop}{γ:Gh}{h:zb}(I:Inv h0 W M0 cs γ h)(B:World)(d:Nat):
  ∀(l:List Oper) (e:js) (a:Act),lz P gl n ops cs K l e->SatA n e γ a->(∀e' a',SatA n e' γ a'->Same (xx l) a a'->K e'->Q a')->wpStill P ops (mk B d h) Q l a
 |[],e,a,H,hs,hQ=>hQ _ _ hs (Same.refl _ _) H
 |o::rest,e,a,H,hs,hQ=>by
  unfold lz at H;split at H;rename_i c A;cases hd:xg n c o.dst with
  |false=>rw[hd]at H;exact H.elim
  |true=>
   rw[hd]at H;simp only[zG]at H;have s:=Bw hs A;have m:∀i,o.dst=Td i->i∈xx (o::rest):=λi hi=>by simp[xx,hi]
   have k:∀x∈xx rest,x∈xx (o::rest):=λx r=>by unfold xx;split;exact Uo _ r;exact r
   obtain⟨av,w,z⟩:=KY (h0:=h0) (W:=W) (M0:=M0) q H;have b:∀u,(valid (qg a) c->DenV γ av u)->(¬valid (qg a) c->u=undef)->wpStill P ops (mk B d h) Q rest (a.put o.dst u):=λu h1 h2=>
    qU q I B d rest _ _ w (hs.putO hd h1 h2) λe' a' t C y=>hQ e' a' t ((Same.put a o.dst u m).trans (C.mono k)) y
   unfold wpStill;by_cases p:valid (qg a) c;rw[zA (s.2 p)];unfold Oper.still;obtain⟨v,h1,h2⟩:=z n γ a h hs I p;rw[h2 B d,Oper.stillUpon_value];exact b v (λ_=>h1) (λf=>absurd p f);rw[za (λr=>p (s.1 r))];exact b undef (λf=>absurd f p) (λ_=>rfl)
  exact H.elim
abbrev lC:=List (Nat×Nat)
def vF(P:Program)(gl:Fr)(tr:TypeId)(n:Nat)(c:lC)(id:Nat)(ops:Array Oper)(b:Bool)(R:CS)(K:js->CS->Prop)(e:js)(C:CS):Prop:=
 bif b then(match v4 c id with
  |none=>bif Region.lexB .any ops then lz P gl n ops (C++R) (λe'=>K (ik e') C) ops.toList e else False
  |some m=>bif Region.lexTailB .any ops m then lz P gl n ops (C++R) (λe'=>jO P gl tr n ops R K (ops.toList.drop m) e' C) (ops.toList.take m) e else False)
 else jO P gl tr n ops R K ops.toList e C
theorem PL(D:P.follows .mixedOrders=Ta)(f:Fr.le gl M0){tr:TypeId}{n:Nat}{E:lC}{id:Nat}{ops:Array Oper}{c:Bool}{R C:CS}{K:js->CS->Prop}{e:js} (H:vF P gl tr n E id ops c R K e C) {γ:Gh} {h:zb} (B:World) (d:Nat) {a:Act} (u:SatA n e γ a) (I:Inv h0 W M0 (C++R) γ h) {Q:Exit->Act->World->Prop}
  (q:∀e' A γ' a' M h',SatA n e' γ' a'->Inv h0 W M0 (A++R) γ' h'->Same (xx ops.toList) a a'->GxS (xx ops.toList) γ γ'->K e' A->Q .normal a' (mk B M h')):(YR id ops c).wp P Q a (mk B d h):=by
 unfold vF at H;cases c with
 |false=>exact wp_region_list (sK f B _ _ _ _ _ _ _ H u I q)
 |true=>
  simp only[zG]at H;split at H;cases hB:Region.lexB .any ops with
  |false=>rw[hB]at H;exact H.elim
  |true=>rw[hB]at H;refine wp_region_still D hB ?_;exact qU f I B (d+1) _ _ _ H u λe' a' r y s=>q _ _ _ _ _ _ r.clean I y (GxS.refl _ _) s
  rename_i m _;cases hB:Region.lexTailB .any ops m with
  |false=>rw[hB]at H;exact H.elim
  |true=>
   rw[hB]at H;have b:xx ops.toList=xx (ops.toList.take m)++xx (ops.toList.drop m):=by rw[<-Wm,Vw]
   have:=wp_region_still_tail (id:=id) (Q:=Q) (a:=a) (w:=mk B d h) (l:=ops.toList) m D (by simpa using hB) (by simp only[Array.toArray_toList];refine qU f I B (d+1) _ _ _ H u λe' a' r y s=>?_;refine sK f B _ _ _ _ _ _ (d+1) s r I λo p z k t h'' L J G F N=>q o p z k t h'' L J ?_ ?_ N;rw[b];exact(y.mono λx i=>Un _ i).trans (G.mono λx i=>Uw _ i);rw[b];exact F.mono λx i=>Uw _ i);simpa using this
end
section
variable {h0 : zb} {W : Nat -> Prop} {M0 : Fr}
abbrev nu:=List (Nat×Nat×List Nat×List Nat×List Nat)
def xC:nu->Nat->Option (Nat×List Nat×List Nat×List Nat)
 |[],_=>Te
 |(j,x)::l,i=>bif Nat.beq i j then Td x else xC l i
def rW(P:Program)(gl:Fr)(tr:TypeId)(n:Nat)(c:lC)(f:nu)(id:Nat)(ops:Array Oper)(b:Bool)(R:CS)(K:js->CS->Prop)(e:js)(C:CS):Prop:=
 match xC f id with
 |none=>vF P gl tr n c id ops b R K e C
 |some _=>False
theorem HT{P:Program}(p:P.follows .mixedOrders=Ta){gl:Fr}(c:Fr.le gl M0){tr:TypeId}{n:Nat}{i:lC}{l:nu}{id:Nat}{ops:Array Oper}{b:Bool}{R C:CS}{K:js->CS->Prop}{e:js} (H:rW P gl tr n i l id ops b R K e C) {γ:Gh} {h:zb} (B:World) (d:Nat) {a:Act} (m:SatA n e γ a) (I:Inv h0 W M0 (C++R) γ h) {Q:Exit->Act->World->Prop}
  (o:∀e' f γ' a' k h',SatA n e' γ' a'->Inv h0 W M0 (f++R) γ' h'->Same (xx ops.toList) a a'->GxS (xx ops.toList) γ γ'->K e' f->Q .normal a' (mk B k h')):(YR id ops b).wp P Q a (mk B d h):=by
 unfold rW at H;split at H;exact PL p c H B d m I o;exact H.elim
end
section
variable {S:List Nat} {γ γ':Gh} {u:Value} {C R:CS} {h:zb} {n:Nat} {a:Act} {P:Program} {f:FuncId}
variable {h0 : zb} {W : Nat -> Prop} {M0 : Fr}
structure PlanA where
 tails:lC
 draws:nu
 loops:List (Nat×AnnA)
 joins:List (Nat×AnnA)
def mX:List (Nat×AnnA)->Option Nat->Option AnnA
 |[],_=>Te
 |(j,m)::l,some i=>bif Nat.beq i j then Td m else mX l (Td i)
 |_,none=>Te
def jK:AA->List Nat
 |.box j _=>[j]
 |.own j=>[j]
 |.oelt j _ _ _=>[j]
 |_=>[]
def lK(S:List Nat):List AA->Bool
 |[]=>Ta
 |x::l=>bif (match jK x with
  |[]=>Ta
  |j::_=>!(Xr S j))then lK S l else Tc
def nA(S:List Nat):AG->Bool
 |.a x=>lK S [x]
 |.agg l=>lK S l
def oK(S:List Nat):List AG->Bool
 |[]=>Ta
 |x::l=>bif nA S x then oK S l else Tc
def ut(S:List Nat):AV->Bool
 |.g x=>nA S x
 |.tup l=>oK S l
 |.nx _ _ _=>Ta
theorem DenA.gxS(g:GxS S γ γ'){x:AA}(c:(match jK x with
  |[]=>Ta
  |j::_=>!(Xr S j))=Ta)(h:DenA γ x u):DenA γ' x u:=by
 have key:∀j,Xr S j=Tc->γ'.β j=γ.β j/\γ'.σ j=γ.σ j:=λj m=>g.2 j (Je m);cases x with
 |v y=>exact h
 |d t y=>exact Rd.mono g.1 h
 |box j o=>rw[show u=_ from h];simp only[DenA,(key j (by simpa[jK]using c)).1]
 |own j=>rw[show u=_ from h];simp only[DenA,(key j (by simpa[jK]using c)).2]
 |oelt j z i o=>obtain⟨b,k,l⟩:=h;exact⟨b,by rw[(key j (by simpa[jK]using c)).2];exact k,l⟩
 |elt t y o=>obtain⟨b,f,cs,e,h1,h2⟩:=h;exact⟨b,f,cs,e,g.1 _ _ h1,Rd.mono g.1 h2⟩
 |dc t xs=>obtain⟨s,k,l,h⟩:=h;exact⟨s,k,l,Rd.mono g.1 h⟩
theorem DenL.gxS{S:List Nat}{γ γ':Gh}(g:GxS S γ γ'):∀{l:List AA} {us:List Value},lK S l=Ta->All2 (DenA γ) l us->All2 (DenA γ') l us
 |[],[],_,_=>trivial
 |[],_::_,_,h=>h.elim
 |_::_,[],_,h=>h.elim
 |x::l,u::us,hm,h=>by
  simp only[lK]at hm;cases hx:(match jK x with
   |[]=>Ta
   |j::_=>!(Xr S j))with
  |false=>simp_all
  |true=>rw[hx]at hm;exact⟨DenA.gxS g hx h.1,DenL.gxS g hm h.2⟩
theorem DenG.gxS(g:GxS S γ γ'){x:AG}(b:nA S x=Ta)(h:DenG γ x u):DenG γ' x u:=by
 cases x with
 |a x=>have:All2 (DenA γ') [x] [u]:=DenL.gxS g b (show All2 (DenA γ) [x] [u]from⟨h,trivial⟩);exact this.1
 |agg l=>obtain⟨us,e,h⟩:=h;exact⟨us,e,DenL.gxS g b h⟩
theorem DenV.gxS(g:GxS S γ γ'){x:AV}(f:ut S x=Ta)(h:DenV γ x u):DenV γ' x u:=by
 cases x with
 |g x=>exact DenG.gxS g f h
 |tup l=>
  obtain⟨us,e,h⟩:=h;refine⟨us,e,?_⟩;have:∀{l:List AG} {us:List Value},oK S l=Ta->All2 (DenG γ) l us->All2 (DenG γ') l us:=by
   intro l;induction l with
   |nil=>intro us _ h;cases us with
    |nil=>trivial
    |cons _ _=>exact h.elim
   |cons x l i=>
    intro us f h;cases us with
    |nil=>exact h.elim
    |cons u us=>
     simp only[oK]at f;cases hx:nA S x with
     |false=>simp_all
     |true=>rw[hx]at f;exact⟨DenG.gxS g hx h.1,i f h.2⟩
  exact this f h
 |nx b p c=>exact h
def fE(ms S:List Nat):js->js
 |[]=>[]
 |(i,[],v)::e=>bif Xr ms i then fE ms S e else(bif ut S v then(i,[],v)::fE ms S e else fE ms S e)
 |(_,_::_,_)::e=>fE ms S e
theorem Wv{ms S:List Nat}{γ l:Gh}{a k:Act}(g:GxS S γ l)(b:Same ms a k):∀{e:js},(∀x∈e,hG γ (qg a) x)->∀x∈fE ms S e,hG l (qg k) x
 |[],_,x,c=>by cases c
 |(i,[],v)::e,h,x,c=>by
  have m:=Wv g b (e:=e) λx c=>h x (Uo _ c);simp only[fE]at c;cases hm:Xr ms i with
  |true=>simp_all
  |false=>
   rw[hm]at c;simp only[zH]at c;cases hn:ut S v with
   |false=>simp_all
   |true=>rw[hn]at c;rcases Uj.1 c with rfl|c;refine⟨λ_=>?_,λf=>absurd trivial f⟩;have:=(h _ Uu).1 trivial;simp only at this ⊢;rw[b _ (Je hm)];exact this.gxS g hn;grind
 |(_,_::_,_)::e,h,x,c=>Wv g b (e:=e) (λx c=>h x (Uo _ c)) x c
def eq(ro:List Nat):CS->CS
 |[]=>[]
 |(c,k)::l=>bif Xr ro c then(c,k)::eq ro l else eq ro l
def iT(ro:List Nat):CS->CS
 |[]=>[]
 |(c,k)::l=>bif Xr ro c then iT ro l else(c,k)::iT ro l
theorem AC(ro:List Nat):∀C:CS,(iT ro C++eq ro C).Perm C
 |[]=>.nil
 |(c,k)::l=>by
  have b:=AC ro l;simp only[eq,iT];cases Xr ro c with
  |true=>exact List.perm_middle.trans (b.cons _)
  |false=>exact b.cons _
theorem Inv.part(I:Inv h0 W M0 (C++R) γ h)(ro:List Nat):Inv h0 W M0 (iT ro C++(eq ro C++R)) γ h:=by rw[<-UB];exact I.perm ((AC ro C).symm.append_right R)
abbrev gA:=Exit->js->CS->Prop
def HL(K:js->CS->Prop)(Q:gA):gA
 |.normal,e,C=>K e C
 |x,e,C=>Q x e C
def Ed(id:Nat)(Q:gA):gA
 |.exit i,e,C=>bif Nat.beq i id then Q .normal e C else Q (.exit i) e C
 |x,e,C=>Q x e C
def yD(m:CS)(K:js->CS->Prop)(Q:gA):gA
 |.normal,e,C=>K e C
 |x,e,C=>Q x e (C++m)
def dz(pl:PlanA):Code->List Nat
 |.region _ ops _=>xx ops.toList
 |.seq a b=>dz pl a++(dz pl b++(match mX pl.joins (je b)with
  |some J=>J.ids
  |none=>[]))
 |.cond _ a b=>dz pl a++dz pl b
 |.block _ b=>dz pl b
 |.loop b=>dz pl b++(match mX pl.loops (je b)with
  |some J=>J.ids
  |none=>[])
 |_=>[]
def mJ{X:Type}(J:AnnA)(R:CS)(F:fe (eI J) X)(e:js)(C:CS)(k:X->Prop):Prop:=
 match nF J R e C with
 |some b=>match fC (eI J) b F with
  |some q=>k q
  |none=>False
 |none=>False
theorem ug{X:Type}{J:AnnA}{F:fe (eI J) X}{e:js}{k:X->Prop}(h:mJ J R F e C k):∃b q,nF J R e C=Td b/\fC (eI J) b F=Td q/\k q:=by unfold mJ at h;grind
def WA(P:Program)(gl:Fr)(tr:TypeId)(n:Nat)(pl:PlanA):Code->CS->gA->js->CS->Prop
 |.skip,_,Q,e,C=>Q .normal e C
 |.ret,_,Q,e,C=>Q .ret e C
 |.exit id,_,Q,e,C=>Q (.exit id) e C
 |.label _,_,Q,e,C=>Q .normal e C
 |.goto l,_,Q,e,C=>Q (.goto l) e C
 |.region id ops draw,R,Q,e,C=>rW P gl tr n pl.tails pl.draws id ops draw R (λe C=>Q .normal e C) e C
 |.seq x y,R,Q,e,C=>match mX pl.joins (je y)with
  |none=>WA P gl tr n pl x R (HL (λe C=>WA P gl tr n pl y R Q e C) Q) e C
  |some J=>∀K:fe (eI J) Prop,kW (eI J) K (λf q=>WA P gl tr n pl y R Q (iy J f++fE (xj x) (J.ids++dz pl x) e) (g6 J f++eq J.ro C)->q) ->
    WA P gl tr n pl x (eq J.ro C++R) (yD (eq J.ro C) (λh i=>mJ J (eq J.ro C++R) K h i λq=>q) Q) e (iT J.ro C)
 |.cond c x y,R,Q,e,C=>match eH e [] c with
  |some v=>match jX v with
   |some b=>(b=Ta->WA P gl tr n pl x R Q e C)/\(b=Tc->WA P gl tr n pl y R Q e C)
   |none=>False
  |none=>False
 |.block id x,R,Q,e,C=>WA P gl tr n pl x R (Ed id Q) e C
 |.loop x,R,Q,e,C=>match mX pl.loops (je x)with
  |some J=>∃(I:fe (eI J) Prop) (μ:fe (eI J) Nat),mJ J (eq J.ro C++R) (m4 (eI J) I μ) e (iT J.ro C) (λp=>p.1) /\
    kW (eI J) (m4 (eI J) I μ) λf p=>p.1->WA P gl tr n pl x (eq J.ro C++R) (yD (eq J.ro C) (λh i=>mJ J (eq J.ro C++R) (m4 (eI J) I μ) h i λq=>q.1/\q.2<p.2) Q)
     (iy J f++fE (xj x) (J.ids++dz pl x) e) (g6 J f)
  |none=>False
 |_,_,_,_,_=>False
def F2(h0:zb)(W:Nat->Prop)(M0:Fr)(n:Nat)(B:World)(ms S:List Nat)(c:Act)(b:Gh)(R:CS)(Q:gA):Exit->Act->World->Prop:=
 λx a w=>∃e C γ d h,w=mk B d h/\SatA n e γ a/\Inv h0 W M0 (C++R) γ h/\Same ms c a/\GxS S b γ/\Q x e C
theorem Nh{e:js}{i γ h:Gh}{a f:Act}(o:SatA n e i a){ms S ids:List Nat}(l:f.defers=[])(p:f.tmps.size=n)(c:Same ms a f)(g:GxS S i γ)(m:GxS ids γ h){J:AnnA}{k:List Dy}
  (q:∀x∈iy J k,hG h (qg f) x):SatA n (iy J k++fE ms (ids++S) e) h f:=by
 refine⟨l,p,λx b=>?_⟩;rcases Uv.1 b with b|b;grind;exact Wv ((g.mono λx b=>Uw _ b).trans (m.mono λx b=>Un _ b)) c o.all x b
theorem Pm(hm:P.follows .mixedOrders=Ta){gl:Fr}(ap:Fr.le gl M0){tr:TypeId}{pl:PlanA}:∀(c:Code) (R:CS) (Q:gA) (e:js) (C:CS),WA P gl tr n pl c R Q e C ->
  ∀(γ:Gh) (h:zb) (B:World) (d:Nat) (a:Act),SatA n e γ a->Inv h0 W M0 (C++R) γ h->c.wp P (F2 h0 W M0 n B (xj c) (dz pl c) a γ R Q) a (mk B d h):=by
 intro c;induction c with
 |skip=>exact λR Q e C H γ h B d a f I=>wp_skip ⟨e,C,γ,d,h,rfl,f,I,Same.refl _ _,GxS.refl _ _,H⟩
 |ret=>exact λR Q e C H γ h B d a f I=>wp_ret ⟨e,C,γ,d,h,rfl,f,I,Same.refl _ _,GxS.refl _ _,H⟩
 |exit id=>exact λR Q e C H γ h B d a f I=>wp_exit ⟨e,C,γ,d,h,rfl,f,I,Same.refl _ _,GxS.refl _ _,H⟩
 |label l=>exact λR Q e C H γ h B d a f I=>wp_label ⟨e,C,γ,d,h,rfl,f,I,Same.refl _ _,GxS.refl _ _,H⟩
 |goto l=>exact λR Q e C H γ h B d a f I=>wp_goto ⟨e,C,γ,d,h,rfl,f,I,Same.refl _ _,GxS.refl _ _,H⟩
 |region id ops aF=>exact λR Q e C H γ h B d a f I=>HT hm ap H B d f I λe' C' γ' a' d' h' r u q3 q4 q5=>⟨e',C',γ',d',h',rfl,r,u,q3,q4,q5⟩
 |seq x y M O=>
  intro R Q e C H γ h B d a f I;simp only[WA]at H;have hl:∀i∈xj x,i∈xj (x.seq y):=λi hi=>Un _ hi;have hr:∀i∈xj y,i∈xj (x.seq y):=λi hi=>Uw _ hi;have kl:∀i∈dz pl x,i∈dz pl (x.seq y):=λi hi=>Un _ hi;have kr:∀i∈dz pl y,i∈dz pl (x.seq y):=λi hi=>Uw _ (Un _ hi);split at H;refine wp_seq (wp_mono (M _ _ _ _ H γ h B d a f I) ?_);rintro ex w w1 ⟨V,Z,k,t,h1,rfl,s1,D,z,s,r⟩;cases ex with
  |normal=>refine wp_mono (O _ _ _ _ r k h1 B t w s1 D) ?_;rintro ex a2 w2 ⟨L,N,G,d2,h2,rfl,s2,S,A,E,u⟩;exact⟨L,N,G,d2,h2,rfl,s2,S,(z.mono hl).trans (A.mono hr),(s.mono kl).trans (E.mono kr),u⟩
  |_=>exact⟨V,Z,k,t,h1,rfl,s1,D,z.mono hl,s.mono kl,r⟩
  rename_i J hJ;have kJ:∀i∈J.ids,i∈dz pl (x.seq y):=λi hi=>by simp only[dz,hJ];simp_all
  have H':=H (l3 (eI J) λF=>WA P gl tr n pl y R Q (iy J F++fE (xj x) (J.ids++dz pl x) e) (g6 J F++eq J.ro C)) (E3 λF hq=>hq);refine wp_seq (wp_mono (M _ _ _ _ H' γ h B d a f (I.part J.ro)) ?_);rintro ex w w1 ⟨V,Z,k,t,h1,rfl,s1,D,z,s,r⟩;cases ex with
  |normal=>obtain⟨F,q,hv,hq,hk⟩:=ug r;have am:=A5 hq;subst am;obtain⟨an,aa,ab,f1⟩:=vO hv s1 D;have ae:=Nh f s1.defers s1.size z s ab f1;rw[<-UB]at aa;refine wp_mono (O _ _ _ _ hk an h1 B t w ae aa) ?_;rintro ex a2 w2 ⟨L,N,G,d2,h2,rfl,s2,S,A,E,u⟩;exact⟨L,N,G,d2,h2,rfl,s2,S,(z.mono hl).trans (A.mono hr),((s.mono kl).trans (ab.mono kJ)).trans (E.mono kr),u⟩
  |_=>exact⟨V,Z++eq J.ro C,k,t,h1,rfl,s1,by simp_all,z.mono hl,s.mono kl,r⟩
 |cond c x y M O=>intro R Q e C H γ h B d a f I;simp only[WA]at H;have hl:∀i∈xj x,i∈xj (YJ c x y):=λi hi=>Un _ hi;have hr:∀i∈xj y,i∈xj (YJ c x y):=λi hi=>Uw _ hi;have kl:∀i∈dz pl x,i∈dz pl (YJ c x y):=λi hi=>Un _ hi;have kr:∀i∈dz pl y,i∈dz pl (YJ c x y):=λi hi=>Uw _ hi;split at H;rename_i v hv;split at H;rename_i b U;refine wp_cond_split (uO U (Zv f (c:=[]) trivial hv)) (λah=>?_) (λau=>?_);refine wp_mono (M _ _ _ _ (H.1 ah) γ h B d a f I) ?_;rintro ex a2 w2 ⟨L,N,G,d2,h2,rfl,s2,S,A,E,u⟩;exact⟨L,N,G,d2,h2,rfl,s2,S,A.mono hl,E.mono kl,u⟩;refine wp_mono (O _ _ _ _ (H.2 au) γ h B d a f I) ?_;rintro ex a2 w2 ⟨L,N,G,d2,h2,rfl,s2,S,A,E,u⟩;exact⟨L,N,G,d2,h2,rfl,s2,S,A.mono hr,E.mono kr,u⟩;exact H.elim;exact H.elim
 |block id x ih=>
  intro R Q e C H γ h B d a f I;refine wp_block (wp_mono (ih _ _ _ _ H γ h B d a f I) ?_);rintro ex w w1 ⟨V,Z,k,t,h1,rfl,s1,D,z,s,r⟩;cases ex with
  |exit i=>simp only[Ed]at r;simp only[Exit.inBlock];by_cases U:Nat.beq i id=Ta;rw[zA (Ux U)];simp only[U,zG]at r;exact⟨V,Z,k,t,h1,rfl,s1,D,z,s,r⟩;rw[za (λhe=>U (by rw[he];simp))];simp only[U,zH]at r;exact⟨V,Z,k,t,h1,rfl,s1,D,z,s,r⟩
  |_=>exact⟨V,Z,k,t,h1,rfl,s1,D,z,s,r⟩
 |loop x ih=>
  intro R Q e C H γ h B d a f I;simp only[WA]at H;split at H;rename_i J hJ;have kx:∀i∈dz pl x,i∈dz pl (Code.loop x):=λi hi=>Un _ hi;have kJ:∀i∈J.ids,i∈dz pl (Code.loop x):=λi hi=>by simp only[dz,hJ];simp_all
  have kS:∀i∈J.ids++dz pl x,i∈dz pl (Code.loop x):=λi hi=>by grind
  obtain⟨Iv,μ,ar,Y⟩:=H;obtain⟨af,p0,aB,aC,aA⟩:=ug ar;obtain⟨γ0,I0,g0,f0⟩:=vO aB f (I.part J.ro);refine wp_loop_ghost (λm w w1=>∃t h1 k F p,w1=mk B t h1/\w.defers=[]/\w.tmps.size=n/\Same (xj x) a w/\GxS (J.ids++dz pl x) γ k/\Inv h0 W M0 (g6 J F++(eq J.ro C++R)) k h1/\(∀y∈iy J F,hG k (qg w) y) /\ fC (eI J) F (m4 (eI J) Iv μ)=Td p/\p.1/\p.2=m) p0.2 ⟨d,h,γ0,af,p0,rfl,f.defers,f.size,Same.refl _ _,g0.mono λi hi=>Un _ hi,I0,f0,aC,aA,rfl⟩ ?_;rintro m w w1 ⟨t,h1,k,F,p,rfl,aj,az,o,s,D,f1,hp,aE,rfl⟩;have s1:SatA n (iy J F++fE (xj x) (J.ids++dz pl x) e) k w:=⟨aj,az,λy hy=>by rcases Uv.1 hy with hy|hy;grind;exact Wv s o f.all y hy⟩;have U:=y6 hp Y aE;refine wp_mono (ih _ _ _ _ U k h1 B t w s1 D) ?_;rintro ex a2 w2 ⟨L,N,G,d2,h2,rfl,s2,S,A,E,u⟩;cases ex with
  |normal=>obtain⟨ai,q,ay,hq,ak,ax⟩:=ug u;obtain⟨γ3,I3,g3,f3⟩:=vO ay s2 S;exact⟨q.2,ax,d2,h2,γ3,ai,q,rfl,s2.defers,s2.size,o.trans A,(s.trans (E.mono λi hi=>Uw _ hi)).trans (g3.mono λi hi=>Un _ hi),I3,f3,hq,ak,rfl⟩
  |_=>exact⟨L,N++eq J.ro C,G,d2,h2,rfl,s2,by simp_all,o.trans A,(s.mono kS).trans (E.mono kx),u⟩
  exact H.elim
 |_=>exact λR Q e C H=>H.elim
def i5:Nat->List Arg->js
 |_,[]=>[]
 |i,a::l=>(i,[],.g (m0 a.t a.x))::i5 (i+1) l
def nW(e:js)(i:Nat):Option AV:=match gH e i with
 |some ([],v)=>Td v
 |_=>Te
def gR(P:Program)(cs:CS)(e:js):List ResultVar->(List AV->Prop)->Prop
 |[],K=>K []
 |.tmp t::l,K=>match nW e t with
  |some v=>gR P cs e l λvs=>K (v::vs)
  |none=>False
 |.cell a t::l,K=>match nW e a with
  |some (.g (.a aa))=>kD P cs t aa Te λv=>gR P cs e l λvs=>K (v::vs)
  |_=>False
def jj(cs:CS):(l:List Ty)->List AV->Option (dm l)
 |[],[]=>Td ()
 |[t],[v]=>lh cs t v
 |t::t'::l,v::vs=>match lh cs t v,jj cs (t'::l) vs with
  |some x,some y=>Td (x,y)
  |_,_=>Te
 |_,_=>Te
theorem BF{γ:Gh}{cs:CS}(b:gj γ cs):∀{l:List Ty} {vs:List AV} {r:dm l} {us:List Value},jj cs l vs=Td r->All2 (DenV γ) vs us->pY γ.M l r us
 |[],[],r,[],_,_=>rfl
 |[],[],_,_::_,_,h=>h.elim
 |[t],[v],r,[u],h,hd=>⟨u,rfl,q8 b (by simpa[jj]using h) hd.1⟩
 |[t],[v],_,[],_,h=>h.elim
 |[t],[v],_,_::_::_,_,h=>h.2.elim
 |t::t'::l,v::vs,r,[],_,h=>h.elim
 |t::t'::l,v::vs,r,u::us,h,hd=>by simp only[jj]at h;split at h;rename_i x y h1 h2;simp only[Ud]at h;subst h;exact⟨u,us,rfl,q8 b h1 hd.1,BF b h2 hd.2⟩;cases h
 |[],_::_,_,_,h,_=>by simp[jj]at h
 |[t],[],_,_,h,_=>by simp[jj]at h
 |[t],_::_::_,_,_,h,_=>by simp[jj]at h
 |t::t'::l,[],_,_,h,_=>by simp[jj]at h
def uw(P:Program)(rs:List ResultVar)(rt:List Ty)(R:dm rt->Prop):gA:=λx e C=>match x with
 |.normal=>gR P C e rs λvs=>match jj (frzL (fJ vs) C) rt vs with
  |some r=>R r
  |none=>False
 |.ret=>gR P C e rs λvs=>match jj (frzL (fJ vs) C) rt vs with
  |some r=>R r
  |none=>False
 |_=>False
theorem rP{P:Program}{n:Nat}{C:CS}{e:js}{γ:Gh}{a:Act}{h:zb}(E:SatA n e γ a)(I:Inv h0 W M0 C γ h):∀{l:List ResultVar} {K:List AV->Prop},gR P C e l K->∃vs us,K vs/\All2 (DenV γ) vs us/\us.length=l.length/\QExec P (l.mapM (iO a.tmps)) h us
 |[],K,H=>⟨[],[],H,trivial,rfl,λ_ _=>by simp⟩
 |.tmp t::l,K,H=>by
  simp only[gR]at H;split at H;rename_i v A;obtain⟨vs,us,h1,h2,G,F⟩:=rP E I H;have m:DenV γ v (qg a t):=by unfold nW at A;split at A;rename_i u r;simp only[Ud]at A;subst A;exact(E.all _ (Z6 r)).1 trivial;cases A
  refine⟨v::vs,qg a t::us,h1,⟨m,h2⟩,by simp[G],?_⟩;rw[YG];exact QExec.bind (x:=qg a t) (QExec.pure _) (F.bind (QExec.pure _));exact H.elim
 |.cell x t::l,K,H=>by
  simp only[gR]at H;split at H;rename_i q w;obtain⟨v,N,M⟩:=Bf (h0:=h0) (W:=W) (M0:=M0) H;obtain⟨vs,us,h1,h2,G,F⟩:=rP E I N;have m:DenA γ q (qg a x):=by unfold nW at w;split at w;rename_i u r;simp only[Ud]at w;subst w;exact(E.all _ (Z6 r)).1 trivial;cases w
  obtain⟨u,O,B⟩:=M trivial γ h _ I m;refine⟨v::vs,u::us,h1,⟨O,h2⟩,by simp[G],?_⟩;rw[YG];refine QExec.bind (x:=u) ?_ (F.bind (QExec.pure _));have J:∃p,qg a x=.pointer (Td p):=by
   have D:∀q,(∀k,nI C k q=Te)->(∀c z i o,q≠.oelt c z i o)->DenA γ q (qg a x)->kD P C t q Te (λv=>gR P C e l λvs=>K (v::vs))->False:=by intro q S L _ r;unfold kD at r;split at r;simp_all;exact r
   cases q with
   |box c o=>exact⟨_,m⟩
   |oelt c z i o=>obtain⟨g,_,e⟩:=m;grind
   |elt t y o=>obtain⟨b,f,cs,e,_⟩:=m;grind
   |v y=>exact(D _ (λ_=>rfl) (by simp) m H).elim
   |d t y=>exact(D _ (λ_=>rfl) (by simp) m H).elim
   |own c=>exact(D _ (λ_=>rfl) (by simp) m H).elim
   |dc t y=>exact(D _ (λ_=>rfl) (by simp) m H).elim
  obtain⟨p,s⟩:=J;rw[s]at B;have Q:a.tmps.getD x undef=.pointer (Td p):=s;simp only[iO,Q];exact B;exact H.elim
theorem Hr{fn:Func}{rs:List ResultVar}(f:fn.results.toList=rs){us:List Value}(e:us.length=rs.length)(c:QExec P (rs.mapM (iO a.tmps)) h us):QExec P (results fn a.tmps) h (fY us):=by
 intro B d;have b:results fn a.tmps=(fn.results.mapM (iO a.tmps) >>= λvs=>XM (if h:vs.size=1 then vs[0]else .tuple vs)):=by unfold results;congr 1
 rw[b,Array.mapM_eq_mapM_toList,f,Sem.run_bind,Sem.run_map,c B d];simp only[Result.andThen_ok,Sem.run_pure]
 match us,e with
 |[],_=>rfl
 |[v],_=>rfl
 |v::u::vs,_=>simp[fY]
theorem BU{γ:Gh}{σ:Nat->Value}:∀{l:List Arg} {i:Nat} {us:List Value},fV γ.M l us->(∀j v,us[j]?=Td v->σ (i+j)=v)->∀x∈i5 i l,hG γ σ x
 |[],_,_,_,_,x,b=>by cases b
 |a::l,i,[],h,_,x,b=>h.elim
 |a::l,i,u::us,h,hσ,x,b=>by simp only[i5,Uj]at b;rcases b with rfl|b;refine⟨λ_=>?_,λe=>absurd trivial e⟩;have:=hσ 0 u rfl;simp only at this ⊢;rw[show σ i=u from this];exact sP h.1;exact BU h.2 (λj v c=>by have:=hσ (j+1) v (by simpa using c);grind) x b
theorem Np(hm:P.follows .mixedOrders=Ta)(gl:Fr)(tr:TypeId)(pl:PlanA)(args:List Arg){fn:Func}{rs:List ResultVar}{rt:List Ty}(Z:P.funcs[f]?=Td fn)(y:Q7 fn=Ta)(hr:fn.results.toList=rs)(hn:fn.ntmps=n)
  (Y:Nat.ble args.length n=Ta) {R:dm rt->Prop} (H:WA P gl tr n pl (codeOf fn) [] (uw P rs rt R) (i5 0 args) []):PC P gl f args rt R:=by
 intro h M vs J t c B d;subst hn;have G:fn.body=Td (codeOf fn):=by unfold Q7 at y;unfold codeOf;split at y;omega;cases y
 refine calls_of_wp Z G ?_;have p:vs.length=args.length:=(All2.length c).symm;have aa:vs.length<=fn.ntmps:=by rw[p];exact VE Y
 let γ:Gh:=⟨M,λ_=>0,λ_=>⟨Te,0,0⟩⟩;have I:Inv h (λ_=>False) M ([]++[]) γ h:={ ag:=t,frame:=λ_ _ _=>rfl,size:=Uc _,old:=λ_ _=>rfl,le:=Fr.le.refl _,den:=λx F=>(by cases F),sep:=λx F=>(by cases F),apart:=YT };have hs:SatA fn.ntmps (i5 0 args) γ { tmps:=vs.toArray++VL (fn.ntmps-vs.toArray.size) undef,defers:=[] }:=by refine⟨rfl,by simp;omega,BU c λj v Q=>?_⟩;have E:j<vs.length:=(UE.1 Q).1;simp only[UI,qg,Vm];rw[V5 (by simpa using E)];simp[Q]
 have fin:∀(e:js) (C:CS) (γ':Gh) (h':zb) (a:Act),SatA fn.ntmps e γ' a->Inv h (λ_=>False) M (C++[]) γ' h'->(gR P C e rs λvs=>match jj (frzL (fJ vs) C) rt vs with|some r=>R r|none=>False) ->
   ∃v,QExec P (results fn a.tmps) h' v/\Keep h.size h h'/\∃M' r,Fr.le M M'/\(∀b,b<h.size->M' b=M b)/\AgM M' h'/\Zp M' rt r v/\R r:=by
  intro e C γ' h' a s1 m q;rw[UM]at m;obtain⟨D,us,A,S,hl,o⟩:=rP s1 m q;split at A;rename_i r hc;obtain⟨U,l,V⟩:=Inv.frzL (C:=C) (R:=[]) (γ:=γ') (fJ D) (by simpa using m);rw[UM]at l;refine⟨fY us,Hr hr hl o,⟨l.size,λi hi=>l.frame i hi (λh=>h)⟩,U.M,r,l.le,l.old,l.ag,⟨us,BF l.fz hc (S.imp λv _ u hu=>hu.gx V rfl),rfl⟩,A⟩;exact A.elim
 refine wp_mono (Pm hm J _ _ _ _ _ H γ h B d _ hs I) ?_;rintro ex a w ⟨O,N,L,s,h1,rfl,s1,m,m1,g1,z⟩;cases ex with
 |normal=>obtain⟨v,o,k,rest⟩:=fin O N L h1 a s1 m z;exact⟨s1.defers,v,o B s,v,s,h1,rfl,rfl,k,rest⟩
 |ret=>obtain⟨v,o,k,rest⟩:=fin O N L h1 a s1 m z;exact⟨s1.defers,v,o B s,v,s,h1,rfl,rfl,k,rest⟩
 |_=>exact z.elim
theorem OW(b:P.follows .mixedOrders=Ta)(gl:Fr)(tr:TypeId)(pl:PlanA)(args:List Arg){fn:Func}{rs:List ResultVar}{rt:List Ty}(c:P.funcs[f]?=Td fn)(i:Q7 fn=Ta)(h:fn.results.toList=rs)(k:fn.ntmps=n)
  (l:Nat.ble args.length n=Ta) {R:dm rt->Prop} {F:Prop} (H:F) (e:F=WA P gl tr n pl (codeOf fn) [] (uw P rs rt R) (i5 0 args) []):PC P gl f args rt R:=
 Np b gl tr pl args c i h k l (e ▸ H)
end
end
section
open Go.RowKit
section
variable {P:Program} {f:FuncId} {h:zb} {M gl:Fr} {v:Value} {us:List Value}
theorem XC.of_calls{args:Array Value}{R:Value->zb->Prop}
  (H:∀B d,Calls P f args (mk B d h) λe w'=>∃v,e=.returned v/\w'.os=B.os/\w'.tape=B.tape/\w'.output=B.output/\R v w'.heap):XC P f args h R:=by
 intro B d;refine(H B d).mono ?_;rintro e w' ⟨v,rfl,h1,h2,c,b⟩;refine⟨v,w'.drawn,w'.heap,rfl,?_,b⟩;cases w';simp only[mk]at *;subst h1;subst h2;subst c;rfl
theorem AgM.keep{h h':zb}(ag:AgM M h)(k:Keep h.size h h'):AgM M h':=λb c e=>by obtain⟨T,m,e'⟩:=ag b c e;exact⟨T,m,by rw[k.get b (ag.lt e)];exact e'⟩
def km:Arg->Option Value
 |⟨.int k,x⟩=>Td (.int k x)
 |⟨.bool,x⟩=>Td (.bool x)
 |⟨.str,x⟩=>Td (.string x)
 |_=>Te
def il:List Arg->Option (List Value)
 |[]=>Td []
 |a::l=>match km a,il l with
  |some v,some vs=>Td (v::vs)
  |_,_=>Te
theorem Sv{a:Arg}{v u:Value}(h:km a=Td v)(b:RdV M a.t a.x u):u=v:=by
 obtain⟨t,x⟩:=a;cases t with
 |int k=>simp only[km,Ud]at h;subst h;simpa[RdV,Rd,dB]using b
 |bool=>simp only[km,Ud]at h;subst h;simpa[RdV,Rd,dB]using b
 |str=>simp only[km,Ud]at h;subst h;simpa[RdV,Rd,dB]using b
 |_=>simp[km]at h
theorem oT{M:Fr}:∀{l:List Arg} {vs us:List Value},il l=Td vs->fV M l us->us=vs
 |[],vs,us,h,hd=>by
  simp only[il,Ud]at h;subst h;cases us with
  |nil=>rfl
  |cons _ _=>exact hd.elim
 |a::l,vs,us,h,hd=>by
  simp only[il]at h;split at h;rename_i v b h1 h2;simp only[Ud]at h;subst h;cases us with
  |nil=>exact hd.elim
  |cons u us=>rw[Sv h1 hd.1,oT h2 hd.2]
  cases h
theorem PC.of_scal{args:List Arg}{rt:List Ty}{R:dm rt->Prop}(l:il args=Td us){r:dm rt}(o:∀M,Zp M rt r v)(p:R r)
  (H:∀w:World,AgM gl w.heap->Calls P f us.toArray w λe w'=>e=.returned v/\Below w.heap.size w w'):PC P gl f args rt R:=by
 intro h M vs m ag n;rw[oT l n];refine XC.of_calls λB d=>(H (mk B d h) λb c e=>ag b c (m b c e)).mono ?_;rintro e w' ⟨rfl,i⟩;have k:Keep h.size h w'.heap:=⟨i.size,i.block⟩;exact⟨v,rfl,i.os,i.tape,i.output,k,M,r,Fr.le.refl _,λ_ _=>rfl,ag.keep k,o M,p⟩
theorem PC.of_same{args:List Arg}{rt:List Ty}{R:dm rt->Prop}(b:il args=Td us){r:dm rt}(h:∀M,Zp M rt r v)(i:R r)
  (H:∀w:World,AgM gl w.heap->Calls P f us.toArray w λe w'=>e=.returned v/\w'=w):PC P gl f args rt R:=
 PC.of_scal b h i λw c=>(H w c).mono λe w' ⟨h1,h2⟩=>⟨h1,h2 ▸ Below.refl _ _⟩
theorem ER(k:IntKind)(i:Int):Zp M [.int k] i (.int k i):=⟨[_],⟨_,rfl,rfl⟩,rfl⟩
theorem uH(b:Bool):Zp M [.bool] b (.bool b):=⟨[_],⟨_,rfl,rfl⟩,rfl⟩
theorem mB(s:Bt):Zp M [.str] s (.string s):=⟨[_],⟨_,rfl,rfl⟩,rfl⟩
theorem AgM.glob{w:World}(ag:AgM gl w.heap){b o:Nat}{cs:Array Value}(f:gl b=Td cs)(c:cs[o]?=Td v):w.cell? ⟨b,o,Option.none⟩=Td v:=by obtain⟨T,m,e⟩:=ag b cs f;simp[World.cell?,e,c]
theorem PC.of_ex{args:List Arg}{rt:List Ty}{R:dm rt->Prop}(l:il args=Td us)
  (H:∀w:World,AgM gl w.heap->Calls P f us.toArray w λe w'=>∃v r,e=.returned v/\(∀M,Zp M rt r v)/\R r/\Below w.heap.size w w'):PC P gl f args rt R:=by
 intro h M vs m ag n;rw[oT l n];refine XC.of_calls λB d=>(H (mk B d h) λb c e=>ag b c (m b c e)).mono ?_;rintro e w' ⟨v,r,rfl,o,p,i⟩;have k:Keep h.size h w'.heap:=⟨i.size,i.block⟩;exact⟨v,rfl,i.os,i.tape,i.output,k,M,r,Fr.le.refl _,λ_ _=>rfl,ag.keep k,o M,p⟩
end
section
variable {P:Program} {gl M:Fr} {f:FuncId} {h h':zb} {vs cs:List Value} {K:Value -> zb -> Prop} {t:Ty} {u v:Value} {i:Int} {s:Sl} {k:Nat}
def PX(P:Program)(f:FuncId)(vs:Array Value)(h:zb)(M:Fr)(rt:List Ty)(R:dm rt->Prop):Prop:=
 XC P f vs h λv h'=>Keep h.size h h'/\∃M' r,Fr.le M M'/\(∀b,b<h.size->M' b=M b)/\AgM M' h'/\Zp M' rt r v/\R r
theorem PC.px{args:List Arg}{rt:List Ty}{R:dm rt->Prop}(H:PC P gl f args rt R)(b:Fr.le gl M)(ag:AgM M h)(c:fV M args vs):PX P f vs.toArray h M rt R:=H h M vs b ag c
structure Later (h:zb) (M:Fr) (h':zb) (M':Fr):Prop where
 keep:Keep h.size h h'
 le:Fr.le M M'
 old:∀b,b<h.size->M' b=M b
 ag:AgM M' h'
theorem Later.refl(ag:AgM M h):Later h M h M:=⟨Keep.refl _ _,Fr.le.refl _,λ_ _=>rfl,ag⟩
theorem Later.trans{h h' h'':zb}{M M' M'':Fr}(a:Later h M h' M')(b:Later h' M' h'' M''):Later h M h'' M'':= ⟨a.keep.trans b.keep a.keep.size,a.le.trans b.le,λx c=>(b.old x (by have:=a.keep.size;omega)).trans (a.old x c),b.ag⟩
theorem Later.same(ag:AgM M h)(k:Keep h.size h h'):Later h M h' M:=⟨k,Fr.le.refl _,λ_ _=>rfl,ag.keep k⟩
theorem Later.push(ag:AgM M h)(o:Obj):Later h M (h.push o) M:=Later.same ag (Keep.push _ _ (Uc _))
theorem PX.go{vs:Array Value}{rt:List Ty}{R:dm rt->Prop}(H:PX P f vs h M rt R)(l:∀v h' M' r,Later h M h' M'->Zp M' rt r v->R r->K v h'):XC P f vs h K:= XC.mono H λv h' ⟨k,M',r,c,m,e,i,b⟩=>l v h' M' r ⟨k,c,m,e⟩ i b
theorem PX.of{vs:Array Value}{rt:List Ty}{R:dm rt->Prop}(H:XC P f vs h λv h'=>∃M' r,Later h M h' M'/\Zp M' rt r v/\R r):PX P f vs h M rt R:= XC.mono H λv h' ⟨M',r,l,c,b⟩=>⟨l.keep,M',r,l.le,l.old,l.ag,c,b⟩
theorem PC.go{args:List Arg}{rt:List Ty}{R:dm rt->Prop}(H:PC P gl f args rt R)(c:Fr.le gl M)(ag:AgM M h)(b:fV M args vs) (e:∀v h' M' r,Later h M h' M'->Zp M' rt r v->R r->K v h'):XC P f vs.toArray h K:=(H.px c ag b).go e
theorem c7{x:El t}(b:dB t=Tc):RdV M t x u↔Rd M t x [u]:=by unfold RdV;rw[b];simp
theorem Yk{x:El t}:Zp M [t] x v↔RdV M t x v:=by constructor;rintro⟨us,⟨u,rfl,h⟩,rfl⟩;exact h;intro h;exact⟨[v],⟨v,rfl,h⟩,rfl⟩
theorem dt{b:Bool}(h:Zp M [.bool] b v):v=.bool b:=by have:=Yk.1 h;rw[c7 rfl]at this;simpa[Rd]using this
theorem nG{k:IntKind}(h:Zp M [.int k] i v):v=.int k i:=by have:=Yk.1 h;rw[c7 rfl]at this;simpa[Rd]using this
theorem fj{s:Bt}(h:Zp M [.str] s v):v=.string s:=by have:=Yk.1 h;rw[c7 rfl]at this;simpa[Rd]using this
theorem zy:fV M [] []:=trivial
theorem zq{a:Arg}{l:List Arg}{us:List Value}(h:RdV M a.t a.x u)(b:fV M l us):fV M (a::l) (u::us):=⟨h,b⟩
theorem rdStr(s:Bt):RdV M .str s (.string s):=by rw[c7 rfl];rfl
theorem Zw(k:IntKind)(i:Int):RdV M (.int k) i (.int k i):=by rw[c7 rfl];rfl
theorem rdBool(b:Bool):RdV M .bool b (.bool b):=by rw[c7 rfl];rfl
theorem ju{s:Bt}(h:RdV M .str s u):u=.string s:=by rw[c7 rfl]at h;simpa[Rd]using h
theorem qz{k:IntKind}(h:RdV M (.int k) i u):u=.int k i:=by rw[c7 rfl]at h;simpa[Rd]using h
theorem qq{v:Tr}(h:RdV M .tree v u):∃sk si:Sl,u=.agg #[.int .i64 v.kind,.string v.text,aK sk,aK si]/\Rd M (.row .str) v.keys [aK sk]/\Rd M (.row .tree) v.items [aK si]:=by unfold RdV at h;simp only[dB,if_true]at h;obtain⟨cs,rfl,i⟩:=h;obtain⟨n,o,rfl,h1,h2⟩:=TrRd.keys i;have c:=h1;have b:=h2;obtain⟨w1,e,k,c1,l,_⟩:=c;obtain⟨p,f,a2,c2,m,_⟩:=b;simp only[Vu,and_true]at e f;subst e;subst f;subst l;subst m;exact⟨⟨k,v.keys.length,c1⟩,⟨a2,v.items.length,c2⟩,rfl,h1,h2⟩
theorem zr{v:Tr}{sk si:Sl}(h1:Rd M (.row .str) v.keys [aK sk])(h2:Rd M (.row .tree) v.items [aK si]):RdV M .tree v (.agg #[.int .i64 v.kind,.string v.text,aK sk,aK si]):=by unfold RdV;simp only[dB,if_true];exact⟨[.int .i64 v.kind,.string v.text,aK sk,aK si],rfl,by cases v;exact TrRd.of h1 h2⟩
theorem lH{xs:List (El t)}(h:RdV M (.row t) xs u):∃s:Sl,u=aK s/\Rd M (.row t) xs [aK s]:=by rw[c7 rfl]at h;have h':=h;obtain⟨w,e,a,c,q,_⟩:=h';simp only[Vu,and_true]at e;subst e;subst q;exact⟨⟨a,xs.length,c⟩,rfl,h⟩
theorem rowLen{xs:List (El t)}(h:Rd M (.row t) xs [aK s]):s.len=xs.length/\xs.length<=140737488355328/\xs.length<=s.cap:=by obtain⟨w,e,a,c,q,b,_⟩:=h;simp only[Vu,and_true]at e;subst e;simp only[aK,UW]at q;obtain⟨_,h2,f⟩:=q;exact⟨h2,b.1,by rw[f];exact b.2⟩
theorem rowAt{xs:List (El t)}(h:Rd M (.row t) xs [aK s])(f:k<xs.length):∃b o cs,s.a=Td ⟨b,o,Te⟩/\M b=Td cs/\Rd M t xs[k] (cut cs (o+k*sz t) (sz t)):=by obtain⟨w,e,a,c,q,r,l⟩:=h;simp only[Vu,and_true]at e;subst e;simp only[aK,UW]at q;obtain⟨h1,h2,p⟩:=q;rcases l with rfl|⟨b,o,cs,m,i,n⟩;simp at f;exact⟨b,o,cs,by rw[h1,m],i,n k f⟩
theorem mn{M:Fr}{h:zb}(ag:AgM M h){b:Nat}{cs:Array Value}(k:M b=Td cs):∀{vs:List Value} {o i:Nat},cut cs (o+i) vs.length=vs->zd h ⟨b,o,Te⟩ i vs
 |[],_,_,_=>trivial
 |v::vs,o,i,e=>by
  unfold cut at e;have c:o+i<cs.toList.length:=by rcases U1 (o+i) cs.toList.length with f|f;exact f;rw[Vr f]at e;simp at e
  rw[UZ c,Uk,V7]at e;injection e with e1 e2;refine⟨?_,mn ag k (i:=i+1) e2⟩;rw[zj];refine ag.cell k ?_;rw[Vx (by simpa using c),<-e1];simp
theorem jt(ag:AgM M h){b:Nat}{cs:Array Value}(c:M b=Td cs){o:Nat}(e:cut cs o 1=[v]):zc h ⟨b,o,Te⟩=Td v:=by have:=mn (vs:=[v]) (o:=o) (i:=0) ag c (by simpa using e);exact this.1
theorem qh(b o n:Nat):(⟨b,o,Te⟩:Addr).add n=⟨b,o+n,Te⟩:=zj b o n
theorem fG(ag:AgM M h){xs:List Bt}(H:Rd M (.row .str) xs [aK s])(f:k<xs.length)(hi:i=(k:Int)){L:Nat}(p:L=s.len){Q:Bt->Prop}(e:Q xs[k]):
  ∃a:Addr,(s.a=Td a/\0<=i/\i<(L:Int))/\∃x:Bt,zc h (a.add (i.toNat*1))=Td (.string x)/\Q x:=by
 obtain⟨b,o,cs,l,c,m⟩:=rowAt H f;have n:=(rowLen H).1;refine⟨_,⟨l,by omega,by omega⟩,xs[k],?_,e⟩;rw[qh,hi,Ue];exact jt ag c m
theorem Jt(ag:AgM M h){xs:List Tr}(H:Rd M (.row .tree) xs [aK s])(e:k<xs.length):∃(a:Addr) (sk si:Sl),s.a=Td a/\zd h (a.add (k*4)) 0 [.int .i64 xs[k].kind,.string xs[k].text,aK sk,aK si]/\Rd M (.row .str) xs[k].keys [aK sk]/\Rd M (.row .tree) xs[k].items [aK si]:=by
 obtain⟨b,o,cs,f,c,l⟩:=rowAt H e;have m:RdV M .tree xs[k] (.agg (cut cs (o+k*sz .tree) (sz .tree)).toArray):=by unfold RdV;simp only[dB,if_true];exact⟨_,rfl,l⟩
 obtain⟨sk,si,q,h1,h2⟩:=qq m;refine⟨_,sk,si,f,?_,h1,h2⟩;rw[qh];refine mn ag c (i:=0) ?_;have:(cut cs (o+k*sz .tree) (sz .tree))=[.int .i64 xs[k].kind,.string xs[k].text,aK sk,aK si]:=by injection q with q;exact congrArg Array.toList q
 exact this
def Mx(M:Fr)(b:Nat)(cs:Array Value):Fr:=λi=>if i=b then Td cs else M i
theorem Later.frz(ag:AgM M h)(cs:Array Value)(T:TypeId):Later h M (h.push (.cells cs T)) (Mx M h.size cs) where
 keep:=Keep.push _ _ (Uc _)
 le:=λb c e=>by have:=ag.lt e;unfold Mx;rw[za (by omega)];exact e
 old:=λb hb=>by unfold Mx;rw[za (by omega)]
 ag:=λb c e=>by unfold Mx at e;split at e;rename_i hb;subst hb;cases e;exact⟨T,(0,0),yx _ _⟩;obtain⟨T',m,e'⟩:=ag b c e;exact⟨T',m,by rw[(Keep.push h _ (Uc _)).get b (ag.lt e)];exact e'⟩
theorem FE(M:Fr)(b:Nat)(cs:Array Value):Mx M b cs b=Td cs:=by unfold Mx;rw[zA rfl]
theorem kT{T:TypeId}(k:Keep (h.size+1) (h.push (.cells cs.toArray T)) h'):zd h' ⟨h.size,0,Te⟩ 0 cs:= ((Blk.new h cs.toArray T).keep (k.get _ (by omega))).ld
theorem Lo{T:TypeId}(k:Keep (h.size+1) (h.push (.cells cs.toArray T)) h'){i:Nat}(b:cs[i]?=Td v):zc h' ((⟨h.size,0,Te⟩:Addr).add i)=Td v:=by have:=((Blk.new h cs.toArray T).keep (k.get _ (by omega)));exact this.cellAdd (o:=0) (by simpa using b)
end
end
section
open Go.ChangeShapes Go.WideShapes Go.RowKit
set_option linter.unusedVariables false
section
variable {a:Addr} {cs:List Value} {fuel:Nat} {t e:TypeId} {P:Program}
def Fz(W:World):Fr:=λb=>match W.heap[b]? with|some (.cells cs _ _)=>some cs|_=>none
theorem Fz.ag(W:World):AgM (Fz W) W.heap:=by intro b c e;unfold Fz at e;split at e;rename_i cs T m f;cases e;exact⟨T,m,f⟩;cases e
theorem Fz.cell{W:World}{v:Value}(h:W.cell? a=some v):∃b o c,a=⟨b,o,none⟩/\Fz W b=some c/\c[o]?=some v:=by
 obtain⟨b,o,sp⟩:=a;unfold World.cell? at h;split at h;rename_i c T m e;cases sp with
 |some x=>simp at h
 |none=>refine⟨b,o,c,rfl,?_,by simpa using h⟩;unfold Fz;change W.heap[b]?=_ at e;rw[e]
 cases h
theorem Fz.cells{W:World}{n:Nat}(h:W.cells? 0 a n=some cs)(s:0<n):∃b o c,a=⟨b,o,none⟩/\Fz W b=some c/\cut c o n=cs:=by
 obtain⟨_,t,p⟩:=World.cells?_some h;have h0:=p 0 s;rw[Ul (by omega)]at h0;obtain⟨b,o,c,e,l,_⟩:=Fz.cell h0;obtain⟨r,m,sp⟩:=a;rw[show Ua ⟨r,m,sp⟩ 0=⟨r,m,sp⟩from rfl]at e;cases e;refine⟨b,o,c,rfl,l,?_⟩;have f:∀i,i<n->c[o+i]?=cs[i]?:=λi hi=>by have h1:=p i hi;rw[Ul (by omega)]at h1 ⊢;obtain⟨b2,u,c2,q,k,h2⟩:=Fz.cell h1;rw[zj]at q;cases q;rw[l]at k;cases k;exact h2
 unfold cut;apply Vd;intro i;by_cases hi:i<n;rw[UU,if_pos hi,Va,<-f i hi];simp;rw[UU,if_neg hi,WC (by omega)]
theorem GR{α:Type}{Q:Nat->α->Prop}(n:Nat)(h:∀i,i<n->∃z,Q i z):∃xs:List α,xs.length=n/\∀i (hi:i<xs.length),Q i xs[i]:=by refine⟨List.ofFn λi:Fin n=>Classical.choose (h i i.2),by simp,λi hi=>?_⟩;rw[List.getElem_ofFn];exact Classical.choose_spec (h i (by simpa using hi))
section
variable {H : Type} {enc : TypeId × Value -> H} {P : Program} {W : World} {sp : Nat -> Bool} {held : Bool}
def iK(P:Program)(t:TypeId)(d:DataW H):Prop:=∀n∈d.weights P t,n<=reachBytes
theorem yV{e:TypeId}{y:DataW H}:∀{l:List (DataW H)},y∈l->∀n∈y.weights P e,n∈DataW.weightsAll P e l
 |x::l,b,n,hn=>by unfold DataW.weightsAll;rcases Uj.1 b with rfl|b;exact Un _ hn;exact Uw _ (yV b n hn)
theorem Ft{T : Ty}{x : DataW H × List MemPlace}(ht : P.underlying t = some (.slice e))(hz : P.cellsOf e = sz T)(hp : 0 < sz T)(hby : 0 < P.bytesOf e) (hel : ∀ n, n < fuel -> ∀ cs y, DataW.trod enc P W 0 sp held n e cs = some y -> iK P e y.1 -> ∃ z : El T, Rd (Fz W) T z cs)
    (h : DataW.trod enc P W 0 sp held fuel t cs = some x) (hw : iK P t x.1) : ∃ xs : List (El T), Rd (Fz W) (.row T) xs cs := by
  rcases DataW.trod_slice ht h with ⟨rfl, _⟩ | ⟨a, len, cap, elems, rest, n, rfl, rfl, hx, _, hlc, hcap, hlen, hi, _, _⟩;exact ⟨[], _, rfl, none, 0, rfl, ⟨by simp, by simp⟩, .inl rfl⟩
  · have hwt : ∀ m, m = (elems.length + rest.length) * P.bytesOf e \/ m ∈ DataW.weightsAll P e (elems.map (·.1)) -> m <= reachBytes := λm hm => hw m (by rw [hx];unfold DataW.weights;rw [ht];simp only [Uj, Uv, Um];rcases hm with hm | hm;exact .inl hm;exact .inr (.inl hm));have hmax : len <= 140737488355328 := by
      have h1 := hwt _ (.inl rfl);have h2 : elems.length + rest.length <= (elems.length + rest.length) * P.bytesOf e := Nat.le_mul_of_pos_right _ hby;have h3 : reachBytes <= 140737488355328 := by decide
      omega
    have key : ∀ i, i < len -> ∃ z : El T, ∃ b o c, a.add (i * sz T) = ⟨b, o, none⟩ /\ Fz W b = some c /\ Rd (Fz W) T z (cut c o (sz T)) := λi hil => by have h1 := hi i hil;rw [Ul (by omega), Option.bind_eq_some_iff] at h1;obtain ⟨cc, h2, h3⟩ := h1;rw [hz] at h2;obtain ⟨b, o, c, e1, e2, e3⟩ := Fz.cells h2 hp;obtain ⟨z, hz⟩ := hel n (by omega) _ _ h3 λm hm => hwt m (.inr (yV (US.2 ⟨elems[i], Up (by omega), rfl⟩) m hm));exact ⟨z, b, o, c, e1, e2, by rw [e3]; exact hz⟩
    obtain ⟨xs, hxl, hxs⟩ := GR len key;subst hxl;refine ⟨xs, _, rfl, some a, cap, rfl, ⟨by omega, hlc⟩, ?_⟩;by_cases h0 : xs.length = 0;exact .inl (UK h0);obtain ⟨b, o, c, e1, e2, _⟩ := hxs 0 (by omega);obtain ⟨ab, ao, asp⟩ := a;rw [Nat.zero_mul, show Ua ⟨ab, ao, asp⟩ 0 = ⟨ab, ao, asp⟩ from rfl] at e1;cases e1;refine .inr ⟨b, o, c, rfl, e2, λi hil => ?_⟩;obtain ⟨b', o', c', e1', e2', e3'⟩ := hxs i hil;rw [zj] at e1';cases e1';rw [e2] at e2'; cases e2';simpa using e3'
theorem CB{x:DataW H×List MemPlace}(b:P.underlying t=some .string)(h:DataW.trod enc P W 0 sp held fuel t cs=some x):∃s:El .str,Rd (Fz W) .str s cs:=by obtain⟨s,rfl,_,_⟩:=DataW.trod_string b h;exact⟨s,rfl⟩
theorem PZ{k:IntKind}{x:DataW H×List MemPlace}(b:P.underlying t=some (.int k))(h:DataW.trod enc P W 0 sp held fuel t cs=some x):∃s:El (.int k),Rd (Fz W) (.int k) s cs:=by obtain⟨s,rfl,_,_⟩:=DataW.trod_int b h;exact⟨s,rfl⟩
theorem FT{x:DataW H×List MemPlace}(k:P.underlying t=some (.slice e))(f:P.underlying e=some .string)(l:P.cellsOf e=1)(b:0<P.bytesOf e)
  (h:DataW.trod enc P W 0 sp held fuel t cs=some x) (c:iK P t x.1):∃xs:List ByteArray,Rd (Fz W) (.row .str) xs cs:=
 Ft (T:=.str) k l (by decide) b (λn _ cs y i _=>CB f i) h c
theorem four{a b c d:Value}(f:cs.length=4)(h0:(cs.drop 0).take 1=[a])(h1:(cs.drop 1).take 1=[b])(h2:(cs.drop 2).take 1=[c])(e:(cs.drop 3).take 1=[d]):cs=[a,b,c,d]:=by
 match cs,f with
 |[w,x,y,z],_=>simp at h0 h1 h2 e;subst h0;subst h1;subst h2;subst e;rfl
theorem Mm{c ts tss tvs tk:TypeId}{o p e i:Field}(I:P.underlying c=some (.struct #[o,p,e,i]))(F:P.cellsOf c=4) (Z:o.type=tk/\o.offset=0/\p.type=ts/\p.offset=1/\e.type=tss/\e.offset=2/\i.type=tvs/\i.offset=3) (N:P.underlying tk=some (.int .i64)) (us:P.underlying ts=some .string) (w:P.underlying tss=some (.slice ts)) (u:P.underlying tvs=some (.slice c)) (V:P.cellsOf tk=1) (cs':P.cellsOf ts=1) (q:P.cellsOf tss=1) (z:P.cellsOf tvs=1) (bs:0<P.bytesOf ts) (bv:0<P.bytesOf c):
  ∀(fuel:Nat) (cs:List Value) (x:DataW H×List MemPlace),DataW.trod enc P W 0 sp held fuel c cs=some x->iK P c x.1->∃t:Tr,Rd (Fz W) .tree t cs:=by
 intro fuel;induction fuel using YD with
 |_ fuel ih=>intro cs x h hw;obtain⟨xs,n,rfl,hx,hl,r,b⟩:=DataW.trod_struct I h;have l:∀(j:Nat) (f:Field) (L:j<xs.length),(#[o,p,e,i]:Array Field)[j]?=some f->iK P f.type (xs[j]).1:=λj f L hf m J=>hw m (by rw[hx];unfold DataW.weights;rw[I];exact DataW.weights_mem_each (j:=j) (t:=f.type) (d:=(xs[j]).1) (by rw[U2,VF,hf];rfl) (by rw[U2,Ul L];rfl) m J);obtain⟨a0,o0,a1,Y,a2,S,E,o3⟩:=Z;have D:=b 0 o rfl;have G:=b 1 p rfl;have C:=b 2 e rfl;have M:=b 3 i rfl;have B:xs.length=4:=r;rw[a0,o0,V,Ul (by omega)]at D;rw[a1,Y,cs',Ul (by omega)]at G;rw[a2,S,q,Ul (by omega)]at C;rw[E,o3,z,Ul (by omega)]at M;obtain⟨k,O⟩:=PZ N D;obtain⟨s,e1⟩:=CB us G;obtain⟨ks,U⟩:=FT w us cs' bs C (by have:=l 2 e (by omega) rfl;rw[a2]at this;exact this);obtain⟨is,e3⟩:=Ft (T:=.tree) u F (by decide) bv (λm J cs y hy A=>ih m (by omega) cs y hy A) M (by have:=l 3 i (by omega) rfl;rw[E]at this;exact this);obtain⟨vk,q2,h2⟩:=U;obtain⟨vi,Q,h3⟩:=e3;have:=four (hl.trans F) O e1 q2 Q;subst this;exact⟨.mk k s ks is,TrRd.of ⟨vk,rfl,h2⟩ ⟨vi,rfl,h3⟩⟩
end
theorem Hu{f:FuncId}{W:World}{args:List Arg}{vs:Array Value}(H:PC P (Fz W) f args [.bool] (λr=>r=true))(i:fV (Fz W) args vs.toList):
  Calls P f vs W λe w'=>e=.returned (.bool true)/\Below W.heap.size W w':=by
 have c:=H W.heap (Fz W) vs.toList (Fr.le.refl _) (Fz.ag W) i;rw[Array.toArray_toList]at c;refine(c W W.drawn).mono ?_;rintro e w' ⟨v,l,h',rfl,rfl,k,M',r,_,_,_,h,b⟩;have b:r=true:=b;subst b;rw[dt h];exact⟨rfl,rfl,rfl,rfl,k.size,k.get⟩
theorem QD{M:Fr}{t:Tr}{cs:Array Value}(h:Rd M .tree t cs.toList):RdV M .tree t (.agg cs):=by unfold RdV;simp only[dB,if_true];exact⟨cs.toList,by simp,h⟩
theorem Fz.var{W:World}{n:String}{g:Nat}{cs:Array Value}(b:P.globalNamed n=some g)(h:W.var? P n=some cs):Fz W g=some cs:=by unfold World.var? at h;rw[b]at h;exact h
end
end
end Go.X
namespace Go.Proofs
section
theorem Tryz.mixed:UN.follows .mixedOrders=true:=by kernel_rfl
noncomputable abbrev Tp:= UN
end
end Go.Proofs
namespace Go.X
section
section
theorem PF{gl:Fr}{args:List Arg}{f:FuncId}{fn:Func}{rt:List Ty}{R:dm rt->Prop}{F:Prop}(pl:PlanA)(rs:List ResultVar)(n:Nat)(b:UN.funcs[f]?=Td fn)(H:F)(h:Q7 fn=Ta:=by kernel_rfl)(c:fn.results.toList=rs:=by kernel_rfl)(i:fn.ntmps=n:=by kernel_rfl)(k:Nat.ble args.length n=Ta:=by kernel_rfl)(e:F=WA Tp gl 25 n pl (codeOf fn) [] (uw Tp rs rt R) (i5 0 args) []:=by kernel_rfl):PC Tp gl f args rt R:=OW Tryz.mixed gl 25 pl args b h c i k H e
theorem Lx(gl:Fr)(f:Tr)(e:Int)(R:Bool->Prop) (H:PC Tp gl 53 [Arg.mk .tree (Tr.mk f.kind f.text f.keys f.items),Arg.mk p3 e,Arg.mk p3 0] [.int .i64] (λa:Int=>∃b:Bool->Prop,(decide (a>=0)=Ta->PC Tp gl 54 [Arg.mk .tree (Tr.mk f.kind f.text f.keys f.items)] [.bool] b)/\∀c:Bool,(decide (a>=0)=Ta->b c)->R (bif (decide (a>=0))then c else Tc))):
  PC Tp gl 12 [Arg.mk .tree f,Arg.mk p3 e] [.bool] R:=
 PF ⟨[],[],[],[]⟩ [.tmp 4] 15 Tryz.func12 H
theorem F3(gl:Fr)(h:Tr)(b1:Tr)(R:Bool->Prop) (H:((bif (bif (bif (h.kind != b1.kind)then Ta else(!(h.text.toList==b1.text.toList)))then Ta else((h.keys.length:Int) != (b1.keys.length:Int)))then Ta else((h.items.length:Int) != (b1.items.length:Int)))=Ta->R Tc)/\((bif (bif (bif (h.kind != b1.kind)then Ta else(!(h.text.toList==b1.text.toList)))then Ta else((h.keys.length:Int) != (b1.keys.length:Int)))then Ta else((h.items.length:Int) != (b1.items.length:Int)))=Tc->∃(a:Int->Prop) (b:Int->Nat),a 0/\∀c:Int,a c->((decide (c<h.keys.length)=Ta->∃d,(0<=c/\h.keys[c.toNat]?=Td d)/\∃e,(0<=c/\b1.keys[c.toNat]?=Td e)/\((!(d.toList==e.toList))=Ta->R Tc)/\((!(d.toList==e.toList))=Tc->(a (hZ (c+1))/\b (hZ (c+1))<b c)))/\(decide (c<h.keys.length)=Tc->∃(f:Int->Prop) (g:Int->Nat),f 0/\∀i:Int,f i->((decide (i<h.items.length)=Ta->∃j,(0<=i/\h.items[i.toNat]?=Td j)/\∃k,(0<=i/\b1.items[i.toNat]?=Td k)/\PC Tp gl 17 [Arg.mk .tree (Tr.mk j.kind j.text j.keys j.items),Arg.mk .tree (Tr.mk k.kind k.text k.keys k.items)] [.bool] (λl:Bool=>((!l)=Ta->R Tc)/\((!l)=Tc->(f (hZ (i+1))/\g (hZ (i+1))<g i))))/\(decide (i<h.items.length)=Tc->R Ta)))))):
  PC Tp gl 17 [Arg.mk .tree h,Arg.mk .tree b1] [.bool] R:=
 PF ⟨[(11,10)],[],[(4,⟨[(5,.one (.dat p3))],[],[2,3],[100320]⟩),(9,⟨[(6,.one (.dat p3))],[],[2,3],[100384]⟩)],[]⟩ [.tmp 4] 76 Tryz.func17 H
theorem JK(gl:Fr)(b:List Bt)(c:List Tr)(R:Tr->Prop) (H:R (Tr.mk 6 (⟨#[]⟩:Bt) b c)):
  PC Tp gl 47 [Arg.mk (.row .str) b,Arg.mk (.row .tree) c] [.tree] R:=
 PF ⟨[],[],[],[]⟩ [.cell 4 25] 8 Tryz.func47 H
theorem RB(gl:Fr)(b:List Tr)(R:Tr->Prop) (H:R (Tr.mk 5 (⟨#[]⟩:Bt) [] b)):
  PC Tp gl 52 [Arg.mk (.row .tree) b] [.tree] R:=
 PF ⟨[],[],[],[]⟩ [.cell 2 25] 5 Tryz.func52 H
theorem Si(gl:Fr)(n0:Int)(R:Tr->Prop) (H:PC Tp gl 93 [Arg.mk p3 n0] [.pair .bool (.pair .str (.int .i64))] (λa:Bool×Bt×Int=>PC Tp gl 92 [Arg.mk (.pair .bool (.pair .str (.int .i64))) (a.1,(a.2.1,a.2.2))] [.str] (λb:Bt=>R (Tr.mk 3 b [] [])))):
  PC Tp gl 51 [Arg.mk p3 n0] [.tree] R:=
 PF ⟨[],[],[],[]⟩ [.cell 2 25] 7 Tryz.func51 H
theorem KU(gl:Fr)(k:Tr)(i:Int)(h:Int)(R:Int->Prop) (H:(decide (h>60)=Ta->R (-1))/\(decide (h>60)=Tc->∃(a:Int->Int->Prop) (b:Int->Int->Nat),a (hZ ((hZ (i-1))-(k.keys.length:Int))) 0/\∀c d:Int,a c d->(((bif (decide (d<k.items.length))then(decide (c>=0))else Tc)=Ta->∃e,(0<=d/\k.items[d.toNat]?=Td e)/\PC Tp gl 53 [Arg.mk .tree (Tr.mk e.kind e.text e.keys e.items),Arg.mk p3 c,Arg.mk p3 (hZ (h+1))] [.int .i64] (λf:Int=>(a f (hZ (d+1))/\b f (hZ (d+1))<b c d)))/\((bif (decide (d<k.items.length))then(decide (c>=0))else Tc)=Tc->R c)))):
  PC Tp gl 53 [Arg.mk .tree k,Arg.mk p3 i,Arg.mk p3 h] [.int .i64] R:=
 PF ⟨[],[],[(5,⟨[(1,.one (.dat p3)),(7,.one (.dat p3))],[],[3],[100064,100448]⟩)],[]⟩ [.tmp 6] 37 Tryz.func53 H
theorem R8(gl:Fr)(h:Tr)(R:Bool->Prop) (H:(decide ((h.text.size:Int)>2048)=Ta->R Tc)/\(decide ((h.text.size:Int)>2048)=Tc->∃(a:Int->Prop) (b:Int->Nat),a 0/\∀c:Int,a c->((decide (c<h.keys.length)=Ta->∃d,(0<=c/\h.keys[c.toNat]?=Td d)/\(decide ((d.size:Int)>1024)=Ta->R Tc)/\(decide ((d.size:Int)>1024)=Tc->(a (hZ (c+1))/\b (hZ (c+1))<b c)))/\(decide (c<h.keys.length)=Tc->∃(e:Int->Prop) (f:Int->Nat),e 0/\∀g:Int,e g->((decide (g<h.items.length)=Ta->∃i,(0<=g/\h.items[g.toNat]?=Td i)/\PC Tp gl 54 [Arg.mk .tree (Tr.mk i.kind i.text i.keys i.items)] [.bool] (λj:Bool=>((!j)=Ta->R Tc)/\((!j)=Tc->(e (hZ (g+1))/\f (hZ (g+1))<f g))))/\(decide (g<h.items.length)=Tc->R Ta)))))):
  PC Tp gl 54 [Arg.mk .tree h] [.bool] R:=
 PF ⟨[],[],[(4,⟨[(3,.one (.dat p3))],[],[1],[100192]⟩),(9,⟨[(4,.one (.dat p3))],[],[1],[100256]⟩)],[]⟩ [.tmp 2] 39 Tryz.func54 H
theorem IS(gl:Fr)(f:Tr)(R:Bool->Prop) (H:PC Tp gl 102 [Arg.mk .tree (Tr.mk f.kind f.text f.keys f.items)] [.int .i64] (λa:Int=>∃b:Int->Prop,(decide (a<=4096)=Ta->PC Tp gl 103 [Arg.mk .tree (Tr.mk f.kind f.text f.keys f.items)] [.int .i64] b)/\∀c:Int,(decide (a<=4096)=Ta->b c)->∃d:Bool->Prop,((bif (decide (a<=4096))then(decide (c<=32))else Tc)=Ta->PC Tp gl 104 [Arg.mk .tree (Tr.mk f.kind f.text f.keys f.items),Arg.mk .bool Ta] [.bool] d)/\∀e:Bool,((bif (decide (a<=4096))then(decide (c<=32))else Tc)=Ta->d e)->R (bif (bif (decide (a<=4096))then(decide (c<=32))else Tc)then e else Tc))):
  PC Tp gl 106 [Arg.mk .tree f] [.bool] R:=
 PF ⟨[],[],[],[]⟩ [.tmp 2] 15 Tryz.func106 H
theorem HJ(gl:Fr)(f:Bt)(R:(Int×Bool)->Prop) (H:∃(a:Int->Prop) (b:Int->Nat),a 0/\∀c:Int,a c->((decide (c<f.size)=Ta->PC Tp gl 258 [Arg.mk .str f,Arg.mk p3 c] [.bool] (λd:Bool=>((!d)=Ta->R (c,Tc))/\((!d)=Tc->PC Tp gl 259 [Arg.mk .str f,Arg.mk p3 c] [.int .i32,.int .i64] (λe:Int×Int=>(a (hZ (c+e.2))/\b (hZ (c+e.2))<b c)))))/\(decide (c<f.size)=Tc->R ((f.size:Int),Ta)))):
  PC Tp gl 203 [Arg.mk .str f] [.int .i64,.bool] R:=
 PF ⟨[],[],[(2,⟨[(4,.one (.dat p3))],[],[],[100256]⟩)],[]⟩ [.tmp 2,.tmp 3] 29 Tryz.func203 H
theorem Ka(gl:Fr)(n0:Bool×Bt×Int)(R:Bt->Prop) (H:PC Tp gl 158 [Arg.mk (.pair .bool (.pair .str (.int .i64))) (n0.1,(n0.2.1,n0.2.2))] [.bool] (λa:Bool=>((!a)=Ta->R (⟨#[]⟩:Bt))/\((!a)=Tc->((n0.2.1.toList==(⟨#[]⟩:Bt).toList)=Ta->R (⟨#[48]⟩:Bt))/\((n0.2.1.toList==(⟨#[]⟩:Bt).toList)=Tc->∀b:Bt->Prop,(∀c:Bt,(((n0.2.2 != 0)=Ta->PC Tp gl 159 [Arg.mk p3 n0.2.2] [.str] (λd:Bt=>zw (((⟨#[101]⟩:Bt)).size+d.size)/\zw (c.size+((⟨#[101]⟩:Bt)++d).size)/\R (c++((⟨#[101]⟩:Bt)++d))))/\((n0.2.2 != 0)=Tc->R c))->b c)->(n0.1=Ta->zw (((⟨#[45]⟩:Bt)).size+n0.2.1.size)/\b ((⟨#[45]⟩:Bt)++n0.2.1))/\(n0.1=Tc->b n0.2.1))))):
  PC Tp gl 92 [Arg.mk (.pair .bool (.pair .str (.int .i64))) n0] [.str] R:=
 PF ⟨[],[],[],[(8,⟨[(3,.one (.dat .str))],[],[1],[100192]⟩)]⟩ [.tmp 2] 26 Tryz.func92 H
theorem Of(gl:Fr)(n0:Int)(R:(Bool×Bt×Int)->Prop) (H:PC Tp gl 159 [Arg.mk p3 n0] [.str] (λa:Bt=>PC Tp gl 160 [Arg.mk .str a] [.pair .bool (.pair .str (.int .i64)),.int .i64] (λb:(Bool×Bt×Int)×Int=>R (b.1.1,(b.1.2.1,b.1.2.2))))):
  PC Tp gl 93 [Arg.mk p3 n0] [.pair .bool (.pair .str (.int .i64))] R:=
 PF ⟨[],[],[],[]⟩ [.cell 2 110] 12 Tryz.func93 H
theorem Mf(gl:Fr)(f:Bt)(R:(Int×Bool)->Prop) (H:PC Tp gl 246 [Arg.mk .str f] [.bool] (λa:Bool=>(a=Ta->R ((f.size:Int),Ta))/\(a=Tc->∃(b:(Bt×Nat)->Prop) (c:(Bt×Nat)->Nat),b (f,0)/\∀e:Bt×Nat,b e->(((dy e.1 e.2)=Ta->(dy e.1 e.2)=Ta/\(dy e.1 e.2)=Ta/\(((eA e.1 e.2:Int) != 65533)=Ta->(b (e.1,dE e.1 e.2)/\c (e.1,dE e.1 e.2)<c e))/\(((eA e.1 e.2:Int) != 65533)=Tc->(0<=(e.2:Int)/\(e.2:Int)<=(f.size:Int)/\(f.size:Int)<=(f.size:Int))/\PC Tp gl 247 [Arg.mk .str (f.extract (e.2:Int).toNat (f.size:Int).toNat)] [.int .i32,.int .i64] (λd:Int×Int=>((d.2==1)=Ta->R ((e.2:Int),Tc))/\((d.2==1)=Tc->(b (e.1,dE e.1 e.2)/\c (e.1,dE e.1 e.2)<c e)))))/\((dy e.1 e.2)=Tc->R ((f.size:Int),Ta)))))):
  PC Tp gl 196 [Arg.mk .str f] [.int .i64,.bool] R:=
 PF ⟨[],[],[(4,⟨[],[(13,[.dat .iter])],[],[1000832]⟩)],[]⟩ [.tmp 2,.tmp 3] 32 Tryz.func196 H
theorem SE(gl:Fr)(e:Tr)(R:Bool->Prop) (H:PC Tp gl 43 [Arg.mk .tree (Tr.mk e.kind e.text e.keys e.items)] [.int .i64] (λa:Int=>∃b:Int->Prop,(decide (a<=4096)=Ta->PC Tp gl 144 [Arg.mk .tree (Tr.mk e.kind e.text e.keys e.items)] [.int .i64] b)/\∀c:Int,(decide (a<=4096)=Ta->b c)->R (bif (decide (a<=4096))then(decide (c<=32))else Tc))):
  PC Tp gl 86 [Arg.mk .tree e] [.bool] R:=
 PF ⟨[],[],[],[]⟩ [.tmp 2] 11 Tryz.func86 H
theorem PQ(gl:Fr)(e:Tr)(R:Bool->Prop) (H:((e.kind==5)=Ta->R (bif (!(decide ((e.keys.length:Int)>0)))then(e.text.toList==(⟨#[]⟩:Bt).toList)else Tc))/\((e.kind==5)=Tc->((e.kind==6)=Ta->PC Tp gl 147 [Arg.mk (.row .str) e.keys,Arg.mk p3 (e.items.length:Int)] [.bool] (λa:Bool=>R (bif a then(e.text.toList==(⟨#[]⟩:Bt).toList)else Tc)))/\((e.kind==6)=Tc->((bif (decide ((e.keys.length:Int)>0))then Ta else(decide ((e.items.length:Int)>0)))=Ta->R Tc)/\((bif (decide ((e.keys.length:Int)>0))then Ta else(decide ((e.items.length:Int)>0)))=Tc->((e.kind==1)=Ta->R (e.text.toList==(⟨#[]⟩:Bt).toList))/\((e.kind==1)=Tc->((e.kind==2)=Ta->R (bif (e.text.toList==(⟨#[116,114,117,101]⟩:Bt).toList)then Ta else(e.text.toList==(⟨#[102,97,108,115,101]⟩:Bt).toList)))/\((e.kind==2)=Tc->((e.kind==3)=Ta->PC Tp gl 148 [Arg.mk .str e.text] [.pair .bool (.pair .str (.int .i64)),.bool] (λb:(Bool×Bt×Int)×Bool=>R b.2))/\((e.kind==3)=Tc->((e.kind==4)=Ta->PC Tp gl 149 [Arg.mk .str e.text] [.bool] (λc:Bool=>R c))/\((e.kind==4)=Tc->((e.kind==7)=Ta->PC Tp gl 150 [Arg.mk .str e.text] [.bool] (λd:Bool=>R d))/\((e.kind==7)=Tc->R Tc))))))))):
  PC Tp gl 89 [Arg.mk .tree e] [.bool] R:=
 PF ⟨[],[],[],[]⟩ [.tmp 2] 79 Tryz.func89 H
theorem T6(gl:Fr)(h:Tr)(R:Int->Prop) (H:∃(a:Int->Int->Prop) (b:Int->Int->Nat),a 1 0/\∀c d:Int,a c d->((decide (d<h.items.length)=Ta->∃e,(0<=d/\h.items[d.toNat]?=Td e)/\PC Tp gl 102 [Arg.mk .tree (Tr.mk e.kind e.text e.keys e.items)] [.int .i64] (λf:Int=>(a (hZ (c+f)) (hZ (d+1))/\b (hZ (c+f)) (hZ (d+1))<b c d)))/\(decide (d<h.items.length)=Tc->R c))):
  PC Tp gl 102 [Arg.mk .tree h] [.int .i64] R:=
 PF ⟨[],[],[(3,⟨[(3,.one (.dat p3)),(4,.one (.dat p3))],[],[1],[100192,100256]⟩)],[]⟩ [.tmp 2] 21 Tryz.func102 H
theorem TQ(gl:Fr)(h:Tr)(R:Int->Prop) (H:∃(a:Int->Int->Prop) (b:Int->Int->Nat),a 0 0/\∀c d:Int,a c d->((decide (d<h.items.length)=Ta->∃e,(0<=d/\h.items[d.toNat]?=Td e)/\PC Tp gl 103 [Arg.mk .tree (Tr.mk e.kind e.text e.keys e.items)] [.int .i64] (λf:Int=>(a (if c<f then f else c) (hZ (d+1))/\b (if c<f then f else c) (hZ (d+1))<b c d)))/\(decide (d<h.items.length)=Tc->R (hZ (c+1))))):
  PC Tp gl 103 [Arg.mk .tree h] [.int .i64] R:=
 PF ⟨[],[],[(3,⟨[(3,.one (.dat p3)),(4,.one (.dat p3))],[],[1],[100192,100256]⟩)],[]⟩ [.tmp 2] 22 Tryz.func103 H
theorem R4(gl:Fr)(i:Tr)(h:Bool)(R:Bool->Prop) (H:PC Tp gl 163 [Arg.mk .tree (Tr.mk i.kind i.text i.keys i.items)] [.bool] (λa:Bool=>((bif (!a)then Ta else(bif (i.kind==7)then(!h)else Tc))=Ta->R Tc)/\((bif (!a)then Ta else(bif (i.kind==7)then(!h)else Tc))=Tc->∃(b:Int->Prop) (c:Int->Nat),b 0/\∀d:Int,b d->((decide (d<i.items.length)=Ta->∃e,(0<=d/\i.items[d.toNat]?=Td e)/\PC Tp gl 104 [Arg.mk .tree (Tr.mk e.kind e.text e.keys e.items),Arg.mk .bool h] [.bool] (λf:Bool=>((!f)=Ta->R Tc)/\((!f)=Tc->(b (hZ (d+1))/\c (hZ (d+1))<c d))))/\(decide (d<i.items.length)=Tc->R Ta))))):
  PC Tp gl 104 [Arg.mk .tree i,Arg.mk .bool h] [.bool] R:=
 PF ⟨[],[],[(5,⟨[(6,.one (.dat p3))],[],[2],[100384]⟩)],[]⟩ [.tmp 4] 37 Tryz.func104 H
theorem HD(gl:Fr)(c:Bt)(b:Int)(R:Bool->Prop) (H:PC Tp gl 259 [Arg.mk .str c,Arg.mk p3 b] [.int .i32,.int .i64] (λa:Int×Int=>R (bif (decide (a.2>0))then(!(bif (a.1==65533)then(a.2==1)else Tc))else Tc))):
  PC Tp gl 258 [Arg.mk .str c,Arg.mk p3 b] [.bool] R:=
 PF ⟨[],[],[],[]⟩ [.tmp 4] 24 Tryz.func258 H
theorem Sq(gl:Fr)(m:Bt)(h:Int)(R:(Int×Int)->Prop) (H:((bif (decide (h<0))then Ta else(decide (h>=m.size)))=Ta->R (0,0))/\((bif (decide (h<0))then Ta else(decide (h>=m.size)))=Tc->(0<=h/\h<m.size)/\PC Tp gl 309 [Arg.mk p3 (hZ (ze m h.toNat))] [.int .i64] (λa:Int=>((bif (a==0)then Ta else(decide (a>(hZ ((m.size:Int)-h)))))=Ta->R (65533,1))/\((bif (a==0)then Ta else(decide (a>(hZ ((m.size:Int)-h)))))=Tc->(0<=h/\h<m.size)/\∀b:Int->Prop,(∀c:Int,(∀d:Int->Prop,(∀e:Int,(∀f:Int->Prop,(∀g:Int,(∃(i:Int->Int->Prop) (j:Int->Int->Nat),i g 1/\∀k l:Int,i k l->((decide (l<a)=Ta->(0<=(hZ (h+l))/\(hZ (h+l))<(m.size:Int))/\((bif (decide ((hZ (ze m (hZ (h+l):Int).toNat))<128))then Ta else(decide ((hZ (ze m (hZ (h+l):Int).toNat))>191)))=Ta->R (65533,1))/\((bif (decide ((hZ (ze m (hZ (h+l):Int).toNat))<128))then Ta else(decide ((hZ (ze m (hZ (h+l):Int).toNat))>191)))=Tc->(i (hZ ((hZ ((hZ (64*k))+(hZ (ze m (hZ (h+l)).toNat))))-128)) (hZ (l+1))/\j (hZ ((hZ ((hZ (64*k))+(hZ (ze m (hZ (h+l)).toNat))))-128)) (hZ (l+1))<j k l)))/\(decide (l<a)=Tc->((bif (bif (bif (bif (a==3)then(decide (k<2048))else Tc)then Ta else(bif (a==4)then(decide (k<65536))else Tc))then Ta else(decide (k>1114111)))then Ta else(bif (decide (k>=55296))then(decide (k<57344))else Tc))=Ta->R (65533,1))/\((bif (bif (bif (bif (a==3)then(decide (k<2048))else Tc)then Ta else(bif (a==4)then(decide (k<65536))else Tc))then Ta else(decide (k>1114111)))then Ta else(bif (decide (k>=55296))then(decide (k<57344))else Tc))=Tc->R (T9 .i32 k,a)))))->f g)->((a==4)=Ta->f (hZ (e-240)))/\((a==4)=Tc->f e))->d e)->((a==3)=Ta->d (hZ (c-224)))/\((a==3)=Tc->d c))->b c)->((a==2)=Ta->b (hZ ((hZ (ze m h.toNat))-192)))/\((a==2)=Tc->b (hZ (ze m h.toNat))))))):
  PC Tp gl 259 [Arg.mk .str m,Arg.mk p3 h] [.int .i32,.int .i64] R:=
 PF ⟨[],[],[(14,⟨[(7,.one (.dat p3)),(8,.one (.dat p3))],[],[],[100448,100512]⟩)],[(9,⟨[(7,.one (.dat p3))],[],[],[100448]⟩),(11,⟨[(7,.one (.dat p3))],[],[],[100448]⟩),(13,⟨[(7,.one (.dat p3))],[],[],[100448]⟩)]⟩ [.tmp 4,.tmp 5] 100 Tryz.func259 H
theorem HC(gl:Fr)(n0:Bool×Bt×Int)(R:Bool->Prop) (H:(((n0.1==Tc)&&((n0.2.1.toList==(⟨#[]⟩:Bt).toList)&&((n0.2.2==0)&&Ta)))=Ta->R Ta)/\(((n0.1==Tc)&&((n0.2.1.toList==(⟨#[]⟩:Bt).toList)&&((n0.2.2==0)&&Ta)))=Tc->PC Tp gl 215 [Arg.mk .str n0.2.1] [.bool] (λa:Bool=>((!a)=Ta->((!a)=Ta->R Tc)/\((!a)=Tc->R (bif (decide (n0.2.2>=(-1000000)))then(decide (n0.2.2<=1000000))else Tc)))/\((!a)=Tc->(decide ((n0.2.1.size:Int)>1000)=Ta->(decide ((n0.2.1.size:Int)>1000)=Ta->R Tc)/\(decide ((n0.2.1.size:Int)>1000)=Tc->R (bif (decide (n0.2.2>=(-1000000)))then(decide (n0.2.2<=1000000))else Tc)))/\(decide ((n0.2.1.size:Int)>1000)=Tc->(0<=(0:Int)/\(0:Int)<(n0.2.1.size:Int))/\(((ze n0.2.1 (0:Int).toNat:Int)==48)=Ta->(((ze n0.2.1 (0:Int).toNat:Int)==48)=Ta->R Tc)/\(((ze n0.2.1 (0:Int).toNat:Int)==48)=Tc->R (bif (decide (n0.2.2>=(-1000000)))then(decide (n0.2.2<=1000000))else Tc)))/\(((ze n0.2.1 (0:Int).toNat:Int)==48)=Tc->(0<=(hZ ((n0.2.1.size:Int)-1))/\(hZ ((n0.2.1.size:Int)-1))<(n0.2.1.size:Int))/\(((ze n0.2.1 (hZ ((n0.2.1.size:Int)-1)).toNat:Int)==48)=Ta->R Tc)/\(((ze n0.2.1 (hZ ((n0.2.1.size:Int)-1)).toNat:Int)==48)=Tc->R (bif (decide (n0.2.2>=(-1000000)))then(decide (n0.2.2<=1000000))else Tc)))))))):
  PC Tp gl 158 [Arg.mk (.pair .bool (.pair .str (.int .i64))) n0] [.bool] R:=
 PF ⟨[],[],[],[]⟩ [.tmp 2] 34 Tryz.func158 H
theorem F1(gl:Fr)(r:Bt)(R:((Bool×Bt×Int)×Int)->Prop) (H:PC Tp gl 217 [Arg.mk .str r] [.pair .bool (.pair .bool (.pair .str (.pair .str .str))),.bool] (λa:(Bool×Bool×Bt×Bt×Bt)×Bool=>PC Tp gl 218 [Arg.mk .str a.1.2.2.2.2,Arg.mk .str (⟨#[48]⟩:Bt)] [.str] (λb:Bt=>((!a.2)=Ta->R ((Tc,((⟨#[]⟩:Bt),0)),2))/\((!a.2)=Tc->((decide ((hZ ((a.1.2.2.1.size:Int)+(a.1.2.2.2.1.size:Int)))>1000))=Ta->R ((Tc,((⟨#[]⟩:Bt),0)),3))/\((decide ((hZ ((a.1.2.2.1.size:Int)+(a.1.2.2.2.1.size:Int)))>1000))=Tc->(decide ((b.size:Int)>9)=Ta->R ((Tc,((⟨#[]⟩:Bt),0)),4))/\(decide ((b.size:Int)>9)=Tc->∃(c:Int->Bool->Bt->Int->(Bt×Nat)->Prop) (d:Int->Bool->Bt->Int->(Bt×Nat)->Nat),c 0 Tc (⟨#[]⟩:Bt) 0 (b,0)/\∀e:Int,∀m:Bool,∀l:Bt,∀n:Int,∀h:Bt×Nat,c e m l n h->(((dy h.1 h.2)=Ta->(dy h.1 h.2)=Ta/\(c (hZ ((hZ (10*e))+(hZ (T9 .i32 ((eA h.1 h.2)-48))))) m l n (h.1,dE h.1 h.2)/\d (hZ ((hZ (10*e))+(hZ (T9 .i32 ((eA h.1 h.2)-48))))) m l n (h.1,dE h.1 h.2)<d e m l n h))/\((dy h.1 h.2)=Tc->∀f:Int->Bool->Bt->Int->Prop,(∀g:Int,∀o:Bool,∀q:Bt,∀p:Int,(zw (a.1.2.2.1.size+a.1.2.2.2.1.size)/\PC Tp gl 218 [Arg.mk .str (a.1.2.2.1++a.1.2.2.2.1),Arg.mk .str (⟨#[48]⟩:Bt)] [.str] (λi:Bt=>((i.toList==(⟨#[]⟩:Bt).toList)=Ta->R ((Tc,((⟨#[]⟩:Bt),0)),0))/\((i.toList==(⟨#[]⟩:Bt).toList)=Tc->PC Tp gl 219 [Arg.mk .str i,Arg.mk .str (⟨#[48]⟩:Bt)] [.str] (λj:Bt=>PC Tp gl 158 [Arg.mk (.pair .bool (.pair .str (.int .i64))) (a.1.1,(j,hZ ((hZ ((hZ (g-(a.1.2.2.2.1.size:Int)))+(i.size:Int)))-(j.size:Int))))] [.bool] (λk:Bool=>((!k)=Ta->R ((Tc,((⟨#[]⟩:Bt),0)),4))/\((!k)=Tc->R ((a.1.1,(j,hZ ((hZ ((hZ (g-(a.1.2.2.2.1.size:Int)))+(i.size:Int)))-(j.size:Int)))),0)))))))->f g o q p)->(a.1.2.1=Ta->f (hZ (0-e)) m l n)/\(a.1.2.1=Tc->f e m l n))))))))):
  PC Tp gl 160 [Arg.mk .str r] [.pair .bool (.pair .str (.int .i64)),.int .i64] R:=
 PF ⟨[],[],[(11,⟨[(7,.one (.dat p3))],[(2,[.dat .bool,.dat .str,.dat p3]),(41,[.dat .iter])],[4],[100448,1000128,1000129,1000130,1002624]⟩)],[(16,⟨[(7,.one (.dat p3))],[(2,[.dat .bool,.dat .str,.dat p3])],[4],[100448,1000128,1000129,1000130]⟩)]⟩ [.cell 2 110,.tmp 3] 86 Tryz.func160 H
theorem Nu(gl:Fr)(h:Tr)(R:Int->Prop) (H:∃(a:Int->Int->Prop) (b:Int->Int->Nat),a 1 0/\∀c d:Int,a c d->((decide (d<h.items.length)=Ta->∃e,(0<=d/\h.items[d.toNat]?=Td e)/\PC Tp gl 43 [Arg.mk .tree (Tr.mk e.kind e.text e.keys e.items)] [.int .i64] (λf:Int=>(a (hZ (c+f)) (hZ (d+1))/\b (hZ (c+f)) (hZ (d+1))<b c d)))/\(decide (d<h.items.length)=Tc->R c))):
  PC Tp gl 43 [Arg.mk .tree h] [.int .i64] R:=
 PF ⟨[],[],[(3,⟨[(3,.one (.dat p3)),(9,.one (.dat p3))],[],[],[100192,100576]⟩)],[]⟩ [.tmp 2] 19 Tryz.func43 H
theorem RY(gl:Fr)(h:Tr)(R:Int->Prop) (H:∃(a:Int->Int->Prop) (b:Int->Int->Nat),a 0 0/\∀c d:Int,a c d->((decide (d<h.items.length)=Ta->∃e,(0<=d/\h.items[d.toNat]?=Td e)/\PC Tp gl 144 [Arg.mk .tree (Tr.mk e.kind e.text e.keys e.items)] [.int .i64] (λf:Int=>(a (if c<f then f else c) (hZ (d+1))/\b (if c<f then f else c) (hZ (d+1))<b c d)))/\(decide (d<h.items.length)=Tc->R (hZ (c+1))))):
  PC Tp gl 144 [Arg.mk .tree h] [.int .i64] R:=
 PF ⟨[],[],[(3,⟨[(3,.one (.dat p3)),(9,.one (.dat p3))],[],[],[100192,100576]⟩)],[]⟩ [.tmp 2] 20 Tryz.func144 H
theorem Gp(gl:Fr)(b:Bt)(R:Bool->Prop) (H:PC Tp gl 196 [Arg.mk .str b] [.int .i64,.bool] (λa:Int×Bool=>R a.2)):
  PC Tp gl 149 [Arg.mk .str b] [.bool] R:=
 PF ⟨[],[],[],[]⟩ [.tmp 2] 11 Tryz.func149 H
theorem F4(gl:Fr)(c:Bt)(R:Bool->Prop) (H:PC Tp gl 148 [Arg.mk .str c] [.pair .bool (.pair .str (.int .i64)),.bool] (λa:(Bool×Bt×Int)×Bool=>PC Tp gl 209 [Arg.mk (.pair .bool (.pair .str (.int .i64))) (a.1.1,(a.1.2.1,a.1.2.2))] [.int .i64,.bool] (λb:Int×Bool=>R (bif (bif a.2 then b.2 else Tc)then(decide (b.1>=0))else Tc)))):
  PC Tp gl 150 [Arg.mk .str c] [.bool] R:=
 PF ⟨[],[],[],[]⟩ [.tmp 2] 25 Tryz.func150 H
theorem Rx(gl:Fr)(h:Tr)(R:Bool->Prop) (H:((bif (bif (h.kind != 6)then(decide ((h.keys.length:Int)>0))else Tc)then Ta else(bif (bif (h.kind != 6)then(h.kind != 5)else Tc)then(decide ((h.items.length:Int)>0))else Tc))=Ta->R Tc)/\((bif (bif (h.kind != 6)then(decide ((h.keys.length:Int)>0))else Tc)then Ta else(bif (bif (h.kind != 6)then(h.kind != 5)else Tc)then(decide ((h.items.length:Int)>0))else Tc))=Tc->∀a:Bool->Prop,(∀b:Bool,((b=Ta->R (h.text.toList==(⟨#[]⟩:Bt).toList))/\(b=Tc->((h.kind==2)=Ta->R (bif (h.text.toList==(⟨#[116,114,117,101]⟩:Bt).toList)then Ta else(h.text.toList==(⟨#[102,97,108,115,101]⟩:Bt).toList)))/\((h.kind==2)=Tc->((h.kind==3)=Ta->PC Tp gl 223 [Arg.mk .str h.text] [.pair .bool (.pair .str (.int .i64)),.bool] (λc:(Bool×Bt×Int)×Bool=>R c.2))/\((h.kind==3)=Tc->((h.kind==4)=Ta->PC Tp gl 224 [Arg.mk .str h.text] [.bool] (λd:Bool=>R d))/\((h.kind==4)=Tc->((h.kind==7)=Ta->PC Tp gl 223 [Arg.mk .str h.text] [.pair .bool (.pair .str (.int .i64)),.bool] (λe:(Bool×Bt×Int)×Bool=>PC Tp gl 225 [Arg.mk (.pair .bool (.pair .str (.int .i64))) (e.1.1,(e.1.2.1,e.1.2.2))] [.int .i64,.bool] (λf:Int×Bool=>R (bif (bif e.2 then f.2 else Tc)then(decide (f.1>=0))else Tc))))/\((h.kind==7)=Tc->((h.kind==6)=Ta->∃(g:Int->Prop) (i:Int->Nat),g 0/\∀j:Int,g j->((decide (j<h.keys.length)=Ta->∃k,(0<=j/\h.keys[j.toNat]?=Td k)/\PC Tp gl 224 [Arg.mk .str k] [.bool] (λl:Bool=>((!l)=Ta->R Tc)/\((!l)=Tc->∃(m:Int->Prop) (n:Int->Nat),m 0/\∀o:Int,m o->((decide (o<j)=Ta->∃p,(0<=o/\h.keys[o.toNat]?=Td p)/\∃q,(0<=j/\h.keys[j.toNat]?=Td q)/\((p.toList==q.toList)=Ta->R Tc)/\((p.toList==q.toList)=Tc->(m (hZ (o+1))/\n (hZ (o+1))<n o)))/\(decide (o<j)=Tc->(g (hZ (j+1))/\i (hZ (j+1))<i j))))))/\(decide (j<h.keys.length)=Tc->R (bif (h.text.toList==(⟨#[]⟩:Bt).toList)then((h.keys.length:Int)==(h.items.length:Int))else Tc))))/\((h.kind==6)=Tc->R Tc)))))))->a b)->((h.kind==1)=Ta->a (h.kind==1))/\((h.kind==1)=Tc->a (h.kind==5)))):
  PC Tp gl 163 [Arg.mk .tree h] [.bool] R:=
 PF ⟨[],[],[(20,⟨[(9,.one (.dat p3))],[],[1],[100576]⟩),(26,⟨[(11,.one (.dat p3))],[],[],[100704]⟩)],[(6,⟨[(39,.one (.dat .bool))],[],[1],[102496]⟩)]⟩ [.tmp 2] 135 Tryz.func163 H
theorem Rj(gl:Fr)(c0:Int)(R:Int->Prop) (H:(decide (c0<128)=Ta->R 1)/\(decide (c0<128)=Tc->((bif (decide (c0>=194))then(decide (c0<=223))else Tc)=Ta->R 2)/\((bif (decide (c0>=194))then(decide (c0<=223))else Tc)=Tc->((bif (decide (c0>=224))then(decide (c0<=239))else Tc)=Ta->R 3)/\((bif (decide (c0>=224))then(decide (c0<=239))else Tc)=Tc->((bif (decide (c0>=240))then(decide (c0<=244))else Tc)=Ta->R 4)/\((bif (decide (c0>=240))then(decide (c0<=244))else Tc)=Tc->R 0))))):
  PC Tp gl 309 [Arg.mk p3 c0] [.int .i64] R:=
 PF ⟨[],[],[],[]⟩ [.tmp 2] 23 Tryz.func309 H
theorem NU(gl:Fr)(e:Bt)(R:Bool->Prop) (H:∃(a:(Bt×Nat)->Prop) (b:(Bt×Nat)->Nat),a (e,0)/\∀c:Bt×Nat,a c->(((dy c.1 c.2)=Ta->(dy c.1 c.2)=Ta/\((bif (decide ((eA c.1 c.2:Int)<48))then Ta else(decide ((eA c.1 c.2:Int)>57)))=Ta->R Tc)/\((bif (decide ((eA c.1 c.2:Int)<48))then Ta else(decide ((eA c.1 c.2:Int)>57)))=Tc->(a (c.1,dE c.1 c.2)/\b (c.1,dE c.1 c.2)<b c)))/\((dy c.1 c.2)=Tc->R (!(e.toList==(⟨#[]⟩:Bt).toList))))):
  PC Tp gl 215 [Arg.mk .str e] [.bool] R:=
 PF ⟨[],[],[(2,⟨[],[(6,[.dat .iter])],[],[1000384]⟩)],[]⟩ [.tmp 2] 18 Tryz.func215 H
theorem LB(gl:Fr)(b:Bt)(R:Bool->Prop) (H:PC Tp gl 203 [Arg.mk .str b] [.int .i64,.bool] (λa:Int×Bool=>R a.2)):
  PC Tp gl 224 [Arg.mk .str b] [.bool] R:=
 PF ⟨[],[],[],[]⟩ [.tmp 2] 11 Tryz.func224 H
theorem Nt(gl:Fr)(n0:Bool×Bt×Int)(R:(Int×Bool)->Prop) (H:PC Tp gl 279 [Arg.mk (.pair .bool (.pair .str (.int .i64))) (n0.1,(n0.2.1,n0.2.2))] [.bool] (λa:Bool=>((bif (bif (!a)then Ta else(decide (n0.2.2<0)))then Ta else(decide ((hZ ((n0.2.1.size:Int)+n0.2.2))>19)))=Ta->R (0,Tc))/\((bif (bif (!a)then Ta else(decide (n0.2.2<0)))then Ta else(decide ((hZ ((n0.2.1.size:Int)+n0.2.2))>19)))=Tc->∃(b:Int->Int->Prop) (c:Int->Int->Nat),b 0 0/\∀d e:Int,b d e->(((decide (e<(hZ ((n0.2.1.size:Int)+n0.2.2))))=Ta->∀f:Int->Prop,(∀g:Int,(Ve=Ve/\(10:Int)≠0/\((decide (d<(hZ ((hZ ((-9223372036854775808)+g)).tdiv 10))))=Ta->R (0,Tc))/\((decide (d<(hZ ((hZ ((-9223372036854775808)+g)).tdiv 10))))=Tc->(b (hZ ((hZ (10*d))-g)) (hZ (e+1))/\c (hZ ((hZ (10*d))-g)) (hZ (e+1))<c d e)))->f g)->(decide (e<n0.2.1.size)=Ta->(0<=e/\e<n0.2.1.size)/\f (hZ (T9 .u8 ((ze n0.2.1 e.toNat)-48))))/\(decide (e<n0.2.1.size)=Tc->f 0))/\((decide (e<(hZ ((n0.2.1.size:Int)+n0.2.2))))=Tc->(n0.1=Ta->R (d,Ta))/\(n0.1=Tc->((d==(-9223372036854775808))=Ta->R (0,Tc))/\((d==(-9223372036854775808))=Tc->R (hZ (0-d),Ta)))))))):
  PC Tp gl 225 [Arg.mk (.pair .bool (.pair .str (.int .i64))) n0] [.int .i64,.bool] R:=
 PF ⟨[],[],[(6,⟨[(5,.one (.dat p3)),(6,.one (.dat p3))],[],[1],[100320,100384]⟩)],[(11,⟨[(7,.one (.dat p3))],[],[],[100448]⟩)]⟩ [.tmp 2,.tmp 3] 63 Tryz.func225 H
theorem IY(gl:Fr)(e:Bt)(f:Bt)(R:(Bt×Bt×Bool)->Prop) (H:∃(a:Int->Prop) (b:Int->Nat),a 0/\∀c:Int,a c->((decide (c<e.size)=Ta->(0<=c/\c<e.size)/\PC Tp gl 319 [Arg.mk .str f,Arg.mk (.int .u8) (ze e c.toNat)] [.int .i64] (λd:Int=>(decide (d>=0)=Ta->(0<=(0:Int)/\(0:Int)<=c/\c<=e.size)/\(0<=(hZ (c+1))/\(hZ (c+1))<=(e.size:Int)/\(e.size:Int)<=(e.size:Int))/\R (e.extract (0:Int).toNat c.toNat,e.extract (hZ (c+1)).toNat (e.size:Int).toNat,Ta))/\(decide (d>=0)=Tc->(a (hZ (c+1))/\b (hZ (c+1))<b c))))/\(decide (c<e.size)=Tc->R (e,(⟨#[]⟩:Bt),Tc)))):
  PC Tp gl 268 [Arg.mk .str e,Arg.mk .str f] [.str,.str,.bool] R:=
 PF ⟨[],[],[(2,⟨[(10,.one (.dat p3))],[],[],[100640]⟩)],[]⟩ [.tmp 4,.tmp 5,.tmp 6] 28 Tryz.func268 H
theorem Ke(gl:Fr)(I:Bt)(R:((Bool×Bt×Int)×Int)->Prop) (H:PC Tp gl 291 [Arg.mk .str I] [.bool,.str,.str,.bool,.str,.bool] (λa:Bool×Bt×Bt×Bool×Bt×Bool=>((!a.2.2.2.2.2)=Ta->R ((Tc,((⟨#[]⟩:Bt),0)),2))/\((!a.2.2.2.2.2)=Tc->((decide ((hZ ((a.2.1.size:Int)+(a.2.2.1.size:Int)))>1000))=Ta->R ((Tc,((⟨#[]⟩:Bt),0)),3))/\((decide ((hZ ((a.2.1.size:Int)+(a.2.2.1.size:Int)))>1000))=Tc->∃(b:Bt->Bool->Bt->Int->Prop) (c:Bt->Bool->Bt->Int->Nat),b a.2.2.2.2.1 Tc (⟨#[]⟩:Bt) 0/\∀d:Bt,∀C:Bool,∀B:Bt,∀D:Int,b d C B D->((decide ((d.size:Int)>1)=Ta->(0<=(0:Int)/\(0:Int)<(d.size:Int)))/\((bif (decide ((d.size:Int)>1))then((ze d (0:Int).toNat:Int)==48)else Tc)=Ta->(0<=(1:Int)/\(1:Int)<=(d.size:Int)/\(d.size:Int)<=(d.size:Int))/\(b (d.extract (1:Int).toNat (d.size:Int).toNat) C B D/\c (d.extract (1:Int).toNat (d.size:Int).toNat) C B D<c d C B D))/\((bif (decide ((d.size:Int)>1))then((ze d (0:Int).toNat:Int)==48)else Tc)=Tc->(decide ((d.size:Int)>9)=Ta->R ((Tc,((⟨#[]⟩:Bt),0)),4))/\(decide ((d.size:Int)>9)=Tc->∃(e:Int->Int->Bool->Bt->Int->Prop) (f:Int->Int->Bool->Bt->Int->Nat),e 0 0 C B D/\∀g i:Int,∀u:Bool,∀w:Bt,∀t:Int,e g i u w t->((decide (i<d.size)=Ta->(0<=i/\i<d.size)/\(e (hZ ((hZ (10*g))+(hZ (T9 .u8 ((ze d i.toNat)-48))))) (hZ (i+1)) u w t/\f (hZ ((hZ (10*g))+(hZ (T9 .u8 ((ze d i.toNat)-48))))) (hZ (i+1)) u w t<f g i u w t))/\(decide (i<d.size)=Tc->∀j:Int->Bool->Bt->Int->Prop,(∀k:Int,∀G:Bool,∀F:Bt,∀E:Int,(zw (a.2.1.size+a.2.2.1.size)/\∃(l:Bt->Bool->Bt->Int->Prop) (m:Bt->Bool->Bt->Int->Nat),l (a.2.1++a.2.2.1) G F E/\∀n:Bt,∀h:Bool,∀x:Bt,∀s:Int,l n h x s->((decide ((n.size:Int)>0)=Ta->(0<=(0:Int)/\(0:Int)<(n.size:Int)))/\((bif (decide ((n.size:Int)>0))then((ze n (0:Int).toNat:Int)==48)else Tc)=Ta->(0<=(1:Int)/\(1:Int)<=(n.size:Int)/\(n.size:Int)<=(n.size:Int))/\(l (n.extract (1:Int).toNat (n.size:Int).toNat) h x s/\m (n.extract (1:Int).toNat (n.size:Int).toNat) h x s<m n h x s))/\((bif (decide ((n.size:Int)>0))then((ze n (0:Int).toNat:Int)==48)else Tc)=Tc->((n.toList==(⟨#[]⟩:Bt).toList)=Ta->R ((Tc,((⟨#[]⟩:Bt),0)),0))/\((n.toList==(⟨#[]⟩:Bt).toList)=Tc->∃(o:Int->Bt->Bool->Bt->Int->Prop) (p:Int->Bt->Bool->Bt->Int->Nat),o (hZ (k-(a.2.2.1.size:Int))) n h x s/\∀q:Int,∀r:Bt,∀y:Bool,∀A:Bt,∀z:Int,o q r y A z->((0<=(hZ ((r.size:Int)-1))/\(hZ ((r.size:Int)-1))<(r.size:Int))/\(((ze r (hZ ((r.size:Int)-1)).toNat:Int)==48)=Ta->(0<=(0:Int)/\(0:Int)<=(hZ ((r.size:Int)-1))/\(hZ ((r.size:Int)-1))<=(r.size:Int))/\(o (hZ (q+1)) (r.extract (0:Int).toNat (hZ ((r.size:Int)-1)).toNat) y A z/\p (hZ (q+1)) (r.extract (0:Int).toNat (hZ ((r.size:Int)-1)).toNat) y A z<p q r y A z))/\(((ze r (hZ ((r.size:Int)-1)).toNat:Int)==48)=Tc->((bif (decide (q<(-1000000)))then Ta else(decide (q>1000000)))=Ta->R ((Tc,((⟨#[]⟩:Bt),0)),4))/\((bif (decide (q<(-1000000)))then Ta else(decide (q>1000000)))=Tc->R ((a.1,(r,q)),0))))))))->j k G F E)->(a.2.2.2.1=Ta->j (hZ (0-g)) u w t)/\(a.2.2.2.1=Tc->j g u w t)))))))))):
  PC Tp gl 232 [Arg.mk .str I] [.pair .bool (.pair .str (.int .i64)),.int .i64] R:=
 PF ⟨[],[],[(6,⟨[(8,.one (.dat .str))],[(2,[.dat .bool,.dat .str,.dat p3])],[],[100512,1000128,1000129,1000130]⟩),(12,⟨[(10,.one (.dat p3)),(11,.one (.dat p3))],[(2,[.dat .bool,.dat .str,.dat p3])],[],[100640,100704,1000128,1000129,1000130]⟩),(19,⟨[(12,.one (.dat .str))],[(2,[.dat .bool,.dat .str,.dat p3])],[],[100768,1000128,1000129,1000130]⟩),(23,⟨[(10,.one (.dat p3)),(12,.one (.dat .str))],[(2,[.dat .bool,.dat .str,.dat p3])],[],[100640,100768,1000128,1000129,1000130]⟩)],[(17,⟨[(10,.one (.dat p3))],[(2,[.dat .bool,.dat .str,.dat p3])],[],[100640,1000128,1000129,1000130]⟩)]⟩ [.cell 2 110,.tmp 3] 107 Tryz.func232 H
theorem RJ(gl:Fr)(n0:Bool×Bt×Int)(R:Bt->Prop) (H:PC Tp gl 279 [Arg.mk (.pair .bool (.pair .str (.int .i64))) (n0.1,(n0.2.1,n0.2.2))] [.bool] (λa:Bool=>((!a)=Ta->R (⟨#[]⟩:Bt))/\((!a)=Tc->PC Tp gl 292 [Arg.mk (.pair .bool (.pair .str (.int .i64))) (n0.1,(n0.2.1,n0.2.2))] [.bool] (λb:Bool=>(b=Ta->R (⟨#[48]⟩:Bt))/\(b=Tc->∀c:Bt->Prop,(∀d:Bt,(((n0.2.2 != 0)=Ta->zw (d.size+((⟨#[101]⟩:Bt)).size)/\PC Tp gl 193 [Arg.mk p3 n0.2.2] [.str] (λe:Bt=>zw ((d++(⟨#[101]⟩:Bt)).size+e.size)/\R ((d++(⟨#[101]⟩:Bt))++e)))/\((n0.2.2 != 0)=Tc->R d))->c d)->(n0.1=Ta->zw (((⟨#[45]⟩:Bt)).size+n0.2.1.size)/\c ((⟨#[45]⟩:Bt)++n0.2.1))/\(n0.1=Tc->c n0.2.1)))))):
  PC Tp gl 233 [Arg.mk (.pair .bool (.pair .str (.int .i64))) n0] [.str] R:=
 PF ⟨[],[],[],[(9,⟨[(4,.one (.dat .str))],[],[1],[100256]⟩)]⟩ [.tmp 2] 27 Tryz.func233 H
theorem I9(gl:Fr)(n0:Bool×Bt×Int)(R:Bool->Prop) (H:PC Tp gl 292 [Arg.mk (.pair .bool (.pair .str (.int .i64))) (n0.1,(n0.2.1,n0.2.2))] [.bool] (λa:Bool=>(a=Ta->R Ta)/\(a=Tc->PC Tp gl 333 [Arg.mk .str n0.2.1] [.bool] (λb:Bool=>((bif b then(decide ((n0.2.1.size:Int)<=1000))else Tc)=Ta->(0<=(0:Int)/\(0:Int)<(n0.2.1.size:Int)))/\((bif (bif b then(decide ((n0.2.1.size:Int)<=1000))else Tc)then((ze n0.2.1 (0:Int).toNat:Int) != 48)else Tc)=Ta->(0<=(hZ ((n0.2.1.size:Int)-1))/\(hZ ((n0.2.1.size:Int)-1))<(n0.2.1.size:Int)))/\R (bif (bif (bif (bif (bif b then(decide ((n0.2.1.size:Int)<=1000))else Tc)then((ze n0.2.1 (0:Int).toNat:Int) != 48)else Tc)then((ze n0.2.1 (hZ ((n0.2.1.size:Int)-1)).toNat:Int) != 48)else Tc)then(decide (n0.2.2>=(-1000000)))else Tc)then(decide (n0.2.2<=1000000))else Tc))))):
  PC Tp gl 279 [Arg.mk (.pair .bool (.pair .str (.int .i64))) n0] [.bool] R:=
 PF ⟨[],[],[],[]⟩ [.tmp 2] 42 Tryz.func279 H
theorem ML(gl:Fr)(h:Bt)(R:(Bool×Bt×Bt×Bool×Bt×Bool)->Prop) (H:(decide ((h.size:Int)>0)=Ta->(0<=(0:Int)/\(0:Int)<(h.size:Int)))/\∀a:Bt->Prop,(∀b:Bt,(∃(c:Int->Prop) (d:Int->Nat),c 0/\∀e:Int,c e->((decide (e<b.size)=Ta->(0<=e/\e<b.size))/\((bif (decide (e<b.size))then((ze b e.toNat:Int) != 101)else Tc)=Ta->(0<=e/\e<b.size))/\((bif (bif (decide (e<b.size))then((ze b e.toNat:Int) != 101)else Tc)then((ze b e.toNat:Int) != 69)else Tc)=Ta->(c (hZ (e+1))/\d (hZ (e+1))<d e))/\((bif (bif (decide (e<b.size))then((ze b e.toNat:Int) != 101)else Tc)then((ze b e.toNat:Int) != 69)else Tc)=Tc->∀f:Bt->Bool->Prop,(∀g:Bt,∀i:Bool,((0<=(0:Int)/\(0:Int)<=e/\e<=b.size)/\∃(j:Int->Prop) (k:Int->Nat),j 0/\∀l:Int,j l->(((decide (l<((b.extract (0:Int).toNat e.toNat).size:Int)))=Ta->(0<=l/\l<((b.extract (0:Int).toNat e.toNat).size:Int)))/\((bif (decide (l<((b.extract (0:Int).toNat e.toNat).size:Int)))then((ze (b.extract (0:Int).toNat e.toNat) l.toNat:Int) != 46)else Tc)=Ta->(j (hZ (l+1))/\k (hZ (l+1))<k l))/\((bif (decide (l<((b.extract (0:Int).toNat e.toNat).size:Int)))then((ze (b.extract (0:Int).toNat e.toNat) l.toNat:Int) != 46)else Tc)=Tc->(0<=(0:Int)/\(0:Int)<=l/\l<=((b.extract (0:Int).toNat e.toNat).size:Int))/\∀m:Bt->Prop,(∀n:Bt,(PC Tp gl 333 [Arg.mk .str ((b.extract (0:Int).toNat e.toNat).extract (0:Int).toNat l.toNat)] [.bool] (λo:Bool=>∃p:Bool->Prop,(o=Ta->PC Tp gl 333 [Arg.mk .str n] [.bool] p)/\∀q:Bool,(o=Ta->p q)->∃r:Bool->Prop,((bif o then q else Tc)=Ta->PC Tp gl 333 [Arg.mk .str g] [.bool] r)/\∀s:Bool,((bif o then q else Tc)=Ta->r s)->(((bif (bif o then q else Tc)then s else Tc)&&(!(((b.extract (0:Int).toNat e.toNat).extract (0:Int).toNat l.toNat:Bt).toList==(⟨#[48]⟩:Bt).toList)))=Ta->(0<=(0:Int)/\(0:Int)<(((b.extract (0:Int).toNat e.toNat).extract (0:Int).toNat l.toNat).size:Int)))/\∀t:Bt->Prop,(∀u:Bt,(R (bif (decide ((h.size:Int)>0))then((ze h (0:Int).toNat:Int)==45)else Tc,(b.extract (0:Int).toNat e.toNat).extract (0:Int).toNat l.toNat,u,i,g,bif (bif (bif o then q else Tc)then s else Tc)then(bif (((b.extract (0:Int).toNat e.toNat).extract (0:Int).toNat l.toNat:Bt).toList==(⟨#[48]⟩:Bt).toList)then Ta else((ze ((b.extract (0:Int).toNat e.toNat).extract (0:Int).toNat l.toNat) (0:Int).toNat:Int) != 48))else Tc))->t u)->((l==((b.extract (0:Int).toNat e.toNat).size:Int))=Ta->t (⟨#[]⟩:Bt))/\((l==((b.extract (0:Int).toNat e.toNat).size:Int))=Tc->t n)))->m n)->((decide (l<((b.extract (0:Int).toNat e.toNat).size:Int)))=Ta->(0<=(hZ (l+1))/\(hZ (l+1))<=((b.extract (0:Int).toNat e.toNat).size:Int)/\(((b.extract (0:Int).toNat e.toNat).size:Int):Int)<=((b.extract (0:Int).toNat e.toNat).size:Int))/\m ((b.extract (0:Int).toNat e.toNat).extract (hZ (l+1)).toNat (((b.extract (0:Int).toNat e.toNat).size:Int):Int).toNat))/\((decide (l<((b.extract (0:Int).toNat e.toNat).size:Int)))=Tc->m (⟨#[48]⟩:Bt)))))->f g i)->(decide (e<b.size)=Ta->(0<=(hZ (e+1))/\(hZ (e+1))<=(b.size:Int)/\(b.size:Int)<=(b.size:Int))/\((decide ((((b.extract (hZ (e+1)).toNat (b.size:Int).toNat).size:Int):Int)>0))=Ta->(0<=(0:Int)/\(0:Int)<((b.extract (hZ (e+1)).toNat (b.size:Int).toNat).size:Int)))/\(((!(bif (decide ((((b.extract (hZ (e+1)).toNat (b.size:Int).toNat).size:Int):Int)>0))then((ze (b.extract (hZ (e+1)).toNat (b.size:Int).toNat) (0:Int).toNat:Int)==45)else Tc))&&(decide ((((b.extract (hZ (e+1)).toNat (b.size:Int).toNat).size:Int):Int)>0)))=Ta->(0<=(0:Int)/\(0:Int)<((b.extract (hZ (e+1)).toNat (b.size:Int).toNat).size:Int)))/\((bif (bif (decide ((((b.extract (hZ (e+1)).toNat (b.size:Int).toNat).size:Int):Int)>0))then((ze (b.extract (hZ (e+1)).toNat (b.size:Int).toNat) (0:Int).toNat:Int)==45)else Tc)then Ta else(bif (decide ((((b.extract (hZ (e+1)).toNat (b.size:Int).toNat).size:Int):Int)>0))then((ze (b.extract (hZ (e+1)).toNat (b.size:Int).toNat) (0:Int).toNat:Int)==43)else Tc))=Ta->(0<=(1:Int)/\(1:Int)<=((b.extract (hZ (e+1)).toNat (b.size:Int).toNat).size:Int)/\(((b.extract (hZ (e+1)).toNat (b.size:Int).toNat).size:Int):Int)<=((b.extract (hZ (e+1)).toNat (b.size:Int).toNat).size:Int))/\f ((b.extract (hZ (e+1)).toNat (b.size:Int).toNat).extract (1:Int).toNat (((b.extract (hZ (e+1)).toNat (b.size:Int).toNat).size:Int):Int).toNat) (bif (decide ((((b.extract (hZ (e+1)).toNat (b.size:Int).toNat).size:Int):Int)>0))then((ze (b.extract (hZ (e+1)).toNat (b.size:Int).toNat) (0:Int).toNat:Int)==45)else Tc))/\((bif (bif (decide ((((b.extract (hZ (e+1)).toNat (b.size:Int).toNat).size:Int):Int)>0))then((ze (b.extract (hZ (e+1)).toNat (b.size:Int).toNat) (0:Int).toNat:Int)==45)else Tc)then Ta else(bif (decide ((((b.extract (hZ (e+1)).toNat (b.size:Int).toNat).size:Int):Int)>0))then((ze (b.extract (hZ (e+1)).toNat (b.size:Int).toNat) (0:Int).toNat:Int)==43)else Tc))=Tc->f (b.extract (hZ (e+1)).toNat (b.size:Int).toNat) (bif (decide ((((b.extract (hZ (e+1)).toNat (b.size:Int).toNat).size:Int):Int)>0))then((ze (b.extract (hZ (e+1)).toNat (b.size:Int).toNat) (0:Int).toNat:Int)==45)else Tc)))/\(decide (e<b.size)=Tc->f (⟨#[48]⟩:Bt) Tc))))->a b)->((bif (decide ((h.size:Int)>0))then((ze h (0:Int).toNat:Int)==45)else Tc)=Ta->(0<=(1:Int)/\(1:Int)<=(h.size:Int)/\(h.size:Int)<=(h.size:Int))/\a (h.extract (1:Int).toNat (h.size:Int).toNat))/\((bif (decide ((h.size:Int)>0))then((ze h (0:Int).toNat:Int)==45)else Tc)=Tc->a h)):
  PC Tp gl 291 [Arg.mk .str h] [.bool,.str,.str,.bool,.str,.bool] R:=
 PF ⟨[],[],[(5,⟨[(9,.one (.dat p3))],[],[],[100576]⟩),(16,⟨[(9,.one (.dat p3))],[],[],[100576]⟩)],[(4,⟨[(0,.one (.dat .str))],[],[],[100000]⟩),(14,⟨[(10,.one (.dat .str)),(11,.one (.dat .bool))],[],[],[100640,100704]⟩),(22,⟨[(13,.one (.dat .str))],[],[],[100832]⟩),(25,⟨[(13,.one (.dat .str))],[],[],[100832]⟩)]⟩ [.tmp 2,.tmp 3,.tmp 4,.tmp 5,.tmp 6,.tmp 7] 128 Tryz.func291 H
theorem Kd(gl:Fr)(n0:Bool×Bt×Int)(R:Bool->Prop) (H:R ((n0.1==Tc)&&((n0.2.1.toList==(⟨#[]⟩:Bt).toList)&&((n0.2.2==0)&&Ta)))):
  PC Tp gl 292 [Arg.mk (.pair .bool (.pair .str (.int .i64))) n0] [.bool] R:=
 PF ⟨[],[],[],[]⟩ [.tmp 2] 6 Tryz.func292 H
theorem Oa(gl:Fr)(e:Bt)(R:Bool->Prop) (H:∃(a:Int->Prop) (b:Int->Nat),a 0/\∀c:Int,a c->((decide (c<e.size)=Ta->(0<=c/\c<e.size)/\((!(decide ((ze e c.toNat:Int)<48)))=Ta->(0<=c/\c<e.size))/\((bif (decide ((ze e c.toNat:Int)<48))then Ta else(decide ((ze e c.toNat:Int)>57)))=Ta->R Tc)/\((bif (decide ((ze e c.toNat:Int)<48))then Ta else(decide ((ze e c.toNat:Int)>57)))=Tc->(a (hZ (c+1))/\b (hZ (c+1))<b c)))/\(decide (c<e.size)=Tc->R (decide ((e.size:Int)>0))))):
  PC Tp gl 333 [Arg.mk .str e] [.bool] R:=
 PF ⟨[],[],[(2,⟨[(3,.one (.dat p3))],[],[],[100192]⟩)],[]⟩ [.tmp 2] 23 Tryz.func333 H

end
section
abbrev bl(l:List UInt8):Bt:=⟨l.toArray⟩
abbrev lb(s:Bt):List UInt8:=s.data.toList
@[simp] theorem ym(l:List UInt8):lb (bl l)=l:=by simp[lb]
@[simp] theorem Zx(s:Bt):bl (lb s)=s:=by cases s;simp[lb,bl]
theorem kM{s t:Bt}:lb s=lb t↔s=t:=⟨λh=>by rw[<-Zx s,h,Zx],λh=>by rw[h]⟩
theorem gn(s:Bt):(lb s).length=s.size:=by cases s;simp[lb,ByteArray.size]
theorem T8(s t:Bt):lb (s++t)=lb s++lb t:=by cases s;cases t;simp[lb]
theorem NH(s:Bt)(a b:Nat):lb (s.extract a b)=((lb s).drop a).take (b-a):=by cases s;simp[lb,ByteArray.data_extract,List.extract_eq_take_drop]
theorem sN(s:Bt)(i:Nat):ze s i=((((lb s)[i]?).getD 0).toNat:Int):=by cases s;simp[lb,ze]
theorem N0(s:Bt)(i:Nat):s.get! i=((lb s)[i]?).getD 0:=by
 cases s with
 |mk d=>simp[lb,ByteArray.get!,Array.getElem!_eq_getD];rfl
theorem yy(s:Bt)(i:Nat):0<=ze s i/\ze s i<256:=by rw[sN];have:=(((lb s)[i]?).getD 0).toNat_lt;omega
def dec(l:List UInt8):Nat×Nat:=Go.Lib.decodeN l.length (l.getD 0 0).toNat (l.getD 1 0).toNat (l.getD 2 0).toNat (l.getD 3 0).toNat
theorem nK(s:Bt)(i:Nat):YS s i=dec ((lb s).drop i):=by rw[Go.Lib.decode_at,dec];simp only[N0,U0,Va,UD,gn,WP]
theorem j6(l:List UInt8):1<=(dec l).2/\(dec l).2<=4:=by
 unfold dec Go.Lib.decodeN;repeat' split
 all_goals simp
theorem mN{l:List UInt8}(h:l≠[]):(dec l).2<=l.length:=by
 have:0<l.length:=U5.2 h;unfold dec Go.Lib.decodeN;repeat' split
 all_goals simp only
 all_goals omega
def dD(d:Nat×Nat):Bool:=d.1==65533&&d.2==1
def xd(l:List UInt8):Bool:=if h:l=[]then Ta else if dD (dec l)then Tc else xd (l.drop (dec l).2)
termination_by l.length
decreasing_by
 have h1:=j6 l;have h2:0<l.length:=U5.2 h;simp only[UD];omega
theorem Qo:xd []=Ta:=by unfold xd;simp
theorem Zc{l:List UInt8}(h:l≠[]):xd l=if dD (dec l)then Tc else xd (l.drop (dec l).2):=by rw[xd];simp[h]
theorem lV{c:UInt8}{l:List UInt8}(h:c.toNat<128):dec (c::l)=(c.toNat,1):=by simp[dec,Go.Lib.decodeN,h]
end
end
section
open Go.Lib
abbrev Bs:=List UInt8
end
section
variable {n b0 b1 b2 b3:Nat} {gl:Fr} {s:Bt}
theorem sh{α:Type}{B:α->Prop}{c:Bool}{a b:α}(h:B (bif c then a else b)):∀K:α->Prop,(∀v,B v->K v)->(c=Ta->K a)/\(c=Tc->K b):= λK e=>⟨λf=>e _ (by grind),λf=>e _ (by grind)⟩
theorem TK(s:Bt)(i:Nat):hZ (ze s i)=ze s i:=by have:=yy s i;grind [wrap64]
theorem Qd{n:Int}(h1:-2147483648<=n)(h2:n<=2147483647):T9 .i32 n=n:=by
 ((try unfold hZ);unfold T9);have e:(2:Int) ^ U4 .i32=4294967296:=by decide
 have e':(2:Int) ^ (U4 .i32-1)=2147483648:=by decide
 simp only[e,e'];have b:XT .i32=Ta:=rfl;grind
theorem NI(s:Bt)(a:Nat):dec ((lb s).drop a)=Lib.decodeN (s.size-a) (ze s a).toNat (ze s (a+1)).toNat (ze s (a+2)).toNat (ze s (a+3)).toNat:=by simp only[dec,sN,U0,Va,UD,gn,WP,Ue]
def o8(c:Int):Int:=if c<128 then 1 else if 194<=c/\c<=223 then 2 else if 224<=c/\c<=239 then 3 else if 240<=c/\c<=244 then 4 else 0
theorem SA{c:Int}{R:Int->Prop}(h:R (o8 c)):PC Tp gl 309 [Arg.mk p3 c] [.int .i64] R:=by apply Rj;unfold o8 at h;grind
theorem pI(h:b0<128):Lib.decodeN n b0 b1 b2 b3=(b0,1):=by unfold Lib.decodeN;rw[zA h]
theorem D5(h:194<=b0/\b0<224)(h1:b1<256):Lib.decodeN n b0 b1 b2 b3=if 2<=n/\128<=b1/\b1<=191 then((b0-192)*64+(b1-128),2)else(65533,1):=by unfold Lib.decodeN;grind
theorem qB(h:224<=b0/\b0<240)(h1:b1<256)(h2:b2<256):Lib.decodeN n b0 b1 b2 b3=
  if 3<=n/\(128<=b1/\b1<=191)/\(128<=b2/\b2<=191)/\2048<=((b0-224)*64+(b1-128))*64+(b2-128)/\(((b0-224)*64+(b1-128))*64+(b2-128)<55296\/57344<=((b0-224)*64+(b1-128))*64+(b2-128))
  then(((b0-224)*64+(b1-128))*64+(b2-128),3)else(65533,1):=by
 unfold Lib.decodeN;grind
theorem DI(h:240<=b0/\b0<245)(h1:b1<256)(h2:b2<256)(b:b3<256):Lib.decodeN n b0 b1 b2 b3=
  if 4<=n/\(128<=b1/\b1<=191)/\(128<=b2/\b2<=191)/\(128<=b3/\b3<=191)/\65536<=(((b0-240)*64+(b1-128))*64+(b2-128))*64+(b3-128)/\(((b0-240)*64+(b1-128))*64+(b2-128))*64+(b3-128)<=1114111
  then((((b0-240)*64+(b1-128))*64+(b2-128))*64+(b3-128),4)else(65533,1):=by
 unfold Lib.decodeN;grind
def mt(s:Bt)(b:Int):Int×Int:=if b<0\/b>=s.size then(0,0)else(((dec ((lb s).drop b.toNat)).1:Int),((dec ((lb s).drop b.toNat)).2:Int))
set_option maxHeartbeats 1000000 in
theorem EP{k:Int}{R:Int×Int->Prop}(hs:(s.size:Int)<=4611686018427387904)(h:R (mt s k)):PC Tp gl 259 [Arg.mk .str s,Arg.mk p3 k] [.int .i32,.int .i64] R:=by
 apply Sq;unfold mt at h;refine⟨λP=>?_,λP=>?_⟩;rw[zA (by grind)]at h;exact h
 ·have J:0<=k/\k<(s.size:Int):=by grind
  rw[za (by omega),NI]at h;refine⟨J,SA ?_⟩;obtain⟨a,rfl⟩:∃a:Nat,k=(a:Int):=⟨k.toNat,by omega⟩;simp only[Ue,TK]at h ⊢;have r0:=yy s a;have r1:=yy s (a+1);have r2:=yy s (a+2);have r3:=yy s (a+3);have ix:∀i:Int,1<=i->i<=4->(hZ ((a:Int)+i))=(a:Int)+i:=λi h1 h2=>wrap64 (by omega) (by omega);have e1:((a:Int)+1).toNat=a+1:=by omega
  have Z:((a:Int)+2).toNat=a+2:=by omega
  have e3:((a:Int)+3).toNat=a+3:=by omega
  have D:hZ ((s.size:Int)-(a:Int))=(s.size:Int)-(a:Int):=wrap64 (by omega) (by omega);rw[D];generalize q:o8 (ze s a)=n;unfold o8 at q;generalize af:ze s a=b0 at *;refine⟨λu=>?_,λu=>⟨J,?_⟩⟩
  ·have:Lib.decodeN (s.size-a) b0.toNat (ze s (a+1)).toNat (ze s (a+2)).toNat (ze s (a+3)).toNat=(65533,1):=by
    have H:n=0\/n>(s.size:Int)-a:=by grind
    unfold Lib.decodeN;repeat' split
    all_goals first|rfl|(exfalso;split at q <;> first|omega|(split at q <;> first|omega|(split at q <;> first|omega|(split at q <;> omega))))
   rw[this]at h;exact h
  ·have H:n≠0/\n<=(s.size:Int)-a:=by grind
   apply sh;apply sh;apply sh;have t:(bif n==4 then hZ ((bif n==3 then hZ ((bif n==2 then hZ (b0-192)else b0)-224)else bif n==2 then hZ (b0-192)else b0)-240)else bif n==3 then hZ ((bif n==2 then hZ (b0-192)else b0)-224)else bif n==2 then hZ (b0-192)else b0)
     = (if n=4 then b0-240 else if n=3 then b0-224 else if n=2 then b0-192 else b0):=by
    have w1:hZ (b0-192)=b0-192:=wrap64 (by omega) (by omega);have S:hZ (b0-224)=b0-224:=wrap64 (by omega) (by omega);have Q:hZ (b0-240)=b0-240:=wrap64 (by omega) (by omega);grind
   rw[t];generalize ab:(if n=4 then b0-240 else if n=3 then b0-224 else if n=2 then b0-192 else b0)=v1;have O:0<=v1/\v1<128:=by grind
   have M:n=4->v1<=4:=by grind
   generalize x:ze s (a+1)=b1 at *;generalize w:ze s (a+2)=b2 at *;generalize y:ze s (a+3)=b3 at *;have q1:=yy s (a+1);have q2:=yy s (a+2);have Y:=yy s (a+3);rw[x]at q1;rw[w]at q2;rw[y]at Y;obtain⟨N,hN⟩:∃N:Nat,s.size-a=N:=⟨_,rfl⟩;have ae:(N:Int)=s.size-a:=by omega
   rw[hN]at h;have r:n=1\/n=2\/n=3\/n=4:=by grind
   have good:∀v:Int,(n=1->v=v1)->(n=2->(128<=b1/\b1<=191)/\v=64*v1+b1-128)->(n=3->(128<=b1/\b1<=191)/\(128<=b2/\b2<=191)/\v=64*(64*v1+b1-128)+b2-128) -> (n=4->(128<=b1/\b1<=191)/\(128<=b2/\b2<=191)/\(128<=b3/\b3<=191)/\v=64*(64*(64*v1+b1-128)+b2-128)+b3-128) ->
     (((n=3/\v<2048)\/(n=4/\v<65536)\/v>1114111\/(v>=55296/\v<57344))->R (65533,1))/\(¬((n=3/\v<2048)\/(n=4/\v<65536)\/v>1114111\/(v>=55296/\v<57344))->R (T9 .i32 v,n)):=by
    intro v k1 k2 V k4;rcases r with rfl|rfl|rfl|rfl;have c:b0<128:=by grind
    have:=k1 rfl;have m:v1=b0:=by grind
    rw[pI (by omega)]at h;refine⟨λo=>by omega,λ_=>?_⟩;rw[Qd (by omega) (by omega)];have e:((b0.toNat:Nat):Int)=v:=by omega
    simp only[e]at h;exact h;have c:194<=b0/\b0<224:=by grind
    obtain⟨c1,t⟩:=k2 rfl;have m:v1=b0-192:=by grind
    rw[D5 (by omega) (by omega),zA (by omega)]at h;refine⟨λo=>by omega,λ_=>?_⟩;rw[Qd (by omega) (by omega)];have e:(((b0.toNat-192)*64+(b1.toNat-128):Nat):Int)=v:=by omega
    simp only[e]at h;exact h;have c:224<=b0/\b0<240:=by grind
    obtain⟨c1,c2,t⟩:=V rfl;have m:v1=b0-224:=by grind
    have e:((((b0.toNat-224)*64+(b1.toNat-128))*64+(b2.toNat-128):Nat):Int)=v:=by omega
    rw[qB (by omega) (by omega) (by omega)]at h;refine⟨λo=>?_,λo=>?_⟩;rw[za (by omega)]at h;exact h;rw[zA (by omega)]at h;rw[Qd (by omega) (by omega)];simp only[e]at h;exact h;have c:240<=b0/\b0<245:=by grind
    obtain⟨c1,c2,c3,t⟩:=k4 rfl;have m:v1=b0-240:=by grind
    have e:(((((b0.toNat-240)*64+(b1.toNat-128))*64+(b2.toNat-128))*64+(b3.toNat-128):Nat):Int)=v:=by omega
    rw[DI (by omega) (by omega) (by omega) (by omega)]at h;refine⟨λo=>?_,λo=>?_⟩;rw[za (by omega)]at h;exact h;rw[zA (by omega)]at h;rw[Qd (by omega) (by omega)];simp only[e]at h;exact h
   have bad:∀i:Int,1<=i->i<n->((i=1/\¬(128<=b1/\b1<=191))\/(i=2/\¬(128<=b2/\b2<=191))\/(i=3/\¬(128<=b3/\b3<=191)))->R (65533,1):=by
    intro i B I o;rcases r with rfl|rfl|rfl|rfl;omega;have c:194<=b0/\b0<224:=by grind
    rw[D5 (by omega) (by omega),za (by omega)]at h;exact h;have c:224<=b0/\b0<240:=by grind
    rw[qB (by omega) (by omega) (by omega),za (by omega)]at h;exact h;have c:240<=b0/\b0<245:=by grind
    rw[DI (by omega) (by omega) (by omega) (by omega),za (by omega)]at h;exact h
   clear h q t P u;refine⟨λv i=>1<=i/\i<=n/\(0<=v/\v<2097152)/\(i=1->v=v1)/\(i=2->(128<=b1/\b1<=191)/\v=64*v1+b1-128)/\(i=3->(128<=b1/\b1<=191)/\(128<=b2/\b2<=191)/\v=64*(64*v1+b1-128)+b2-128) /\ (i=4->(128<=b1/\b1<=191)/\(128<=b2/\b2<=191)/\(128<=b3/\b3<=191)/\v=64*(64*(64*v1+b1-128)+b2-128)+b3-128),λv i=>(n-i).toNat,by omega,λv i hi=>⟨λE=>?_,λE=>?_⟩⟩;have p:i<n:=by simpa using E
   obtain⟨B,I,j0,z,C,A,L⟩:=hi;rw[ix i B (by omega)];obtain⟨b,l⟩:∃b,ze s ((a:Int)+i).toNat=b:=⟨_,rfl⟩;have f:(i=1->b=b1)/\(i=2->b=b2)/\(i=3->b=b3):=by refine⟨λe=>?_,λe=>?_,λe=>?_⟩ <;> subst e;rw[<-l,e1,x];rw[<-l,Z,w];rw[<-l,e3,y]
   rw[l];have F:=yy s ((a:Int)+i).toNat;rw[l]at F;refine⟨by omega,λhq=>bad i B p ?_,λhq=>?_⟩;have:b<128\/b>191:=by grind
   omega;have aa:¬(b<128\/b>191):=by grind
   have w1:hZ (64*v)=64*v:=wrap64 (by omega) (by omega);have S:hZ (64*v+b)=64*v+b:=wrap64 (by omega) (by omega);have Q:hZ (64*v+b-128)=64*v+b-128:=wrap64 (by omega) (by omega);have U:hZ (i+1)=i+1:=wrap64 (by omega) (by omega);rw[w1,S,Q,U];have G:i=1\/i=2\/i=3:=by omega
   dsimp only;refine⟨⟨by omega,by omega,?_,by omega,?_,?_,?_⟩,by omega⟩;rcases G with rfl|rfl|rfl;have:=z rfl;have:=f.1 rfl;omega;have:=C rfl;have:=f.2.1 rfl;omega;have:=A rfl;have:=f.2.2 rfl;omega;intro e;have e':i=1:=by omega
   have:=z e';have:=f.1 e';omega;intro e;have e':i=2:=by omega
   have:=C e';have:=f.2.1 e';omega;intro e;have e':i=3:=by omega
   have:=A e';have:=f.2.2 e';omega;have p:i=n:=by(have:¬i<n:=by simpa using E);omega
   subst p;obtain⟨B,I,j0,z,C,A,L⟩:=hi;obtain⟨g1,g2⟩:=good v z C A L;refine⟨λo=>g1 ?_,λo=>g2 ?_⟩;grind;grind
def pX(s:Bt)(a:Nat):Bool:=!dD (dec ((lb s).drop a))
theorem Rh{a:Nat}{R:Bool->Prop}(l:a<s.size)(f:(s.size:Int)<=4611686018427387904)(h:R (pX s a)):PC Tp gl 258 [Arg.mk .str s,Arg.mk p3 a] [.bool] R:=by
 apply HD;refine EP f ?_;have b:=j6 ((lb s).drop a);unfold pX dD at h;have e:mt s (a:Int)=(((dec ((lb s).drop a)).1:Int),((dec ((lb s).drop a)).2:Int)):=by unfold mt;rw[za (by omega)];rfl
 rw[e];obtain⟨d,c⟩:∃d,dec ((lb s).drop a)=d:=⟨_,rfl⟩;rw[c]at h b ⊢;have i:decide (((d.2:Nat):Int)>0)=Ta:=by simp;omega
 have m:((((d.1:Nat):Int))==65533)=(d.1==65533):=by rw[Uy];simp;omega
 have k:((((d.2:Nat):Int))==1)=(d.2==1):=by rw[Uy];simp;omega
 simp_all
theorem TR{R:Int×Bool->Prop}(f:(s.size:Int)<=4611686018427387904)(h:∀k,R (k,xd (lb s))):PC Tp gl 203 [Arg.mk .str s] [.int .i64,.bool] R:=by
 apply HJ;refine⟨λa=>0<=a/\a<=(s.size:Int)/\xd (lb s)=xd ((lb s).drop a.toNat),λa=>((s.size:Int)-a).toNat,⟨by omega,by omega,by simp⟩,λa ⟨h0,h1,h2⟩=>⟨λi=>?_,λi=>?_⟩⟩;have l:a<(s.size:Int):=by simpa using i
 obtain⟨k,rfl⟩:∃k:Nat,a=(k:Int):=⟨a.toNat,by omega⟩;simp only[Ue]at h2;have b:(lb s).drop k≠[]:=by intro e;have:=congrArg VA e;simp only[UD,gn,UG]at this;omega
 rw[Zc b]at h2;refine Rh (by omega) f ⟨λc=>?_,λc=>?_⟩;have:dD (dec ((lb s).drop k))=Ta:=by simpa[pX]using c
 simp_all;have m:dD (dec ((lb s).drop k))=Tc:=by simpa[pX]using c
 rw[m]at h2;simp only[UR,if_false,Vl]at h2;refine EP f ?_;unfold mt;rw[za (by omega)];simp only[Ue];grind [j6,mN,gn,wrap64];simp_all[Vr,Qo]
end
section
open Go.Shelf Go.RowKit
def Kg:Go.Shelf.Ren:=⟨fun|161=>218|231=>270|227=>271|233=>272|235=>273|228=>321|197=>247|151=>322|260=>298|152=>369|137=>319|119=>394|224=>358|225=>357|217=>356|266=>385|n=>n,fun|9=>9|4=>4|3=>3|5=>5|117=>281|116=>280|0=>0|124=>284|105=>256|21=>21|119=>305|46=>123|139=>308|138=>307|n=>n,fun|3=>0|4=>1|n=>n⟩
theorem MI:Go.Proofs.Lays.n161 Tp Kg:=by constructor <;> intros <;> kernel_rfl
theorem Xt(s:Bt)(c:UInt8)(b:c.toNat<128)(w:World): Calls Tp 218 #[.string s,.string ⟨#[c]⟩] w λe w'=>e=.returned (.string ⟨(Lib.trimLeftB s.data.toList c).toArray⟩)/\w'=w:=Any.strings_TrimLeft_one MI s c b w
def ID:Go.Shelf.Ren:=⟨fun|162=>219|232=>274|227=>271|234=>275|236=>276|228=>321|271=>323|151=>322|120=>370|197=>247|152=>369|260=>298|137=>319|119=>394|224=>358|225=>357|217=>356|266=>385|n=>n,fun|9=>9|4=>4|3=>3|5=>5|117=>281|116=>280|0=>0|124=>284|21=>21|105=>256|46=>123|119=>305|139=>308|138=>307|n=>n,fun|3=>0|4=>1|n=>n⟩
theorem KN:Go.Proofs.Lays.n162 Tp ID:=by constructor <;> intros <;> kernel_rfl
theorem Ww(s:Bt)(c:UInt8)(b:c.toNat<128)(w:World)(f:s.size<=9223372036854775807): Calls Tp 219 #[.string s,.string ⟨#[c]⟩] w λe w'=>e=.returned (.string ⟨(Lib.trimRightB s.data.toList c).toArray⟩)/\w'=w:=Any.strings_TrimRight_one KN s c b w f
def N6:Go.Shelf.Ren:=⟨fun|137=>319|217=>356|266=>385|n=>n,fun|9=>9|5=>5|3=>3|n=>n,fun|n=>n⟩
theorem Rn:Go.Proofs.Lays.n137 Tp N6:=by constructor <;> intros <;> kernel_rfl
theorem jv(s:Bt)(c:Int)(w:World): Calls Tp 319 #[.string s,.int .u8 c] w λe w'=>e=.returned (.int .i64 (Lib.indexByte s.data.toList c.toNat.toUInt8))/\w'=w:=Any.strings_IndexByte Rn s c w
def IT:Go.Shelf.Ren:=⟨fun|103=>267|210=>318|206=>306|n=>n,fun|9=>9|4=>4|24=>274|3=>3|n=>n,fun|n=>n⟩
theorem Gn:Go.Proofs.Lays.n103 Tp IT:=by constructor <;> intros <;> kernel_rfl
theorem Sb(s p:Bt)(w:World): Calls Tp 267 #[.string s,.string p] w λe w'=>e=.returned (.tuple #[.string ⟨(Lib.trimPrefix s.data.toList p.data.toList).toArray⟩,.bool (Lib.hasPrefix s.data.toList p.data.toList)])/\w'=w:=Any.strings_CutPrefix Gn s p w
def RP:Go.Shelf.Ren:=⟨fun|242=>248|278=>299|n=>n,fun|37=>87|21=>21|51=>176|4=>4|5=>5|46=>123|n=>n,fun|n=>n⟩
theorem Sk:Go.Proofs.Lays.n242 Tp RP:=by constructor <;> intros <;> kernel_rfl
theorem Wx(B:Nat)(v:Value)(n:Nat)(xs:List Value)(r:Int)(f:-2147483648<=r)(i:r<=2147483647)(w:World)(b:w.ownsRow B 5 1 v n xs)(c:n+4<=140737488355328)(h:B<=w.heap.size): Calls Tp 248 #[v,.int .i32 r] w λe w'=>∃k,e=.returned k/\w'.ownsRow B 5 1 k (n+(Lib.runeCells r).length) (xs++Lib.runeCells r)/\∃o,(w.alloc o).grownBy w' v.ownBlock:=Any.utf8_AppendRune_plain Sk (by kernel_rfl) B v n xs r f i w b c h
def Ry:Go.Shelf.Ren:=⟨fun|171=>159|243=>216|246=>249|283=>300|284=>301|285=>302|286=>303|129=>178|317=>352|318=>353|319=>354|320=>355|337=>383|338=>384|n=>n,fun|3=>3|9=>9|2=>2|4=>4|171=>309|0=>0|53=>178|37=>87|5=>5|173=>311|212=>349|51=>176|20=>20|213=>350|46=>123|232=>384|233=>385|n=>n,fun|17=>2|18=>6|19=>7|n=>n⟩
theorem JJ:Go.Proofs.LaysM.n171 Tp Ry:=by repeat' first|(intros;kernel_rfl)|constructor
open Go.RowKit Go.Sort Go.Lib in
theorem NR(n : Int)(h0 : -9223372036854775808 ≤ n)(h1 : n ≤ 9223372036854775807)(w : World)(htab : Lib.TabIs Tp w "internal/strconv.uint64pow10" .u64 Lib.pow10Tab): Calls Tp 159 #[.int .i64 n] w λe w'=>e=.returned (.string ⟨(Lib.itoa n).toArray⟩)/\∃k os,w'=grow (w.drewN k) os:=Any.strconv_Itoa JJ n h0 h1 w htab
def Ga:Go.Shelf.Ren:=⟨fun|245=>314|279=>361|280=>362|281=>363|282=>364|316=>389|171=>159|205=>390|243=>216|246=>249|283=>300|284=>301|285=>302|286=>303|129=>178|317=>352|318=>353|319=>354|320=>355|337=>383|338=>384|n=>n,fun|9=>9|3=>3|75=>91|167=>351|4=>4|168=>354|210=>376|37=>87|0=>0|127=>133|145=>388|143=>386|2=>2|171=>309|53=>178|5=>5|173=>311|212=>349|51=>176|20=>20|213=>350|46=>123|232=>384|233=>385|80=>95|n=>n,fun|15=>4|16=>5|17=>2|18=>6|19=>7|n=>n⟩
theorem Tl:Go.Proofs.LaysC.n245 Tp Ga:=by repeat' first|(intros;kernel_rfl)|constructor
theorem Ju(fn s:Bt)(base b:Int)(c:Value)(w:World)(f:s.size<=281474976710656)(k:w.cell? ⟨4,0,Te⟩=Td c)(h:c=.nilIface\/∃i l,c=.iface i l): Calls Tp 314 #[.string fn,.string s,.int .i64 base,.int .i64 b,.iface 351 (.int .i64 2)] w λe w'=>∃N,e=.returned (.iface 354 (.pointer (Td ⟨N,0,Te⟩)))/\w.heap.size<=N/\w'.heap[N]?=Td (.cells #[.string fn,.string s,c] 376 (0,0))/\Below w.heap.size w w':=Any.strconv_toError_syntax Tl fn s base b c w f k h
def QK:Go.Shelf.Ren:=⟨fun|321=>387|n=>n,fun|5=>5|n=>n,fun|n=>n⟩
theorem HF:Go.Proofs.Lays.n321 Tp QK:=by constructor <;> intros <;> kernel_rfl
theorem Jw(c:Int)(w:World): Calls Tp 387 #[.int .u8 c] w λe w'=>e=.returned (.int .u8 (bits .or .u8 c 32))/\w'=w:=Any.internal_strconv_lower HF c w
def Hm:Go.Shelf.Ren:=⟨fun|174=>262|247=>313|245=>314|287=>360|279=>361|280=>362|281=>363|282=>364|321=>387|322=>388|316=>389|171=>159|205=>390|243=>216|246=>249|283=>300|284=>301|285=>302|286=>303|129=>178|317=>352|318=>353|319=>354|320=>355|337=>383|338=>384|n=>n,fun|9=>9|3=>3|2=>2|75=>91|85=>269|4=>4|167=>351|5=>5|53=>178|175=>352|46=>123|168=>354|37=>87|0=>0|210=>376|21=>21|127=>133|145=>388|143=>386|171=>309|173=>311|212=>349|51=>176|20=>20|213=>350|232=>384|233=>385|80=>95|n=>n,fun|15=>4|16=>5|17=>2|18=>6|19=>7|n=>n⟩
theorem sV:Go.Proofs.LaysC.n174 Tp Hm:=by repeat' first|(intros;kernel_rfl)|constructor
theorem Qe(s:Bt)(b:s.size<=9223372036854775806)(v:Int)(h:Lib.parseIntB 64 s.data.toList=.ok v)(w:World): Calls Tp 262 #[.string s,.int .i64 10,.int .i64 64] w λe w'=>e=.returned (.tuple #[.int .i64 v,.nilIface])/\(w'=w\/∃t,w'=Lib.bytesWorld w 5 t):=Any.strconv_ParseInt_10_at64_ok sV s b v h w
theorem Zd(s:Bt)(c:s.size<=281474976710656)(h:Lib.parseIntB 64 s.data.toList=Lib.parseIntB 64 [])(b:Value)(w:World)(k:w.cell? ⟨4,0,Te⟩=Td b)(f:b=.nilIface\/∃i l,b=.iface i l): Calls Tp 262 #[.string s,.int .i64 10,.int .i64 64] w λe w'=>∃N,e=.returned (.tuple #[.int .i64 (0),.iface 354 (.pointer (Td ⟨N,0,Te⟩))])/\w.heap.size<=N/\w'.heap[N]?=Td (.cells #[.string ⟨#[80,97,114,115,101,73,110,116]⟩,.string s,b] 376 (0,0))/\Below w.heap.size w w':=Any.strconv_ParseInt_10_at64_syntax sV s c h b w k f
theorem Zm(s:Bt)(c:s.size<=281474976710656)(h:Lib.parseIntB 64 s.data.toList=.range)(b:Value)(w:World)(k:w.cell? ⟨5,0,Te⟩=Td b)(f:b=.nilIface\/∃i l,b=.iface i l): Calls Tp 262 #[.string s,.int .i64 10,.int .i64 64] w λe w'=>∃N,e=.returned (.tuple #[.int .i64 (Lib.intSat 64 s.data.toList),.iface 354 (.pointer (Td ⟨N,0,Te⟩))])/\w.heap.size<=N/\w'.heap[N]?=Td (.cells #[.string ⟨#[80,97,114,115,101,73,110,116]⟩,.string s,b] 376 (0,0))/\Below w.heap.size w w':=Any.strconv_ParseInt_10_at64_range sV s c h b w k f
def GC:Go.Shelf.Ren:=⟨fun|99=>251|206=>306|n=>n,fun|9=>9|4=>4|3=>3|n=>n,fun|n=>n⟩
theorem MZ:Go.Proofs.Lays.n99 Tp GC:=by constructor <;> intros <;> kernel_rfl
open Go.RowKit Go.Lib in
theorem KE(s p:Bt)(w:World): Calls Tp 251 #[.string s,.string p] w λe w'=>e=.returned (.bool (Lib.hasPrefix s.data.toList p.data.toList))/\w'=w:=Any.strings_HasPrefix MZ s p w
def Kx:Go.Shelf.Ren:=⟨fun|101=>269|208=>320|206=>306|n=>n,fun|9=>9|4=>4|3=>3|n=>n,fun|n=>n⟩
theorem QR:Go.Proofs.Lays.n101 Tp Kx:=by constructor <;> intros <;> kernel_rfl
open Go.RowKit Go.Lib in
theorem G4(s p:Bt)(w:World): Calls Tp 269 #[.string s,.string p] w λe w'=>e=.returned (.string ⟨(Lib.trimPrefix s.data.toList p.data.toList).toArray⟩)/\w'=w:=Any.strings_TrimPrefix QR s p w
def Pu:Go.Shelf.Ren:=⟨fun|197=>247|260=>298|n=>n,fun|9=>9|21=>21|3=>3|4=>4|5=>5|105=>256|119=>305|0=>0|46=>123|139=>308|138=>307|n=>n,fun|3=>0|4=>1|n=>n⟩
theorem OS:Go.Proofs.Lays.n197 Tp Pu:=by constructor <;> intros <;> kernel_rfl
def QL:Go.Shelf.Ren:=⟨fun|150=>365|153=>391|152=>369|226=>404|227=>271|228=>321|137=>319|119=>394|224=>358|225=>357|217=>356|266=>385|n=>n,fun|9=>9|4=>4|3=>3|5=>5|21=>21|117=>281|116=>280|0=>0|46=>123|124=>284|n=>n,fun|n=>n⟩
theorem N9:Go.Proofs.Lays.n150 Tp QL:=by constructor <;> intros <;> kernel_rfl
open Go.RowKit Go.Lib in
theorem Yn(s c:Bt)(w:World)(k:s.size<4294967281)(i:c.size<4294967281)(h:∀(j:Nat) b,s.data.toList[j]?=Td b->b.toNat<128)(f:∀(j:Nat) b,c.data.toList[j]?=Td b->b.toNat<128): Calls Tp 365 #[.string s,.string c] w λe w'=>e=.returned (.bool (Lib.containsAny s.data.toList c.data.toList))/\Below w.heap.size w w':=Any.strings_ContainsAny_laid N9 (by kernel_rfl) s c w k i h f
def CZ:Go.Shelf.Ren:=⟨fun|105=>200|212=>250|99=>251|165=>202|166=>68|170=>252|169=>70|263=>304|264=>305|206=>306|240=>123|241=>257|276=>195|277=>308|n=>n,fun|9=>9|3=>3|4=>4|20=>20|0=>0|46=>123|109=>259|5=>5|72=>89|76=>92|51=>176|146=>313|53=>178|148=>315|70=>86|37=>87|75=>91|127=>133|164=>199|80=>95|n=>n,fun|n=>n⟩
theorem Kc:Go.Proofs.Lays.n105 Tp CZ:=by constructor <;> intros <;> kernel_rfl
theorem I8:Builder.Extra Tp CZ:={
 sizeBuilder:=by kernel_rfl
 liesBuilder:=by kernel_rfl
 t5:=Tryz.underlying5
 a5:=Tryz.isAgg5
 z5:=Tryz.sizeOf5
 v5:=Tryz.zeroValue5
 infoByte:=by kernel_rfl
 cellsByte:=by kernel_rfl
 sizeByte:=by kernel_rfl
 neB5:=by decide }
open Go.RowKit Go.Lib in
theorem Ik(s:Bt)(c:Nat)(w:World)(f:c<=9223372036854775807)(b:s.size*c<=140737488355328): Calls Tp 200 #[.string s,.int .i64 c] w λe w'=>e=.returned (.string ⟨(Lib.repeatL s.data.toList c).toArray⟩)/\Below w.heap.size w w':=Any.strings_Repeat Kc I8 s c w f b
open Go.RowKit Go.Lib in
theorem Y5(s:Bt)(w:World)(b:Lib.Utf8Tabs 0 1 w): Calls Tp 247 #[.string s] w λe w'=>e=.returned (.tuple #[.int .i32 (Lib.decodeGo s).1,.int .i64 (Lib.decodeGo s).2])/\Below w.heap.size w w':=Any.utf8_DecodeRuneInString OS s w b
end
section
open Go.RowKit
variable {gl M:Fr} {s:Bt}
theorem tP{c:Int}{R:Int->Prop}(h:R (Lib.indexByte (lb s) c.toNat.toUInt8)):PC Tp gl 319 [Arg.mk .str s,Arg.mk (.int .u8) c] [.int .i64] R:= PC.of_same rfl (λ_=>ER _ _) h λw _=>jv s c w
theorem OC{s p:Bt}{R:Bt×Bool->Prop}(h:R (bl (Lib.trimPrefix (lb s) (lb p)),Lib.hasPrefix (lb s) (lb p))):PC Tp gl 267 [Arg.mk .str s,Arg.mk .str p] [.str,.bool] R:= PC.of_same rfl (λM=>⟨[_,_],⟨_,_,rfl,rfl,_,rfl,rfl⟩,rfl⟩) h λw _=>Sb s p w
theorem G0{s p:Bt}{R:Bt->Prop}(h:R (bl (Lib.trimPrefix (lb s) (lb p)))):PC Tp gl 269 [Arg.mk .str s,Arg.mk .str p] [.str] R:= PC.of_same rfl (λ_=>mB _) h λw _=>G4 s p w
theorem Tx{c:UInt8}(b:c.toNat<128){R:Bt->Prop}(h:R (bl (Lib.trimLeftB (lb s) c))):PC Tp gl 218 [Arg.mk .str s,Arg.mk .str ⟨#[c]⟩] [.str] R:= PC.of_same rfl (λ_=>mB _) h λw _=>Xt s c b w
theorem Nl{c:UInt8}(e:c.toNat<128)(b:s.size<=9223372036854775807){R:Bt->Prop}(h:R (bl (Lib.trimRightB (lb s) c))):PC Tp gl 219 [Arg.mk .str s,Arg.mk .str ⟨#[c]⟩] [.str] R:= PC.of_same rfl (λ_=>mB _) h λw _=>Ww s c e w b
def AZ(gl:Fr):Prop:=∃(cs:Array Value) (m:Int),gl 3=Td cs/\cs[0]?=Td (.int .i64 m)
theorem BN(w:World)(n:Nat):Below w.heap.size w (w.drewN n):=⟨rfl,rfl,rfl,Uc _,λ_ _=>rfl⟩
theorem rS{c:Nat}(e:c<=9223372036854775807)(b:s.size*c<=140737488355328){R:Bt->Prop}(h:R (bl (Lib.repeatL (lb s) c))):PC Tp gl 200 [Arg.mk .str s,Arg.mk p3 (c:Int)] [.str] R:= PC.of_scal rfl (λ_=>mB _) h λw f=>Ik s c w e b
def Tabs(gl:Fr):Prop:=(∃cs:Array Value,gl 0=Td cs/\∀c,c<256->cs[c]?=Td (.int .u8 (Lib.firstT c)))/\∃cs:Array Value,gl 1=Td cs/\∀i,i<16->cs[2*i]?=Td (.int .u8 (Lib.accLo i))/\cs[2*i+1]?=Td (.int .u8 (Lib.accHi i))
theorem Tabs.at(h:Tabs gl){w:World}(b:AgM gl w.heap):Lib.Utf8Tabs 0 1 w:=by obtain⟨⟨c1,e,b1⟩,c2,a2,b2⟩:=h;exact⟨λc f=>b.glob e (b1 c f),λi hi=>⟨b.glob a2 (b2 i hi).1,b.glob a2 (b2 i hi).2⟩⟩
theorem zW(c:Tabs gl){R:Int×Int->Prop}(h:R ((Lib.decodeGo s).1,(Lib.decodeGo s).2)):PC Tp gl 247 [Arg.mk .str s] [.int .i32,.int .i64] R:= PC.of_scal rfl (λM=>⟨[_,_],⟨_,_,rfl,rfl,_,rfl,rfl⟩,rfl⟩) h λw b=>Y5 s w (c.at b)
theorem Sc(w:World)(k:Nat)(os:Array Obj):Below w.heap.size w (Go.Sort.grow (w.drewN k) os):=⟨rfl,rfl,rfl,by simp[Go.Sort.grow,World.drewN],λi hi=>by show((w.drewN k).heap++os)[i]?=_;exact V5 hi⟩
def mF(gl : Fr): Prop := ∃ b cs, Tryz.prog.globalNamed "internal/strconv.uint64pow10" = some b ∧ gl b = some cs ∧ cs = (Lib.pow10Tab.map λz => Value.int .u64 z).toArray
theorem Bo(i:mF gl){n:Int}(h0:-9223372036854775808<=n)(h1:n<=9223372036854775807){R:Bt->Prop}(h:R (bl (Lib.itoa n))):PC Tp gl 159 [Arg.mk p3 n] [.str] R:=by obtain⟨b,cs,l,r,o⟩:=i;refine PC.of_scal rfl (λ_=>mB _) h λw f=>(NR n h0 h1 w ?_).mono λe w' ⟨p,k,os,c⟩=>⟨p,c ▸ Sc w k os⟩;obtain⟨T,m,q⟩:=f b cs r;unfold Lib.TabIs World.var?;rw[l];simp only[VM,q,o]
def qM(gl:Fr):Prop:=(∃(cs:Array Value) (e:Value),gl 4=Td cs/\cs[0]?=Td e/\(e=.nilIface\/∃b c,e=.iface b c))/\∃(cs:Array Value) (e:Value),gl 5=Td cs/\cs[0]?=Td e/\(e=.nilIface\/∃b c,e=.iface b c)
theorem vj(k:IntKind)(i:Int)(t:TypeId)(u:Value):Zp M [.int k,.err] (i,Tc) (.tuple #[.int k i,.iface t u]):=⟨[_,_],⟨_,_,rfl,rfl,.iface t u,rfl,⟨_,rfl,.inr ⟨rfl,_,_,rfl⟩⟩⟩,rfl⟩
theorem yI(k:IntKind)(i:Int):Zp M [.int k,.err] (i,Ta) (.tuple #[.int k i,.nilIface]):=⟨[_,_],⟨_,_,rfl,rfl,.nilIface,rfl,⟨_,rfl,.inl ⟨rfl,rfl⟩⟩⟩,rfl⟩
def rB(l:List UInt8):Int×Bool:=match Lib.parseIntB 64 l with
 |.ok v=>(v,Ta)
 |.range=>(Lib.intSat 64 l,Tc)
 |_=>(0,Tc)
theorem Lp(p:qM gl)(o:s.size<=281474976710656){R:Int×Bool->Prop}(h:R (rB (lb s))):PC Tp gl 262 [Arg.mk .str s,Arg.mk p3 10,Arg.mk p3 64] [.int .i64,.err] R:=by
 unfold rB at h;cases hx:Lib.parseIntB 64 (lb s)with
 |ok v=>rw[hx]at h;refine PC.of_ex rfl λw f=>(Qe s (by omega) v hx w).mono λe w' ⟨c,i⟩=>⟨_,(v,Ta),c,λM=>yI _ _,h,?_⟩;rcases i with rfl|⟨t,rfl⟩;exact Below.refl _ _;exact Lib.bytesWorld_below _ _ _
 |range=>rw[hx]at h;obtain⟨_,⟨cs,k,l,n,m⟩⟩:=p;exact PC.of_ex rfl λw f=>(Zm s o hx k w (f.glob l n) m).mono λe w' ⟨N,c,_,_,b⟩=>⟨_,(Lib.intSat 64 (lb s),Tc),c,λM=>vj _ _ _ _,h,b⟩
 |_=>rw[hx]at h;obtain⟨⟨cs,k,l,n,m⟩,_⟩:=p;exact PC.of_ex rfl λw f=>(Zd s o hx k w (f.glob l n) m).mono λe w' ⟨N,c,_,_,b⟩=>⟨_,(0,Tc),c,λM=>vj _ _ _ _,h,b⟩
theorem Rq{s c:Bt}(i:s.size<4294967281)(k:c.size<4294967281)(f:∀(j:Nat) b,(lb s)[j]?=Td b->b.toNat<128)(e:∀(j:Nat) b,(lb c)[j]?=Td b->b.toNat<128){R:Bool->Prop}(h:R (Lib.containsAny (lb s) (lb c))):
  PC Tp gl 365 [Arg.mk .str s,Arg.mk .str c] [.bool] R:=
 PC.of_scal rfl (λ_=>uH _) h λw l=>Yn s c w i k f e
end
section
open Go.Lib
theorem zh(l:Bs):(bl l).size=l.length:=by rw[<-gn,ym]
theorem qe(l:Bs)(a b:Nat):(bl l).extract a b=bl ((l.drop a).take (b-a)):=by rw[<-kM,NH,ym,ym]
theorem qb(a b:Bs):bl a++bl b=bl (a++b):=by rw[<-kM,T8,ym,ym,ym]
theorem qc(l:Bs)(i:Nat):ze (bl l) i=((l[i]?.getD 0).toNat:Int):=by rw[sN,ym]
theorem Z8(s:Bt):s.toList=lb s:=by
 cases s with
 |mk d=>exact Go.Lib.toList_data ⟨d⟩
theorem eB(a b:Bs):((bl a).toList==(bl b).toList)=decide (a=b):=by rw[Z8,Z8,ym,ym];rw[Uy];simp
theorem tH{a b:Bs}:bl a=bl b↔a=b:=by rw[<-kM,ym,ym]
theorem mc(l:Bs)(p:Nat):dy (bl l) p=decide (p<l.length):=by rw[Uy];simp[dy,zh]
theorem k0(l:Bs)(p:Nat):eA (bl l) p=((dec (l.drop p)).1:Int):=by rw[eA,nK,ym]
theorem iH(l:Bs)(p:Nat)(h:p<l.length):dE (bl l) p=p+(dec (l.drop p)).2:=by
 rw[dE,nK,ym];have:Nat.blt p (bl l).size=Ta:=by simp[zh,h]
 rw[this];rfl
theorem gJ{l:Bs}{i:Nat}(h:i<l.length):l[i]?.getD 0=l[i]:=by rw[Ul h];rfl
def yb(c:UInt8):Bool:=decide (48<=c.toNat)&&decide (c.toNat<=57)
def Zn(l:Bs):Bool:=l.all yb && !l.isEmpty
abbrev Nm:=Bool×Bs×Int
abbrev ei(n:Nm):Bool×Bt×Int:=(n.1,(bl n.2.1,n.2.2))
def Q9(n:Nm):Bool:=!n.1&&(n.2.1.isEmpty&&n.2.2==0)
def qk(n:Nm):Bool:=Q9 n||(Zn n.2.1&&decide (n.2.1.length<=1000)&&n.2.1.head? != Td 48&&n.2.1.getLast? != Td 48&&decide (-1000000<=n.2.2)&&decide (n.2.2<=1000000))
def ql(n:Nm):Bs:=if qk n then(if n.2.1=[]then [48]else(if n.1 then [45]else [])++n.2.1++(if n.2.2=0 then []else 101::Go.Lib.itoa n.2.2))else []
theorem qN{n:Nm}(h:qk n=Ta)(e:n.2.1=[]):Q9 n=Ta:=by unfold qk at h;rcases Vq _ _ ▸ h with h|h;exact h;simp[Zn,e]at h
theorem Ya{n:Nm}(h:qk n=Ta):n.2.1.length<=1000/\-1000000<=n.2.2/\n.2.2<=1000000:=by unfold qk Q9 at h;obtain⟨a,d,e⟩:=n;simp at h;rcases h with⟨_,h,h'⟩|h;subst h;subst h';simp;simp only;omega
def cutAt(p:UInt8->Bool):Bs->Bs×Bs×Bool
 |[]=>([],[],Tc)
 |c::l=>if p c then([],l,Ta)else(c::(cutAt p l).1,(cutAt p l).2)
theorem Qz{p:UInt8->Bool}:∀{l},(∀c∈l,p c=Tc)->cutAt p l=(l,[],Tc)
 |[],_=>rfl
 |c::l,h=>by unfold cutAt;rw[za (by simp[h c (by simp)]),Qz λc b=>h c (by simp[b])]
theorem mj{p:UInt8->Bool}:∀{l:Bs} {k:Nat} (b:k<l.length),(∀i (hi:i<k),p (l[i]'(by omega))=Tc)->p l[k]=Ta->cutAt p l=(l.take k,l.drop (k+1),Ta)
 |c::l,0,_,_,h=>by unfold cutAt;rw[zA (by simpa using h)];simp
 |c::l,k+1,b,h0,h=>by unfold cutAt;have h1:p c=Tc:=h0 0 (by omega);rw[za (by simp[h1]),mj (k:=k) (by simpa using b) (λi hi=>by simpa using h0 (i+1) (by omega)) (by simpa using h)];simp
structure Lit where
 neg:Bool
 whole:Bs
 rest:Bs
 low:Bool
 exp:Bs
def dG(s:Bs):Bs:=if s.head?==Td 45 then s.tail else s
def eC(c:UInt8):Bool:=c==101||c==69
def eM(c:UInt8):Bool:=c==46
def jl(s:Bs):Bs×Bs×Bool:=cutAt eC (dG s)
def xr(s:Bs):Bool:=(jl s).2.2&&(jl s).2.1.head?==Td 45
def dh(s:Bs):Bs:=if xr s then(jl s).2.1.tail else if(jl s).2.1.head?==Td 43 then(jl s).2.1.tail else(jl s).2.1
def jm(s:Bs):Bs×Bs×Bool:=cutAt eM (jl s).1
def Wy(s:Bs):Bool:=(!(jl s).2.2||Zn (dh s))&&Zn (jm s).1&&(!(jm s).2.2||Zn (jm s).2.1)&&((jm s).1==[48]||(jm s).1.head? != Td 48)
def Yb(s:Bs):Lit:=⟨s.head?==Td 45,(jm s).1,(jm s).2.1,xr s,if(jl s).2.2 then dh s else []⟩
def Qj(s:Bs):Option Lit:=if Wy s then Td (Yb s)else Te
theorem uI{s:Bs}{x:Lit}(h:Qj s=Td x):Wy s=Ta/\x=Yb s:=by unfold Qj at h;split at h;rename_i e;exact⟨e,(UO h).symm⟩;exact absurd h (by simp)
theorem Jx{p:UInt8->Bool}:∀{l:Bs},(cutAt p l).2.2=Tc->(cutAt p l).1=l/\(cutAt p l).2.1=[]
 |[],_=>⟨rfl,rfl⟩
 |c::l,h=>by unfold cutAt at h ⊢;split;rename_i e;rw[zA e]at h;exact absurd h (by simp);rename_i e;rw[za e]at h;have:=Jx h;exact⟨by simp[this.1],this.2⟩
def jw(l:Bs):Bs:=((l.dropWhile (· == 48)).reverse.dropWhile (· == 48)).reverse
def zl(l:Bs):Nat:=l.foldl (λn c=>10*n+(c.toNat-48)) 0
def zm(s:Bs):Nm×Int:=match Qj s with
 |none=>((Tc,[],0),2)
 |some x=>
  if x.whole.length+x.rest.length>1000 then((Tc,[],0),3)
  else if(x.exp.dropWhile (· == 48)).length>9 then((Tc,[],0),4)
  else
   let e:Int:=if x.low then-(zl (x.exp.dropWhile (· == 48)):Int)else zl (x.exp.dropWhile (· == 48))
   let d:=(x.whole++x.rest).dropWhile (· == 48)
   let b:=jw (x.whole++x.rest)
   if d=[]then((Tc,[],0),0)
   else if -1000000<=e-x.rest.length+d.length-b.length/\e-x.rest.length+d.length-b.length<=1000000 then((x.neg,b,e-x.rest.length+d.length-b.length),0)
   else((Tc,[],0),4)
def kw(n:Nm):Int×Bool:=
 if qk n&&decide (0<=n.2.2)&&decide ((n.2.1.length:Int)+n.2.2<=19)then
  let v:Int:=if n.1 then-((zl n.2.1*10 ^ n.2.2.toNat:Nat):Int)else(zl n.2.1*10 ^ n.2.2.toNat:Nat)
  if -9223372036854775808<=v/\v<=9223372036854775807 then(v,Ta)else(0,Tc)
 else(0,Tc)
end
section
section
variable {n:Nat} {gl:Fr} {l:Bs} {R:Bool -> Prop}
theorem qn{k n:Nat}(h:k<n)(b:n<=4611686018427387904):hZ ((k:Int)+1)=((k+1:Nat):Int):=TA (by omega)
theorem Yy(m:l.length<=4611686018427387904)(h:R (Zn l)):PC Tp gl 333 [Arg.mk .str (bl l)] [.bool] R:=by
 apply Oa;simp only[zh,qc];refine⟨λi=>∃k:Nat,i=k/\k<=l.length/\Zn l=(Zn l&&(l.drop k).all yb)/\(l.drop k).all yb=l.all yb,λi=>l.length-i.toNat,⟨0,rfl,by omega,by simp[Zn];exact λh _=>h,by simp⟩,?_⟩;rintro i ⟨k,rfl,n,-,h2⟩;refine⟨λf=>?_,λf=>?_⟩;have b:k<l.length:=by simpa using f
 simp only[Ue,gJ b];rw[UZ b,WQ]at h2;refine⟨by omega,λ_=>by omega,λc=>?_,λc=>?_⟩;have e:yb l[k]=Tc:=by unfold yb;rw[VS]at c;have:=l[k].toNat_lt;rcases Vq _ _ ▸ c with c|c <;> simp at c ⊢ <;> omega
 rw[e]at h2;simp only[XU]at h2;have:Zn l=Tc:=by simp[Zn,<-h2]
 rw[this]at h;exact h;have e:yb l[k]=Ta:=by unfold yb;rw[VS]at c;have:=XB.1 c;simp at this ⊢;omega
 rw[e]at h2;simp only[Vo]at h2;rw[qn b m];refine⟨⟨k+1,rfl,by omega,?_,h2⟩,by simp;omega⟩;rw[h2,Zn];cases l.all yb <;> simp;have b:k=l.length:=by(have:¬(k<l.length):=by simpa using f);omega
 subst b;rw[List.drop_length]at h2;have:Zn l=decide ((l.length:Int)>0):=by rw[Zn,<-h2];cases l <;> simp
 rw[this]at h;exact h
theorem TC(h:l≠[]):(48<=(dec l).1/\(dec l).1<=57)->(dec l).2=1/\∃c t,l=c::t/\yb c=Ta/\(dec l).1=c.toNat:=by obtain⟨c,t,rfl⟩:=U9 h;intro b;by_cases e:c.toNat<128;rw[lV e]at b ⊢;exact⟨rfl,c,t,rfl,by simp[yb];simpa using b,rfl⟩;exfalso;unfold dec at b;have b0:((c::t).getD 0 0).toNat=c.toNat:=rfl;rw[b0]at b;have:=c.toNat_lt;have b1:=((c::t).getD 1 0).toNat_lt;have b2:=((c::t).getD 2 0).toNat_lt;have b3:=((c::t).getD 3 0).toNat_lt;generalize ((c::t).getD 1 0).toNat=x1 at *;generalize ((c::t).getD 2 0).toNat=x2 at *;generalize ((c::t).getD 3 0).toNat=x3 at *;generalize c.toNat=x0 at *;unfold Lib.decodeN at b;rw[za e]at b;split at b;split at b <;> simp only at b <;> omega;split at b;split at b <;> simp only at b <;> omega;split at b;split at b <;> simp only at b <;> omega;simp only at b;omega
theorem nZ(h:R (Zn l)):PC Tp gl 215 [Arg.mk .str (bl l)] [.bool] R:=by
 apply NU;refine⟨λp=>p.1=bl l/\p.2<=l.length/\(l.drop p.2).all yb=l.all yb,λp=>l.length-p.2,⟨rfl,by omega,by simp⟩,?_⟩;rintro⟨_,p⟩ ⟨rfl,o,h2⟩;simp only at o h2 ⊢;rw[mc,k0];refine⟨λm=>⟨m,λf=>?_,λf=>?_⟩,λm=>?_⟩;all_goals first
  |have k:p<l.length:=by simpa using m
  |have k:¬p<l.length:=by simpa using m
 have i:l.drop p≠[]:=λe=>by have:=congrArg VA e;simp at this;omega
 have n:¬(48<=(dec (l.drop p)).1/\(dec (l.drop p)).1<=57):=by rw[VS]at f;rcases Vq _ _ ▸ f with f|f <;> simp at f <;> omega
 have q:l.all yb=Tc:=by
  rw[<-h2];obtain⟨c,t,e⟩:=U9 i;rw[e];cases b:yb c with
  |false=>simp[b]
  |true=>
   exfalso;apply n;have:c.toNat<128:=by simp[yb]at b;omega
   rw[e,lV this];simpa[yb]using b
 have:Zn l=Tc:=by simp[Zn,q]
 rw[this]at h;exact h;have i:l.drop p≠[]:=λe=>by have:=congrArg VA e;simp at this;omega
 have n:48<=(dec (l.drop p)).1/\(dec (l.drop p)).1<=57:=by rw[VS]at f;have:=XB.1 f;simp at this;omega
 obtain⟨h1,c,t,e,b,_⟩:=TC i n;rw[iH l p k,h1];refine⟨⟨trivial,by omega,?_⟩,by omega⟩;have r:l.drop (p+1)=t:=by rw[<-Vl,e];rfl
 rw[r,<-h2,e];simp[b];have:l.drop p=[]:=Vr (by omega);rw[this]at h2;have e:Zn l=!(decide (l=[])):=by rw[Zn,<-h2];cases l <;> simp
 have:=eB l [];rw[show(⟨#[]⟩:Bt)=bl []from rfl,this,<-e];exact h
abbrev tN:Ty:=.pair .bool (.pair .str (.int .i64))
theorem FD{n:Nm}(h:R (Q9 n)):PC Tp gl 292 [Arg.mk tN (ei n)] [.bool] R:=by
 apply Kd;simp only[show(⟨#[]⟩:Bt)=bl []from rfl,eB];have e:Q9 n=((n.1==Tc)&&(decide (n.2.1=[])&&((n.2.2==0)&&Ta))):=by unfold Q9;rcases n with⟨_|_,_|⟨_,_⟩,e⟩ <;> simp
 rw[e]at h;exact h
theorem pe(h:0<l.length):(((l[0]?.getD 0).toNat:Int) != 48)=(l.head? != Td 48):=by
 cases l with
 |nil=>simp at h
 |cons c t=>rw[Uy];simp;constructor;intro h1 h2;exact h1 (by rw[h2];rfl);intro h1 h2;exact h1 (XL.1 (by(have:c.toNat=48:=by omega);rw[this];rfl))
theorem Br(h:0<l.length):(((l[l.length-1]?.getD 0).toNat:Int) != 48)=(l.getLast? != Td 48):=by rw[List.getLast?_eq_getElem?];rw[Ul (by omega)];rw[Uy];simp;constructor;intro h1 h2;exact h1 (by rw[h2];rfl);intro h1 h2;exact h1 (XL.1 (by(have:l[l.length-1].toNat=48:=by omega);rw[this];rfl))
theorem Wz(h:Zn l=Ta):0<l.length:=by
 cases l with
 |nil=>simp[Zn]at h
 |cons=>simp
theorem kO(h:0<n)(b:n<=4611686018427387904):hZ ((n:Int)-1)=((n-1:Nat):Int):=by rw[wrap64 (by omega) (by omega)];omega
theorem AE{n:Nm}(f:n.2.1.length<=4611686018427387904)(h:R (qk n)):PC Tp gl 279 [Arg.mk tN (ei n)] [.bool] R:=by
 apply I9;refine FD (n:=n) ⟨λh1=>?_,λh1=>?_⟩;have:qk n=Ta:=by simp[qk,h1]
 rw[this]at h;exact h;refine Yy f ⟨λh2=>?_,λh2=>?_,?_⟩;have c:Zn n.2.1=Ta:=by simp at h2;exact h2.1
 have:=Wz c;simp only[zh];omega;have c:Zn n.2.1=Ta:=by simp at h2;exact h2.1.1
 have:=Wz c;simp only[zh];rw[kO this f];omega;have e:qk n=(bif (bif (bif (bif (bif Zn n.2.1 then(decide (((bl n.2.1).size:Int)<=1000))else Tc)then((ze (bl n.2.1) (0:Int).toNat:Int) != 48)else Tc)then((ze (bl n.2.1) (hZ (((bl n.2.1).size:Int)-1):Int).toNat:Int) != 48)else Tc)then(decide (n.2.2>=(-1000000)))else Tc)then(decide (n.2.2<=1000000))else Tc):=by
  unfold qk;rw[h1,XN];simp only[zh,qc];cases hd:Zn n.2.1 with
  |false=>simp
  |true=>have b:=Wz hd;rw[kO b f];simp only[Ue,Int.toNat_zero,Br b,pe b,VG,Vo,zG];congr 3;rw[Uy];simp;omega
 rw[e]at h;exact h
theorem tJ{n:Nm}(l:n.2.1.length<=4611686018427387904)(h:R (qk n)):PC Tp gl 158 [Arg.mk tN (ei n)] [.bool] R:=by
 apply HC;simp only[show(⟨#[]⟩:Bt)=bl []from rfl,eB,zh,qc];have e:((n.1==Tc)&&(decide (n.2.1=[])&&((n.2.2==0)&&Ta)))=Q9 n:=by unfold Q9;rcases n with⟨_|_,_|⟨_,_⟩,e⟩ <;> simp
 rw[e];refine⟨λh1=>?_,λh1=>?_⟩;have:qk n=Ta:=by simp[qk,h1]
 rw[this]at h;exact h
 ·unfold qk at h;rw[h1,XN]at h;refine nZ ⟨λh2=>⟨λ_=>?_,λf=>?_⟩,λh2=>⟨λf=>⟨λ_=>?_,λc=>?_⟩,λf=>⟨?_,λc=>⟨λ_=>?_,λb=>?_⟩,λc=>⟨?_,λb=>?_,λb=>?_⟩⟩⟩⟩;have:Zn n.2.1=Tc:=by simpa using h2
  rw[this]at h;simpa using h;rw[h2]at f;cases f;have:decide (n.2.1.length<=1000)=Tc:=by simp at f ⊢;omega
  rw[this]at h;simpa using h;rw[f]at c;cases c;all_goals
   have m:Zn n.2.1=Ta:=by simpa using h2
   have i:=Wz m;have k:decide (n.2.1.length<=1000)=Ta:=by simp at f ⊢;omega
   have o:=pe i;have el:=Br i
  omega;have:(n.2.1.head? != Td 48)=Tc:=by rw[<-o];simp at c ⊢;exact c
  rw[this]at h;simpa using h;rw[c]at b;cases b;rw[kO i l];omega;have:(n.2.1.getLast? != Td 48)=Tc:=by rw[<-el];rw[kO i l]at b;simp at b ⊢;exact b
  rw[this]at h;simpa using h;have p:(n.2.1.head? != Td 48)=Ta:=by rw[<-o];simp at c ⊢;exact c
  have q:(n.2.1.getLast? != Td 48)=Ta:=by rw[<-el];rw[kO i l]at b;simp at b ⊢;exact b
  rw[m,k,p,q]at h;simp only[Vo]at h;rw[VG];exact h
end
section
theorem XF{vs:List Value}{f:FuncId}{fn:Func}{h:zb}{R:Value->zb->Prop}{F:Prop}(pl:Plan)(rs:List ResultVar)(n:Nat)(b:UN.funcs[f]?=Td fn)(H:F)(i:Q7 fn=Ta:=by kernel_rfl)(c:fn.results.toList=rs:=by kernel_rfl)(k:fn.ntmps=n:=by kernel_rfl)(l:Nat.ble vs.length n=Ta:=by kernel_rfl)(e:F=W Tp n pl (codeOf fn) (pH Tp rs R) (fM 0 vs) h:=by kernel_rfl):XC Tp f vs.toArray h R:=It Tryz.mixed pl vs b i c k l (Eq.mp e H)
theorem Nw(s0:Bt)(h:zb)(R:Value->zb->Prop) (H:let a:=h.push (.cells #[.bool Tc,.bool Tc,.string (⟨#[]⟩:Bt),.string (⟨#[]⟩:Bt),.string (⟨#[]⟩:Bt)] 221);XC Tp 267 #[.string s0,.string (⟨#[45]⟩:Bt)] a (λb c=>∃d e,b=.tuple #[.string d,.bool e]/\XRunU Tp (Ub 4 (.pointer (Td (Ua ⟨h.size,0,Te⟩ 0))) (.bool e)) c (λf=>XC Tp 268 #[.string d,.string (⟨#[101,69]⟩:Bt)] f (λg i=>∃j k l,g=.tuple #[.string j,.string k,.bool l]/\∀m:Bt->zb->Prop,(∀n:Bt,∀o:zb,(XRunU Tp (Ub 9 (.pointer (Td (Ua ⟨h.size,0,Te⟩ 4))) (.string n)) o (λp=>XC Tp 268 #[.string j,.string (⟨#[46]⟩:Bt)] p (λq r=>∃s t u,q=.tuple #[.string s,.string t,.bool u]/\XRunU Tp (Ub 9 (.pointer (Td (Ua ⟨h.size,0,Te⟩ 2))) (.string s)) r (λv=>XRunU Tp (Ub 9 (.pointer (Td (Ua ⟨h.size,0,Te⟩ 3))) (.string t)) v (λw=>XC Tp 215 #[.string s] w (λx y=>∃z,x=.bool z/\∃A:Value->zb->Prop,(((!(!z))&&u)=Ta->XC Tp 215 #[.string t] y (λB C=>∃D,B=.bool D/\A (.bool D) C))/\(((!(!z))&&u)=Tc->∃E,A (.bool E) y)/\(((!(!z))&&u)=Ta->∀F G,A F G->∃I,F=.bool I)/\∀J:Bool,∀L,A (.bool J) L->((bif (!z)then Ta else(bif u then(!J)else Tc))=Ta->∃M N O P Q,zd L ⟨h.size,0,Te⟩ 0 [.bool M,.bool N,.string O,.string P,.string Q]/\XRunU Tp (Ub 221 (.pointer (Td ⟨h.size,0,Te⟩)) (.agg #[.bool M,.bool N,.string O,.string P,.string Q])) L (λS=>∃T U V W X,zd S ⟨h.size,0,Te⟩ 0 [.bool T,.bool U,.string V,.string W,.string X]/\R (.tuple #[.agg #[.bool T,.bool U,.string V,.string W,.string X],.bool Tc]) S))/\((bif (!z)then Ta else(bif u then(!J)else Tc))=Tc->∃Y Z aa ab ac,zd L ⟨h.size,0,Te⟩ 0 [.bool Y,.bool Z,.string aa,.string ab,.string ac]/\let ad:zb->Prop:=λ(ae:zb)=>(∃af ag ah ai aj,zd ae ⟨h.size,0,Te⟩ 0 [.bool af,.bool ag,.string ah,.string ai,.string aj]/\R (.tuple #[.agg #[.bool af,.bool ag,.string ah,.string ai,.string aj],.bool (bif (s.toList==(⟨#[48]⟩:Bt).toList)then Ta else((ze s (0:Int).toNat:Int) != 48))]) ae);let ak:zb->Prop:=λ(al:zb)=>(ad al);let am:zb->Prop:=λ(an:zb)=>(ak an);let ao:zb->Prop:=λ(ap:zb)=>(((!(s.toList==(⟨#[48]⟩:Bt).toList))=Ta->(0<=(0:Int)/\(0:Int)<(s.size:Int)))/\am ap);(g7 L L ⟨h.size,0,Te⟩/\(((!(s.toList==(⟨#[48]⟩:Bt).toList))=Ta->(0<=(0:Int)/\(0:Int)<(s.size:Int)))/\g7 L L ⟨h.size,0,Te⟩/\(g7 L L ⟨h.size,0,Te⟩/\(g7 L L ⟨h.size,0,Te⟩/\XRunU Tp (Ub 221 (.pointer (Td ⟨h.size,0,Te⟩)) (.agg #[.bool Y,.bool Z,.string aa,.string ab,.string ac])) L (λaq=>ad aq))/\(XRunU Tp (Ub 221 (.pointer (Td ⟨h.size,0,Te⟩)) (.agg #[.bool Y,.bool Z,.string aa,.string ab,.string ac])) L (λar=>ak ar)))/\(XRunU Tp (Ub 221 (.pointer (Td ⟨h.size,0,Te⟩)) (.agg #[.bool Y,.bool Z,.string aa,.string ab,.string ac])) L (λau=>am au)))/\(XRunU Tp (Ub 221 (.pointer (Td ⟨h.size,0,Te⟩)) (.agg #[.bool Y,.bool Z,.string aa,.string ab,.string ac])) L (λav=>ao av)))/\(XRunU Tp (Ub 221 (.pointer (Td ⟨h.size,0,Te⟩)) (.agg #[.bool Y,.bool Z,.string aa,.string ab,.string ac])) L (λaw=>ao aw)))))))))->m n o)->(l=Ta->XC Tp 267 #[.string k,.string (⟨#[45]⟩:Bt)] i (λax ay=>∃az aA,ax=.tuple #[.string az,.bool aA]/\XRunU Tp (Ub 4 (.pointer (Td (Ua ⟨h.size,0,Te⟩ 1))) (.bool aA)) ay (λaB=>∀aC:Bt->zb->Prop,(∀aD:Bt,∀aE:zb,(XC Tp 215 #[.string aD] aE (λaF aG=>∃aH,aF=.bool aH/\((!aH)=Ta->∃aI aJ aL aM aN,zd aG ⟨h.size,0,Te⟩ 0 [.bool aI,.bool aJ,.string aL,.string aM,.string aN]/\XRunU Tp (Ub 221 (.pointer (Td ⟨h.size,0,Te⟩)) (.agg #[.bool aI,.bool aJ,.string aL,.string aM,.string aN])) aG (λaO=>∃aP aQ aS aT aU,zd aO ⟨h.size,0,Te⟩ 0 [.bool aP,.bool aQ,.string aS,.string aT,.string aU]/\R (.tuple #[.agg #[.bool aP,.bool aQ,.string aS,.string aT,.string aU],.bool Tc]) aO))/\((!aH)=Tc->m aD aG)))->aC aD aE)->∃aV,zc aB (Ua ⟨h.size,0,Te⟩ 1)=Td (.bool aV)/\((!aV)=Ta->XC Tp 269 #[.string az,.string (⟨#[43]⟩:Bt)] aB (λaW aX=>∃aY,aW=.string aY/\aC aY aX))/\((!aV)=Tc->aC az aB))))/\(l=Tc->m k i))))):
  XC Tp 217 #[.string s0] h R:=
 XF ⟨[(14,8000)],[],[(9,[(4,.one (.str))]),(7,[(4,.one (.str))])]⟩ [.cell 2 221,.tmp 3] 69 Tryz.func217 H
theorem GJ(s0:Bt)(h:zb)(R:Value->zb->Prop) (H:let a:=h.push (.cells #[.bool Tc,.string (⟨#[]⟩:Bt),iV 0] 110);XC Tp 160 #[.string s0] a (λb c=>∃d e f g,b=.tuple #[.agg #[.bool d,.string e,iV f],iV g]/\let i:=c.push (.cells #[.bool Tc,.string (⟨#[]⟩:Bt),iV 0] 110);XRunU Tp (Ub 110 (.pointer (Td ⟨c.size,0,Te⟩)) (.agg #[.bool d,.string e,iV f])) i (λj=>∃k l m,zd j ⟨c.size,0,Te⟩ 0 [.bool k,.string l,iV m]/\let n:Bool->zb->Prop:=λo (p:zb)=>(∃q r s,zd p ⟨h.size,0,Te⟩ 0 [.bool q,.string r,iV s]/\R (.tuple #[.agg #[.bool q,.string r,iV s],.bool o]) p);let t:Bool->zb->Prop:=λu (v:zb)=>(n (bif (g==0)then u else Tc) v);let w:Bt->zb->Prop:=λx (y:zb)=>(t (x.toList==s0.toList) y);let z:Bt->zb->Prop:=λA (B:zb)=>((g7 B j ⟨c.size,0,Te⟩/\(g7 B j ⟨c.size,0,Te⟩/\XRunU Tp (Ub 110 (.pointer (Td ⟨h.size,0,Te⟩)) (.agg #[.bool k,.string l,iV m])) B (λC=>n (bif (g==0)then(A.toList==s0.toList)else Tc) C))/\(XRunU Tp (Ub 110 (.pointer (Td ⟨h.size,0,Te⟩)) (.agg #[.bool k,.string l,iV m])) B (λD=>t (A.toList==s0.toList) D)))/\(XRunU Tp (Ub 110 (.pointer (Td ⟨h.size,0,Te⟩)) (.agg #[.bool k,.string l,iV m])) B (λE=>w A E)));let F:Bool->Bt->Int->zb->Prop:=λG I J (L:zb)=>(∃M:Value->zb->Prop,((g==0)=Ta->XC Tp 92 #[.agg #[.bool G,.string I,iV J]] L (λN O=>∃P,N=.string P/\M (.string P) O))/\((g==0)=Tc->∃Q,M (.string Q) L)/\((g==0)=Ta->∀S T,M S T->∃U,S=.string U)/\∀V:Bt,∀W,M (.string V) W->g7 W j ⟨c.size,0,Te⟩/\z V W);(∃X Y Z,((g==0)=Ta->zd j ⟨c.size,0,Te⟩ 0 [.bool X,.string Y,iV Z])/\g7 j j ⟨c.size,0,Te⟩/\(∃aa:Value->zb->Prop,((g==0)=Ta->XC Tp 92 #[.agg #[.bool X,.string Y,iV Z]] j (λab ac=>∃ad,ab=.string ad/\aa (.string ad) ac))/\((g==0)=Tc->∃ae,aa (.string ae) j)/\((g==0)=Ta->∀af ag,aa af ag->∃ah,af=.string ah)/\∀ai:Bt,∀aj,aa (.string ai) aj->g7 aj j ⟨c.size,0,Te⟩/\(g7 aj j ⟨c.size,0,Te⟩/\z ai aj)/\(XRunU Tp (Ub 110 (.pointer (Td ⟨h.size,0,Te⟩)) (.agg #[.bool k,.string l,iV m])) aj (λak=>w ai ak)))/\(g7 j j ⟨c.size,0,Te⟩/\F X Y Z j))/\(g7 j j ⟨c.size,0,Te⟩/\∃al am an,((g==0)=Ta->zd j ⟨c.size,0,Te⟩ 0 [.bool al,.string am,iV an])/\g7 j j ⟨c.size,0,Te⟩/\F al am an j)))):
  XC Tp 148 #[.string s0] h R:=
 XF ⟨[(2,8000)],[],[]⟩ [.cell 2 110,.tmp 3] 20 Tryz.func148 H
theorem So(a:Bool)(b:Bt)(c:Int)(h:zb)(R:Value->zb->Prop) (H:let d:=h.push (.cells #[.bool a,.string b,iV c] 110);∃e f g,zd d ⟨h.size,0,Te⟩ 0 [.bool e,.string f,iV g]/\XC Tp 158 #[.agg #[.bool e,.string f,iV g]] d (λi j=>∃k,i=.bool k/\∃l,((!(!k))=Ta->zc j (Ua ⟨h.size,0,Te⟩ 2)=Td (iV l))/\∃m,((!(bif (!k)then Ta else(decide (l<0))))=Ta->zc j (Ua ⟨h.size,0,Te⟩ 1)=Td (.string m))/\∃n,((!(bif (!k)then Ta else(decide (l<0))))=Ta->zc j (Ua ⟨h.size,0,Te⟩ 2)=Td (iV n))/\((bif (bif (!k)then Ta else(decide (l<0)))then Ta else(decide ((hZ ((m.size:Int)+n))>19)))=Ta->R (.tuple #[iV 0,.bool Tc]) j)/\((bif (bif (!k)then Ta else(decide (l<0)))then Ta else(decide ((hZ ((m.size:Int)+n))>19)))=Tc->∃o,zc j (Ua ⟨h.size,0,Te⟩ 1)=Td (.string o)/\∃p,zc j (Ua ⟨h.size,0,Te⟩ 2)=Td (iV p)/\XC Tp 200 #[.string (⟨#[48]⟩:Bt),iV p] j (λq r=>∃s,q=.string s/\zw (o.size+s.size)/\g7 r j (Ua ⟨h.size,0,Te⟩ 1)/\∀t:Bt->zb->Prop,(∀u:Bt,∀v:zb,(((u.toList==(⟨#[]⟩:Bt).toList)=Ta->R (.tuple #[iV 0,.bool Ta]) v)/\((u.toList==(⟨#[]⟩:Bt).toList)=Tc->XC Tp 262 #[.string u,iV 10,iV 64] v (λw x=>∃y,∃z:Value,w=.tuple #[iV y,z]/\hX z=Ta/\((!iC z)=Ta->R (.tuple #[iV 0,.bool Tc]) x)/\((!iC z)=Tc->R (.tuple #[iV y,.bool Ta]) x))))->t u v)->∃A,zc r (Ua ⟨h.size,0,Te⟩ 0)=Td (.bool A)/\(A=Ta->zw (((⟨#[45]⟩:Bt)).size+(o++s).size)/\t ((⟨#[45]⟩:Bt)++(o++s)) r)/\(A=Tc->t (o++s) r))))):
  XC Tp 209 #[.agg #[.bool a,.string b,.int .i64 c]] h R:=
 XF ⟨[(3,8000)],[],[(6,[(4,.one (.str))])]⟩ [.tmp 2,.tmp 3] 44 Tryz.func209 H
end
end
section
open Go.RowKit
variable {h h':zb} {bs:List Nat} {v:Tr} {M:Fr} {b o:Nat} {cs:Array Value} {vs:List Value}
def OKeys(h:zb)(ks:List Bt)(bs:List Nat)(s:Sl):Prop:=
 s.len=ks.length/\ks.length<=140737488355328/\ks.length<=s.cap/\((ks=[]/\bs=[]/\s.cap=0)\/∃b cs,bs=[b]/\s.a=Td ⟨b,0,Te⟩/\Blk h b cs/\s.cap<=cs.size/\cut cs 0 ks.length=ks.map UJ)
inductive OT (h:zb):Tr->List Nat->List Value->Prop where
 |mk {k:Int} {s:Bt} {ks:List Bt} {xs:List Tr} {sk si:Sl} {bk bb:List Nat} {b:Nat} {cs:Array Value} {bf:Nat->List Nat}
  (hk:OKeys h ks bk sk) (hn:si.len=xs.length/\xs.length<=140737488355328/\xs.length<=si.cap)
  (hz:(xs=[]/\bb=[]/\si.cap=0)\/(bb=[b]/\si.a=Td ⟨b,0,Te⟩/\Blk h b cs/\si.cap*4<=cs.size))
  (hi:∀i (hx:i<xs.length),OT h xs[i] (bf i) (cut cs (i*4) 4))
  (hd:(bk++(bb++(U8 xs.length).flatMap bf)).Nodup):
  OT h (.mk k s ks xs) (bk++(bb++(U8 xs.length).flatMap bf)) [.int .i64 k,.string s,aK sk,aK si]
theorem OKeys.frame{ks:List Bt}{s:Sl}(H:OKeys h ks bs s)(c:∀b∈bs,h'[b]?=h[b]?):OKeys h' ks bs s:=by obtain⟨h1,h2,k,i⟩:=H;refine⟨h1,h2,k,i.imp id ?_⟩;rintro⟨b,cs,rfl,e,l,f⟩;exact⟨b,cs,rfl,e,l.keep (c b (by simp)),f⟩
theorem OT.frame{cells:List Value}(H:OT h v bs cells):(∀b∈bs,h'[b]?=h[b]?)->OT h' v bs cells:=by
 induction H with
 | @mk k s ks xs sk si bk bb b cs bf hk hn hz hi hd ih=>intro f;refine OT.mk (b:=b) (cs:=cs) (hk.frame λx c=>f x (by simp[c])) hn (hz.imp id ?_) (λi c=>ih i c λx e=>f x ?_) hd;rintro⟨rfl,l,n,m⟩;exact⟨rfl,l,n.keep (f b (by simp)),m⟩;simp only[Uv,VO,UY];exact .inr (.inr ⟨i,c,e⟩)
theorem OT.nodup{cells:List Value}(H:OT h v bs cells):bs.Nodup:=by cases H with|mk _ _ _ _ b=>exact b
theorem OT.lt{cells:List Value}(H:OT h v bs cells):∀b∈bs,b<h.size:=by
 induction H with
 | @mk k s ks xs sk si bk bb b cs bf hk hn hz hi hd ih=>intro x c;simp only[Uv,VO,UY]at c;rcases c with c|c|⟨i,h1,h2⟩;obtain⟨_,_,_,f⟩:=hk;rcases f with⟨_,rfl,_⟩|⟨l,cs',rfl,_,e,_⟩;cases c;simp at c;subst c;exact e.lt;rcases hz with⟨_,rfl,_⟩|⟨rfl,_,e,_⟩;cases c;simp at c;subst c;exact e.lt;exact ih i h1 x h2
theorem OT.len{cells:List Value}(H:OT h v bs cells):cells.length=4:=by cases H;rfl
theorem OT.rd{cells:List Value}(H:OT h v bs cells)(n:∀b∈bs,∀cs,Blk h b cs->M b=Td cs):TrRd M v cells:=by
 induction H with
 | @mk k s ks xs sk si bk bb b cs bf hk hn hz hi hd ih=>
  obtain⟨u,k2,w,z⟩:=hk;have p:RowAt M (λs cs=>cs=[.string s]) 1 ks (aK sk):=by
   refine⟨sk.a,sk.cap,by rw[aK,u],⟨k2,w⟩,?_⟩;rcases z with⟨h0,_⟩|⟨t,cs',rfl,q,r,_,y⟩;exact .inl h0;refine .inr ⟨t,0,cs',q,n t (by simp) cs' r,λi f=>?_⟩;have:(cut cs' 0 ks.length)[i]?=Td (UJ ks[i]):=by rw[y,U2,Ul f];rfl
   unfold cut at this ⊢;rw[UU,zA f,VD]at this;have c:=(UE.1 this).1;rw[UI,Vz,UZ c,V7,WU];rw[Ul c]at this;rw[UO this]
  have m:aK si=.slice si.a xs.length si.cap:=by rw[aK,hn.1]
  rw[m];refine TrRd.mk (b:=b) (o:=0) (cs:=cs) p hn.2 (hz.imp (·.1) ?_) λi f=>?_;rintro⟨rfl,q,r,_⟩;exact⟨q,n b (by simp) cs r⟩;rw[UI];exact ih i f λx l cs' e=>n x (by simp only[Uv,VO,UY];exact .inr (.inr ⟨i,f,l⟩)) cs' e
def MxL(M:Fr)(h:zb)(bs:List Nat):Fr:=λi=>if i∈bs then(match h[i]? with
 |some (.cells cs _ _)=>Td cs
 |_=>Te)else M i
theorem MxL.ag{M:Fr}{h:zb}(ag:AgM M h)(bs:List Nat):AgM (MxL M h bs) h:=by intro b c e;unfold MxL at e;split at e;split at e;rename_i cs T m f;cases e;exact⟨T,m,f⟩;cases e;exact ag b c e
theorem MxL.later{h0 h:zb}(ag:AgM M h0)(k:Keep h0.size h0 h)(hb:∀b∈bs,h0.size<=b):Later h0 M h (MxL M h bs) where
 keep:=k
 le:=λb c e=>by have:=ag.lt e;unfold MxL;rw[za (λhm=>by have:=hb b hm;omega)];exact e
 old:=λb hlt=>by unfold MxL;rw[za (λhm=>by have:=hb b hm;omega)]
 ag:=MxL.ag (ag.keep k) bs
theorem MxL.at(c:b∈bs)(e:Blk h b cs):MxL M h bs b=Td cs:=by obtain⟨T,e⟩:=e;unfold MxL;rw[zA c,e]
theorem OT.rdv{cells:List Value}(H:OT h v bs cells):RdV (MxL M h bs) .tree v (.agg cells.toArray):=by unfold RdV;simp only[dB,if_true];exact⟨cells,rfl,H.rd λb c cs e=>MxL.at c e⟩
def upd(cs:Array Value)(o:Nat)(vs:List Value):Array Value:=(cs.toList.take o++vs++cs.toList.drop (o+vs.length)).toArray
theorem y7(h:o+vs.length<=cs.size):(upd cs o vs).size=cs.size:=by unfold upd;simp;omega
theorem FL(h:o+vs.length<=cs.size)(q:Nat):(upd cs o vs).toList[q]?=if q<o then cs.toList[q]? else if q<o+vs.length then vs[q-o]? else cs.toList[q]?:=by unfold upd;exact Qy (by simpa using h) q
theorem yj{o n i:Nat}:(cut cs o n)[i]?=if i<n then cs.toList[o+i]? else Te:=by unfold cut;rw[UU];split;rw[Va];rfl
theorem fT{P:Program}{t:TypeId}(hi:qj P t=Ta)(H:Blk h b cs){v:Value}(c:v.cells.toList=vs)(m:jg P t=vs.length)(k:o+vs.length<=cs.size)(h1:∀u∈vs,u.oneCell'=Ta){K:zb->Prop}
  (q:∀h':zb,Blk h' b (upd cs o vs)->h'.size=h.size->(∀j,j≠b->h'[j]?=h[j]?)->K h'):XRunU P (Ub t (.pointer (Td ⟨b,o,Te⟩)) v) h K:=by
 intro B d;obtain⟨T,e⟩:=H;have f:v.cells.size=vs.length:=by rw[<-c];simp
 obtain⟨h',l,n,i,p⟩:=Q8 (P:=P) hi m e f k (by rw[c];exact h1) B d;refine⟨d,h',l,q h' ⟨T,?_⟩ i p⟩;rw[n];unfold upd;rw[c]
theorem Blk.ofKeep(H:Blk h b cs)(k:Keep h.size h h'):Blk h' b cs:=H.keepN k H.lt
theorem gv(ag:AgM M h)(bs:List Nat):Fr.le M (MxL M h bs):=by intro b c e;unfold MxL;split;obtain⟨T,m,e'⟩:=ag b c e;rw[e'];exact e
end
section
open Go.Lib
variable {cs:Array Value} {M Mg:Fr} {v:Value} {g h g':zb}
theorem zI{vs:List Value}(h:cs.size=vs.length):upd cs 0 vs=vs.toArray:=by unfold upd;simp_all
theorem Cx{n:Bool×Bt×Int}{u:Value}(h:RdV M (.pair .bool (.pair .str (.int .i64))) n u):u=.agg #[.bool n.1,.string n.2.1,.int .i64 n.2.2]:=by
 unfold RdV at h;simp only[dB,if_true]at h;obtain⟨cs,e,c1,c2,rfl,h1,c3,c,rfl,h2,b⟩:=h;have h1:c1=[.bool n.1]:=by simpa[Rd]using h1
 have h2:c3=[.string n.2.1]:=by simpa[Rd]using h2
 have b:c=[.int .i64 n.2.2]:=by simpa[Rd]using b
 simp_all
theorem oS(a:Bool)(s:Bt)(i:Int):RdV M (.pair .bool (.pair .str (.int .i64))) (a,s,i) (.agg #[.bool a,.string s,.int .i64 i]):=by unfold RdV;simp only[dB,if_true];exact⟨[.bool a,.string s,.int .i64 i],rfl,[_],[_,_],rfl,rfl,[_],[_],rfl,rfl,rfl⟩
theorem nt(n:Int)(b:Bool):Zp M [.int .i64,.bool] (n,b) (.tuple #[.int .i64 n,.bool b]):=⟨[_,_],⟨_,_,rfl,Zw .i64 n,_,rfl,rdBool _⟩,rfl⟩
theorem O0{r:Int×Bool}(h:Zp M [.int .i64,.err] r v):∃e:Value,v=.tuple #[.int .i64 r.1,e]/\hX e=Ta/\iC e=r.2:=by
 obtain⟨us,⟨n,m,rfl,f,i,rfl,b⟩,rfl⟩:=h;rw[c7 rfl]at f b;have k:n=.int .i64 r.1:=by simpa[Rd]using f
 subst k;have b:∃v,[i]=[v]/\((r.2=Ta/\v=.nilIface)\/(r.2=Tc/\∃t u,v=.iface t u)):=b;obtain⟨v,c,l⟩:=b;have c:i=v:=by simpa using c
 subst c;rcases l with⟨e,rfl⟩|⟨e,t,u,rfl⟩;exact⟨_,rfl,rfl,e.symm⟩;exact⟨_,rfl,rfl,e.symm⟩
theorem F9(gl:Fr)(n0:Bool×Bt×Int)(R:(Int×Bool)->Prop) (H:PC Tp gl 158 [Arg.mk (.pair .bool (.pair .str (.int .i64))) (n0.1,(n0.2.1,n0.2.2))] [.bool] (λB:Bool=>((bif (bif (!B)then Ta else(decide ((n0.2.2:Int)<0)))then Ta else(decide ((hZ (((n0.2.1).size:Int)+n0.2.2):Int)>19)))=Ta->R (0,Tc)) /\ ((bif (bif (!B)then Ta else(decide ((n0.2.2:Int)<0)))then Ta else(decide ((hZ (((n0.2.1).size:Int)+n0.2.2):Int)>19)))=Tc->PC Tp gl 200 [Arg.mk .str (⟨#[48]⟩:Bt),Arg.mk p3 n0.2.2] [.str] (λi:Bt=>zw ((n0.2.1).size+(i).size) /\ ∀m:Bt->Prop,(∀f:Bt,((((f:Bt).toList==((⟨#[]⟩:Bt):Bt).toList)=Ta->R (0,Ta)) /\ (((f:Bt).toList==((⟨#[]⟩:Bt):Bt).toList)=Tc->PC Tp gl 262 [Arg.mk .str f,Arg.mk p3 10,Arg.mk p3 64] [.int .i64,.err] (λl:Int×Bool=>((!l.2)=Ta->R (0,Tc)) /\ ((!l.2)=Tc->R (l.1,Ta)))))->m f)->(n0.1=Ta->zw (((⟨#[45]⟩:Bt)).size+(n0.2.1++i).size) /\ m ((⟨#[45]⟩:Bt)++(n0.2.1++i))) /\ (n0.1=Tc->m (n0.2.1++i)))))):
    PC Tp gl 209 [Arg.mk (.pair .bool (.pair .str (.int .i64))) n0] [.int .i64,.bool] R:=by
  intro h M vs E ag ha
  match vs,ha with
  |[u],⟨J,_⟩=>
  have J:RdV M (.pair .bool (.pair .str (.int .i64))) n0 u:=J;rw[Cx J];apply PX.of;apply So n0.1 n0.2.1 n0.2.2;intro h1;obtain⟨Q,_,b1⟩:=jf (g:=h1) rfl;clear_value h1;refine⟨_,_,_,b1.ld (cs:=[.bool n0.1,.string n0.2.1,.int .i64 n0.2.2]),?_⟩;refine H.go (vs:=[.agg #[.bool n0.1,.string n0.2.1,.int .i64 n0.2.2]]) E (ag.keep Q) (zq (a:=Arg.mk (.pair .bool (.pair .str (.int .i64))) (n0.1,(n0.2.1,n0.2.2))) (oS _ _ _) zy) λw h6 S r q b hr=>?_;obtain⟨N,D⟩:=hr;have p:=b1.ofKeep q.keep;have C:Later h M h6 S:=(Later.same ag Q).trans q;refine⟨r,dt b,n0.2.2,λ_=>p.cellAdd (o:=0) (k:=2) rfl,n0.2.1,λ_=>p.cellAdd (o:=0) (k:=1) rfl,n0.2.2,λ_=>p.cellAdd (o:=0) (k:=2) rfl,λL=>⟨S,(0,Tc),C,nt _ _,N L⟩,λL=>?_⟩;refine⟨_,p.cellAdd (o:=0) (k:=1) rfl,_,p.cellAdd (o:=0) (k:=2) rfl,?_⟩;refine(D L).go (vs:=[.string ⟨#[48]⟩,.int .i64 n0.2.2]) (E.trans q.le) q.ag (zq (a:=Arg.mk .str (⟨#[48]⟩:Bt)) (rdStr _) (zq (a:=Arg.mk p3 n0.2.2) (Zw _ _) zy)) λw y O r2 n b P=>?_;obtain⟨hf,Y⟩:=P;refine⟨r2,fj b,hf,n.keep.get _ p.lt,?_⟩;intro G z;have c:=C.trans n;obtain⟨I,F⟩:=Y (λs=>G s y) λs ⟨a1,a2⟩=>z s y ⟨λe=>⟨O,(0,Ta),c,nt _ _,a1 e⟩,λe=>by refine(a2 e).go (vs:=[.string s,.int .i64 10,.int .i64 64]) (E.trans c.le) c.ag (zq (a:=Arg.mk .str s) (rdStr _) (zq (a:=Arg.mk p3 10) (Zw _ _) (zq (a:=Arg.mk p3 64) (Zw _ _) zy))) λw aa A Z t b x=>?_;obtain⟨U,rfl,hi,hn⟩:=O0 b;refine⟨_,U,rfl,hi,λV=>⟨A,(0,Tc),c.trans t,nt _ _,x.1 (by grind)⟩,λV=>⟨A,(Z.1,Ta),c.trans t,nt _ _,x.2 (by grind)⟩⟩⟩;exact⟨n0.1,((b1.ofKeep q.keep).ofKeep n.keep).cellAdd (o:=0) (k:=0) rfl,I,F⟩
theorem Ar{r:(Bool×Bt×Int)×Int}(h:Zp M [.pair .bool (.pair .str (.int .i64)),.int .i64] r v):v=.tuple #[.agg #[.bool r.1.1,.string r.1.2.1,.int .i64 r.1.2.2],.int .i64 r.2]:=by
 obtain⟨us,⟨k,f,rfl,e,c,rfl,b⟩,rfl⟩:=h;rw[Cx e];rw[c7 rfl]at b;have i:c=.int .i64 r.2:=by simpa[Rd]using b
 rw[i];rfl
theorem Ac(a:Bool)(s:Bt)(i:Int)(b:Bool):Zp M [.pair .bool (.pair .str (.int .i64)),.bool] ((a,s,i),b) (.tuple #[.agg #[.bool a,.string s,.int .i64 i],.bool b]):=⟨[_,_],⟨_,_,rfl,oS a s i,_,rfl,rdBool _⟩,rfl⟩
theorem nJ{b:Nat}(B:Blk g b cs)(n:cs.size=3){x:Bool}{s:Bt}{i:Int}{t:TypeId}(e:qj Tp t=Ta)(l:jg Tp t=3){K:zb->Prop}(f:∀g',(∀j,j≠b->g'[j]?=g[j]?)->g'.size=g.size->Blk g' b #[.bool x,.string s,.int .i64 i]->K g'):
  XRunU Tp (Ub t (.pointer (Td ⟨b,0,Te⟩)) (.agg #[.bool x,.string s,.int .i64 i])) g K:=by
 refine fT (vs:=[.bool x,.string s,.int .i64 i]) e B rfl l (by simp_all) (λu c=>?_) λg' m k h=>f g' h k (by simp_all[zI]);simp at c;rcases c with rfl|rfl|rfl <;> rfl
set_option maxHeartbeats 1000000 in
theorem SF(gl:Fr)(n:Bt)(R:((Bool×Bt×Int)×Bool)->Prop) (H:PC Tp gl 160 [Arg.mk .str n] [.pair .bool (.pair .str (.int .i64)),.int .i64] (λb:(Bool×Bt×Int)×Int=>∃C:Bt->Prop,(((b.2:Int)==0)=Ta->PC Tp gl 92 [Arg.mk (.pair .bool (.pair .str (.int .i64))) (b.1.1,(b.1.2.1,b.1.2.2))] [.str] C) /\ ∀D:Bt,(((b.2:Int)==0)=Ta->C D)->R ((b.1.1,(b.1.2.1,b.1.2.2)),bif ((b.2:Int)==0)then((D:Bt).toList==(n:Bt).toList)else Tc))):
    PC Tp gl 148 [Arg.mk .str n] [.pair .bool (.pair .str (.int .i64)),.bool] R:=by
  intro h M vs Z ag ha
  match vs,ha with
  |[u],⟨O,_⟩=>
  have O:RdV M .str n u:=O;rw[ju O];apply PX.of;apply GJ n;intro h1;obtain⟨k1,z1,b1⟩:=jf (g:=h1) rfl;clear_value h1;have L1:Later h M h1 M:=Later.same ag k1;refine H.go (vs:=[.string n]) Z L1.ag (zq (a:=Arg.mk .str n) (rdStr _) zy) λw q U r y l hr=>?_;obtain⟨J,hJ,hR⟩:=hr;rw[Ar l];refine⟨_,_,_,_,rfl,?_⟩;have z3:=y.keep.size;refine nJ (cs:=#[.bool Tc,.string ⟨#[]⟩,.int .i64 0]) (Blk.new _ _ _) rfl (by kernel_rfl) (by kernel_rfl) λp f9 z9 F=>?_;rw[Ur]at z9;have k9:Keep q.size q p:=⟨by omega,λj Q=>(f9 j (by omega)).trans ((Keep.push q _ (Uc _)).get j Q)⟩;have G:Later h M p U:=(L1.trans y).trans (Later.same y.ag k9);have A:U h.size=Te:=by
    rw[y.old h.size (by omega)];cases e:M h.size with
    |none=>rfl
    |some c=>have:=ag.lt e;omega
  have V:Blk p h.size #[.bool Tc,.string ⟨#[]⟩,.int .i64 0]:=(b1.ofKeep y.keep).ofKeep k9;refine⟨r.1.1,r.1.2.1,r.1.2.2,F.ld (cs:=[.bool r.1.1,.string r.1.2.1,.int .i64 r.1.2.2]),?_⟩;intro Y ab aa N S;have fin:∀(g:zb) (Mg:Fr) (x:Bt),Later h M g Mg->Mg h.size=Te->(∃cs,Blk g h.size cs/\cs.size=3)->(((r.2:Int)==0)=Ta->J x) ->
      XRunU Tp (Ub 110 (.pointer (Td ⟨UA h,0,Te⟩)) (.agg #[.bool r.1.1,.string r.1.2.1,.int .i64 r.1.2.2])) g (λg'=>Y (bif ((r.2:Int)==0)then((x:Bt).toList==(n:Bt).toList)else Tc) g'):=λg Mg x L o ⟨cs,B,hc⟩ k=>
    nJ B hc (by kernel_rfl) (by kernel_rfl) λg' f z B'=>⟨_,_,_,B'.ld (cs:=[.bool r.1.1,.string r.1.2.1,.int .i64 r.1.2.2]),Mg,((r.1.1,(r.1.2.1,r.1.2.2)),_),⟨⟨by have:=L.keep.size;omega,λj Q=>(f j (by omega)).trans (L.keep.get j Q)⟩,L.le,L.old,λc cc e=>by obtain⟨T,m,e2⟩:=L.ag c cc e;grind⟩,Ac _ _ _ _,hR x k⟩
  have P:∀(g:zb) (Mg:Fr) (x:Bt),Later h M g Mg->Mg h.size=Te->(∃cs,Blk g h.size cs/\cs.size=3)->(((r.2:Int)==0)=Ta->J x)->g[q.size]?=p[q.size]?->N x g:=λg Mg x L o B k s=>⟨⟨s,⟨s,fin g Mg x L o B k⟩,fin g Mg x L o B k⟩,fin g Mg x L o B k⟩;let E:Value->zb->Prop:=λv g=>∃x:Bt,v=.string x/\(∃Mg,Later h M g Mg/\Mg h.size=Te/\(∃cs,Blk g h.size cs/\cs.size=3)/\g[q.size]?=p[q.size]?)/\(((r.2:Int)==0)=Ta->J x);have call:((r.2:Int)==0)=Ta->XC Tp 92 #[.agg #[.bool r.1.1,.string r.1.2.1,.int .i64 r.1.2.2]] p (λv g=>∃x:Bt,v=.string x/\E (.string x) g):=λe=>
    (hJ e).go (vs:=[.agg #[.bool r.1.1,.string r.1.2.1,.int .i64 r.1.2.2]]) (Z.trans G.le) G.ag (zq (a:=Arg.mk (.pair .bool (.pair .str (.int .i64))) (r.1.1,(r.1.2.1,r.1.2.2))) (oS _ _ _) zy) λw g Mg x I l k=>
      ⟨x,fj l,x,rfl,⟨Mg,G.trans I,by rw[I.old h.size V.lt];exact A,⟨_,V.ofKeep I.keep,rfl⟩,I.keep.get _ F.lt⟩,λ_=>k⟩
  have i:((r.2:Int)==0)=Tc->∃x:Bt,E (.string x) p:=λe=>⟨⟨#[]⟩,⟨#[]⟩,rfl,⟨U,G,A,⟨_,V,rfl⟩,rfl⟩,λe'=>by simp_all⟩;have t:S r.1.1 r.1.2.1 r.1.2.2 p:=⟨E,call,i,λ_ v g ⟨x,e,_⟩=>⟨x,e⟩,λx g ⟨x',e,⟨Mg,L,o,B,s⟩,k⟩=>by injection e with e;subst e;grind⟩;refine⟨⟨_,_,_,λ_=>F.ld (cs:=[.bool r.1.1,.string r.1.2.1,.int .i64 r.1.2.2]),rfl,⟨E,call,i,λ_ v g ⟨x,e,_⟩=>⟨x,e⟩,λx g ⟨x',e,⟨Mg,L,o,B,s⟩,k⟩=>?_⟩,rfl,t⟩,rfl,_,_,_,λ_=>F.ld (cs:=[.bool r.1.1,.string r.1.2.1,.int .i64 r.1.2.2]),rfl,t⟩;injection e with e;subst e;exact⟨s,⟨s,P g Mg x L o B k s⟩,fin g Mg x L o B k⟩
theorem Cl{r:Bt×Bool}(h:Zp M [.str,.bool] r v):v=.tuple #[.string r.1,.bool r.2]:=by
 obtain⟨us,⟨k,f,rfl,e,c,rfl,b⟩,rfl⟩:=h;rw[ju e];rw[c7 rfl]at b;have i:c=.bool r.2:=by simpa[Rd]using b
 rw[i];rfl
theorem Fu{r:Bt×Bt×Bool}(h:Zp M [.str,.str,.bool] r v):v=.tuple #[.string r.1,.string r.2.1,.bool r.2.2]:=by
 obtain⟨us,⟨m,k,rfl,i,n,e,rfl,c,l,rfl,b⟩,rfl⟩:=h;rw[ju i,ju c];rw[c7 rfl]at b;have f:l=.bool r.2.2:=by simpa[Rd]using b
 rw[f];rfl
abbrev N5:=Bool×Bool×Bt×Bt×Bt
def tw(g:zb)(b:Nat)(n:N5):Prop:=Blk g b #[.bool n.1,.bool n.2.1,.string n.2.2.1,.string n.2.2.2.1,.string n.2.2.2.2]
structure St5 (h:zb) (M:Fr) (g:zb) (Mg:Fr) (n:N5):Prop where
 L:Later h M g Mg
 no:Mg h.size=Te
 B:tw g h.size n
theorem St5.call{M Mg b:Fr}{n:N5}(S:St5 h M g Mg n)(L:Later g Mg g' b):St5 h M g' b n:=⟨S.L.trans L,by rw[L.old h.size (Blk.lt S.B)];exact S.no,Blk.ofKeep S.B L.keep⟩
theorem St5.put{n b:N5}(S:St5 h M g Mg n)(f:∀j,j≠h.size->g'[j]?=g[j]?)(z:g'.size=g.size)(B:tw g' h.size b):St5 h M g' Mg b:= ⟨⟨⟨by have:=S.L.keep.size;omega,λj i=>(f j (by omega)).trans (S.L.keep.get j i)⟩,S.L.le,S.L.old,λc k e=>by obtain⟨T,m,l⟩:=S.L.ag c k e;grind [no]⟩,S.no,B⟩
theorem LG(n:N5)(b:Bool):Zp M [.pair .bool (.pair .bool (.pair .str (.pair .str .str))),.bool] (n,b) (.tuple #[.agg #[.bool n.1,.bool n.2.1,.string n.2.2.1,.string n.2.2.2.1,.string n.2.2.2.2],.bool b]):=by refine⟨[_,_],⟨_,_,rfl,?_,_,rfl,rdBool _⟩,rfl⟩;unfold RdV;simp only[dB,if_true];exact⟨[_,_,_,_,_],rfl,[_],[_,_,_,_],rfl,rfl,[_],[_,_,_],rfl,rfl,[_],[_,_],rfl,rfl,[_],[_],rfl,rfl,rfl⟩
set_option maxHeartbeats 1000000 in
theorem Qn(gl:Fr)(s0:Bt)(R:((Bool×Bool×Bt×Bt×Bt)×Bool)->Prop) (H:PC Tp gl 267 [Arg.mk .str s0,Arg.mk .str (⟨#[45]⟩:Bt)] [.str,.bool] (λY:Bt×Bool=>PC Tp gl 268 [Arg.mk .str Y.1,Arg.mk .str (⟨#[101,69]⟩:Bt)] [.str,.str,.bool] (λV:Bt×Bt×Bool=>∀az:Bt->Bool->Bool->Bt->Bt->Bt->Prop,(∀x:Bt,∀E:Bool,∀D:Bool,∀ar:Bt,∀au:Bt,∀aA:Bt,(PC Tp gl 268 [Arg.mk .str V.1,Arg.mk .str (⟨#[46]⟩:Bt)] [.str,.str,.bool] (λk:Bt×Bt×Bool=>PC Tp gl 215 [Arg.mk .str k.1] [.bool] (λJ:Bool=>∃aj:Bool->Prop,(((!(!J))&&k.2.2)=Ta->PC Tp gl 215 [Arg.mk .str k.2.1] [.bool] aj)/\∀Q:Bool,(((!(!J))&&k.2.2)=Ta->aj Q)->((bif (!J)then Ta else(bif k.2.2 then(!Q)else Tc))=Ta->R ((E,(D,(k.1,(k.2.1,x)))),Tc))/\((bif (!J)then Ta else(bif k.2.2 then(!Q)else Tc))=Tc->((!((k.1:Bt).toList==((⟨#[48]⟩:Bt):Bt).toList))=Ta->(0<=(0:Int)/\(0:Int)<((k.1).size:Int)))/\R ((E,(D,(k.1,(k.2.1,x)))),bif ((k.1:Bt).toList==((⟨#[48]⟩:Bt):Bt).toList)then Ta else((ze k.1 (0:Int).toNat:Int) != 48))))))->az x E D ar au aA)->(V.2.2=Ta->PC Tp gl 267 [Arg.mk .str V.2.1,Arg.mk .str (⟨#[45]⟩:Bt)] [.str,.bool] (λp:Bt×Bool=>∀U:Bt->Bool->Bool->Bt->Bt->Bt->Prop,(∀m:Bt,∀y:Bool,∀A:Bool,∀t:Bt,∀z:Bt,∀C:Bt,(PC Tp gl 215 [Arg.mk .str m] [.bool] (λae:Bool=>((!ae)=Ta->R ((y,(A,(t,(z,C)))),Tc))/\((!ae)=Tc->az m y A t z C)))->U m y A t z C)->((!p.2)=Ta->PC Tp gl 269 [Arg.mk .str p.1,Arg.mk .str (⟨#[43]⟩:Bt)] [.str] (λaL:Bt=>U aL Y.2 p.2 (⟨#[]⟩:Bt) (⟨#[]⟩:Bt) (⟨#[]⟩:Bt)))/\((!p.2)=Tc->U p.1 Y.2 p.2 (⟨#[]⟩:Bt) (⟨#[]⟩:Bt) (⟨#[]⟩:Bt))))/\(V.2.2=Tc->az V.2.1 Y.2 Tc (⟨#[]⟩:Bt) (⟨#[]⟩:Bt) (⟨#[]⟩:Bt))))):
  PC Tp gl 217 [Arg.mk .str s0] [.pair .bool (.pair .bool (.pair .str (.pair .str .str))),.bool] R:=by
 intro h M vs hM ag ha
 match vs,ha with
 |[u],⟨hu,_⟩=>
 have hu:RdV M .str s0 u:=hu;rw[ju hu];apply PX.of;apply Nw s0;intro h1;have k1:Keep h.size h h1:=Keep.push _ _ (Uc _);have b1:tw h1 h.size (Tc,Tc,⟨#[]⟩,⟨#[]⟩,⟨#[]⟩):=Blk.new _ _ _;have L1:Later h M h1 M:=Later.same ag k1;have bI:M h.size=Te:=by
  cases e:M h.size with
  |none=>rfl
  |some c=>have:=ag.lt e;omega
 clear_value h1;have s1:St5 h M h1 M (Tc,Tc,⟨#[]⟩,⟨#[]⟩,⟨#[]⟩):=⟨L1,bI,b1⟩;refine H.go (vs:=[.string s0,.string ⟨#[45]⟩]) hM L1.ag (zq (a:=Arg.mk .str s0) (rdStr _) (zq (a:=Arg.mk .str (⟨#[45]⟩:Bt)) (rdStr _) zy)) λw h3 M3 r1 L3 i H2=>?_;rw[Cl i];refine⟨_,_,rfl,?_⟩;have S3:=s1.call L3;have fin:∀(g:zb) (Mg:Fr) (n:N5) (b:Bool),St5 h M g Mg n->R (n,b)->XRunU Tp (Ub 221 (.pointer (Td ⟨UA h,0,Te⟩)) (.agg #[.bool n.1,.bool n.2.1,.string n.2.2.1,.string n.2.2.2.1,.string n.2.2.2.2])) g (λak=>∃ai:Bool,∃af:Bool,∃an:Bt,∃am:Bt,∃ah:Bt,zd ak ⟨UA h,0,Te⟩ 0 [.bool ai,.bool af,.string an,.string am,.string ah]/\∃(M':Fr) (r:dm [.pair .bool (.pair .bool (.pair .str (.pair .str .str))),.bool]),Later h M ak M'/\Zp M' [.pair .bool (.pair .bool (.pair .str (.pair .str .str))),.bool] r (.tuple #[.agg #[.bool ai,.bool af,.string an,.string am,.string ah],.bool b])/\R r):=λg Mg n b S hR=>
  fT (o:=0) (vs:=[.bool n.1,.bool n.2.1,.string n.2.2.1,.string n.2.2.2.1,.string n.2.2.2.2]) (by kernel_rfl) S.B rfl (by kernel_rfl) (Uc _) (λu hu=>by simp at hu;rcases hu with rfl|rfl|rfl|rfl|rfl <;> rfl) λg' q1 q2 q3=>
   have S':St5 h M g' Mg n:=S.put q3 q2 (by rw[zI (by rfl)]at q1;exact q1)
   ⟨_,_,_,_,_,Blk.ld (cs:=[.bool n.1,.bool n.2.1,.string n.2.2.1,.string n.2.2.2.1,.string n.2.2.2.2]) S'.B,Mg,(n,b),S'.L,LG n b,hR⟩
 rw[show Ua ⟨UA h,0,Te⟩ 0=⟨h.size,0,Te⟩from rfl];refine qo (by kernel_rfl) (by kernel_rfl) S3.B (o:=0) (by simp) rfl λh6 B6 z6 f6=>?_;have S6:St5 h M h6 M3 (r1.2,Tc,⟨#[]⟩,⟨#[]⟩,⟨#[]⟩):=S3.put f6 z6 B6;refine H2.go (vs:=[.string r1.1,.string ⟨#[101,69]⟩]) (hM.trans L3.le) S6.L.ag (zq (a:=Arg.mk .str r1.1) (rdStr _) (zq (a:=Arg.mk .str (⟨#[101,69]⟩:Bt)) (rdStr _) zy)) λw h8 M8 r2 L8 i H3=>?_;rw[Fu i];refine⟨_,_,_,rfl,?_⟩;have S8:=S6.call L8;intro bj aO;have aU:Fr.le gl M8:=hM.trans S8.L.le;have N:∀{g:zb} {Mg:Fr} {n:N5},St5 h M g Mg n->Fr.le gl Mg:=λS=>hM.trans S.L.le;have aS:∀{Mg:Fr} (s:Bt),RdV Mg .str s (.string s):=λs=>rdStr s;obtain⟨c1,c2⟩:=H3 (λf x0 G x2 x3 x4=>∀g Mg,St5 h M g Mg (x0,G,x2,x3,x4)->bj f g) λf x0 G x2 x3 x4 P g Mg S=>aO f g (by rw[show Ua ⟨UA h,0,Te⟩ 4=⟨h.size,4,Te⟩from rfl];refine qo (by kernel_rfl) (by kernel_rfl) S.B (o:=4) (by simp) rfl λaQ bL bD aV=>?_;have ap:St5 h M aQ Mg (x0,G,x2,x3,f):=S.put aV bD bL;refine P.go (vs:=[.string r2.1,.string ⟨#[46]⟩]) (N ap) ap.L.ag (zq (a:=Arg.mk .str r2.1) (rdStr _) (zq (a:=Arg.mk .str (⟨#[46]⟩:Bt)) (rdStr _) zy)) λw bU aG l bm i P2=>?_;rw[Fu i];refine⟨_,_,_,rfl,?_⟩;have aN:=ap.call bm;rw[show Ua ⟨UA h,0,Te⟩ 2=⟨h.size,2,Te⟩from rfl,show Ua ⟨UA h,0,Te⟩ 3=⟨h.size,3,Te⟩from rfl];refine qo (by kernel_rfl) (by kernel_rfl) aN.B (o:=2) (by simp) rfl λa6 aY bz aP=>?_;have aE:St5 h M a6 aG (x0,G,l.1,x3,f):=aN.put aP bz aY;refine qo (by kernel_rfl) (by kernel_rfl) aE.B (o:=3) (by simp) rfl λbJ aT aZ bE=>?_;have ax:St5 h M bJ aG (x0,G,l.1,l.2.1,f):=aE.put bE aZ aT;refine P2.go (vs:=[.string l.1]) (N ax) ax.L.ag (zq (a:=Arg.mk .str l.1) (rdStr _) zy) λw bN a7 aC ba i P3=>?_;obtain⟨bF,hJ,hE⟩:=P3;have Z:=ax.call ba;refine⟨aC,dt i,λv g'=>∃b,v=.bool b/\(∃ab,St5 h M g' ab (x0,G,l.1,l.2.1,f))/\(((!(!aC))&&l.2.2)=Ta->bF b),λI=>(hJ I).go (vs:=[.string l.2.1]) (N Z) Z.L.ag (zq (a:=Arg.mk .str l.2.1) (rdStr _) zy) λw bP bg b a8 i hb=>⟨b,dt i,b,rfl,⟨bg,Z.call a8⟩,λ_=>hb⟩,λI=>⟨Tc,Tc,rfl,⟨a7,Z⟩,λe=>by rw[I]at e;exact nomatch e⟩,λ_ v g' ⟨b,e,_⟩=>⟨b,e⟩,λb g' ⟨b',e,⟨ab,S'⟩,hb⟩=>?_⟩;injection e with e;subst e;obtain⟨e1,e2⟩:=hE b hb;refine⟨λI=>⟨_,_,_,_,_,Blk.ld (cs:=[.bool x0,.bool G,.string l.1,.string l.2.1,.string f]) S'.B,fin g' ab (x0,G,l.1,l.2.1,f) Tc S' (e1 I)⟩,λI=>?_⟩;obtain⟨e3,e4⟩:=e2 I;refine⟨_,_,_,_,_,Blk.ld (cs:=[.bool x0,.bool G,.string l.1,.string l.2.1,.string f]) S'.B,?_⟩;intro bS bT bQ bA;have F:=fin g' ab (x0,G,l.1,l.2.1,f) _ S' e4;have bu:=XRunU.mono F λh' q=>(⟨e3,q⟩:bA h');repeat' first|exact rfl|exact e3|exact F|exact bu|refine⟨?_,?_⟩);refine⟨λhx=>?_,λhx=>c2 hx h8 M8 S8⟩;refine(c1 hx).go (vs:=[.string r2.2.1,.string ⟨#[45]⟩]) aU S8.L.ag (zq (a:=Arg.mk .str r2.2.1) (rdStr _) (zq (a:=Arg.mk .str (⟨#[45]⟩:Bt)) (rdStr _) zy)) λw bO aI aa bM i H4=>?_;rw[Cl i];refine⟨_,_,rfl,?_⟩;have aF:=S8.call bM;rw[show Ua ⟨UA h,0,Te⟩ 1=⟨h.size,1,Te⟩from rfl];refine qo (by kernel_rfl) (by kernel_rfl) aF.B (o:=1) (by simp) rfl λaM bC bH be=>?_;have O:St5 h M aM aI (r1.2,aa.2,⟨#[]⟩,⟨#[]⟩,⟨#[]⟩):=aF.put be bH bC;intro a1 aJ;obtain⟨d1,d2⟩:=H4 (λf x0 G x2 x3 x4=>∀g Mg,St5 h M g Mg (x0,G,x2,x3,x4)->a1 f g) λf x0 G x2 x3 x4 P g Mg S=>aJ f g (P.go (vs:=[.string f]) (N S) S.L.ag (zq (a:=Arg.mk .str f) (rdStr _) zy) λw aH aB bG ay i he=>⟨bG,dt i,λI=>⟨_,_,_,_,_,Blk.ld (cs:=[.bool x0,.bool G,.string x2,.string x3,.string x4]) (S.call ay).B,fin aH aB (x0,G,x2,x3,x4) Tc (S.call ay) (he.1 I)⟩,λI=>he.2 I aH aB (S.call ay)⟩);refine⟨aa.2,Blk.cell O.B (o:=1) rfl,λI=>(d1 I).go (vs:=[.string aa.1,.string ⟨#[43]⟩]) (N O) O.L.ag (zq (a:=Arg.mk .str aa.1) (rdStr _) (zq (a:=Arg.mk .str (⟨#[43]⟩:Bt)) (rdStr _) zy)) λw bq bn br bB i hk=>⟨br,fj i,hk bq bn (O.call bB)⟩,λI=>d2 I aM aI O⟩
end
end Go.X
