/- A part of the proof: nothing is stated here for its own sake. -/
import Derived.Test.YtplilfikcimcbaaGreatDoorPfA
import Derived.Deep.AppendSrc
import Derived.ProofKit
import Derived.OpenShut
import Derived.ShutString
import Derived.SizedLaws
import Derived.LaidSub
import Derived.Lib.LaidU8
import Derived.Test.YtplilfikcimcbaaGreatDoorProg
import Derived.Shelf.Strings.Trim
import Derived.Shelf.Small.Bits
import Derived.Shelf.Small.Wraps
import Derived.Shelf.Strings.BuilderRune
import Derived.Shelf.Utf8.AppendRune
import Derived.Shelf.Utf8.AppendRunePlain
import Derived.Shelf.Strconv.Itoa3
import Derived.Shelf.Strconv.AtoiErr
import Derived.Shelf.Strconv.ErrVarAll
import Derived.Shelf.Strconv.ErrVarParseInt
import Derived.Shelf.Pu.ParseUintPublic10
import Derived.Shelf.Sort.Plain
import Derived.Shelf.Unicode.Decode
import Derived.Shelf.Strings.IndexAnyAll
import Derived.Shelf.Strings.Repeat
import Derived.Shelf.Unicode.DecodeLast
import Derived.Shelf.Strings.BuilderCap
import Derived.Shelf.Slices.Turned
import Derived.Shelf.Slices.Clone
import Derived.Shelf.Slices.In.SortNone
import Derived.Shelf.SlicesE.Clone
import Derived.Shelf.Utf8.RuneCount
import Derived.Shelf.Strings.Shaped
import Derived.Shelf.Strings.SplitShaped
import Derived.Shelf.Strings.RuneCount
import Derived.Shelf.Slices.Cells
import Derived.Shelf.Slices.Empties
import Derived.Shelf.Unicode.ValidAny
open _root_.Go.Addr renaming add->zab
open _root_.Array renaming getD_eq_getD_getElem?->zcb,getElem?_append_left->zdg,getElem?_eq_getElem->zcl,getElem?_eq_some_iff->zat,getElem?_toList->zbh,replicate->zc4,size->zax,size_push->zaf,toList->zdu
open _root_.BitVec renaming ofInt->zco
open _root_.Bool renaming and_eq_true->zam,and_true->zfe,cond_false_right->zem,eq_false_iff->zen,eq_iff_iff->zbe,false_eq_true->zcj,not_eq_true'->zd4,or_eq_true->zeh,true_and->zct
open _root_.Go.Builtin renaming append_->zao,firstCells->zc3
open _root_.Go.Code renaming cond->zfa,region->zfj
open _root_.Go.Deferred renaming ofValue->zev
open _root_.Go.Instr renaming next->zdx,range->ze5,storeAt->zag,sureAddr->zeq
open _root_.Int renaming toNat_natCast->zae,toNat_zero->zdz
open _root_.Go.IntKind renaming bits->zb1,signed->zfi,wrap->zaa
open _root_.List renaming all_append->zei,all_cons->zdf,all_eq_true->za7,append_assoc->za9,append_nil->zbs,cons_append->zbz,drop_drop->zdh,drop_eq_getElem_cons->zbt,drop_eq_nil_of_le->zce,drop_zero->zcm,eq_nil_of_length_eq_zero->zbb,exists_cons_of_ne_nil->zcw,ext_getElem->zdw,ext_getElem?->zbd,flatMap_cons->zcd,getD_eq_getElem?_getD->zar,getElem?_drop->zb6,getElem?_eq_getElem->zai,getElem?_eq_none->zby,getElem?_eq_some_iff->za5,getElem?_map->zcc,getElem?_take->zbk,getElem_map->zb3,getElem_mem->zak,getElem_of_mem->zdj,length->zcf,length_append->zah,length_cons->zaw,length_drop->zb8,length_map->zap,length_nil->zb5,length_pos_iff->zb9,length_replicate->zdl,length_singleton->zcu,length_take->zbl,mapM_cons->ze6,map_cons->za1,mem_append->zaj,mem_append_left->zau,mem_append_right->zbf,mem_cons->zan,mem_cons_of_mem->za3,mem_cons_self->za2,mem_flatMap->zbw,mem_map->zay,mem_of_mem_take->zcq,mem_range->zbn,nil_append->zck,pairwise_append->zd5,pairwise_cons->zcy,range->zaq,replicate->zcv,size_toArray->zeo,take_append_drop->zca,take_length->zba,take_of_length_le->zbu,take_succ_cons->zea,take_succ_eq_append_getElem->zal,take_zero->zeu
open _root_.List.cons renaming injEq->zc9
open _root_.Nat renaming add_mul->zcs,add_zero->zew,blt_eq->zfc,eq_of_beq_eq_true->za4,eq_zero_or_pos->zef,le_of_ble_eq_true->zc0,le_refl->zac,le_trans->zch,lt_of_lt_of_le->zdb,lt_or_ge->zb0,mul_comm->zd7,mul_le_mul_right->za8,mul_one->zbm,not_lt_zero->zc5,one_mul->zd6,pow_succ->ze8,sub_zero->zdo,zero_add->zas,zero_le->za0,zero_mul->zeg
open _root_.Go.Next renaming value->zep
open _root_.Go.Op renaming bytesLess->zdv
open _root_.Option renaming bind_some->zcr,map_eq_some_iff->zc6
open _root_.Option.some renaming inj->zbi,injEq->zad
open _root_.Prod.mk renaming injEq->zci
open _root_.Pure renaming pure->zek
open _root_.Go.Proofs.Tryz renaming prog->zbj,underlying5->zex
open _root_.UInt8 renaming ofNat->zc7,toNat_inj->zd3
open _root_.Go.Utf8 renaming decode->zfk,encode->zfg
open _root_.Go.Value renaming int->zcn,string->zaz
open _root_.Go.Value.slice renaming injEq->zbo
set_option linter.unusedVariables false
set_option maxRecDepth 100000
namespace Go.X
end Go.X
namespace Go.Proofs
end Go.Proofs
open Go Go.X Go.Proofs
open _root_.Bool renaming true->Ta,false->Tc
open _root_.Option renaming some->Td,none->Te
namespace Go.X
section
section
variable {M gl:Fr} {u:Value} {P:Program} {f:FuncId} {γ:Gh} {cs C R:CS} {o:Oper} {σ:Operand -> Value} {h:zc} {tr:TypeId}
variable {h0 : zc} {W : Nat -> Prop} {M0 : Fr}
def hY:Ty->Bool
 |.tree=>Ta
 |.unit=>Ta
 |.pair _ _=>Ta
 |_=>Tc
def RdV(M:Fr)(t:Ty)(x:El t)(u:Value):Prop:=if hY t=Ta then ∃cs:List Value,u=.agg cs.toArray/\Rd M t x cs else Rd M t x [u]
theorem RdV.mono{M M':Fr}(c:Fr.le M M'){t:Ty}{x:El t}(h:RdV M t x u):RdV M' t x u:=by unfold RdV at *;by_cases b:hY t=Ta;rw[zA b]at *;grind [Rd.mono];rw[zv b]at *;exact Rd.mono c h
structure Arg where
 t:Ty
 x:El t
def kT(M:Fr)(l:List Arg)(vs:List Value):Prop:=All2 (λ(a:Arg) u=>RdV M a.t a.x u) l vs
@[reducible] def iw:List Ty->Type
 |[]=>Unit
 |[t]=>El t
 |t::t'::l=>El t×iw (t'::l)
def GA:(l:List Ty)->iw l
 |[]=>()
 |[t]=>qY t
 |t::t'::l=>(qY t,GA (t'::l))
def vx(M:Fr):(l:List Ty)->iw l->List Value->Prop
 |[],_,us=>us=[]
 |[t],x,us=>∃u,us=[u]/\RdV M t x u
 |t::t'::l,x,us=>∃u b,us=u::b/\RdV M t x.1 u/\vx M (t'::l) x.2 b
def J4(M:Fr)(l:List Ty)(x:iw l)(v:Value):Prop:=∃us,vx M l x us/\v=kN us
def PC(P:Program)(gl:Fr)(f:FuncId)(args:List Arg)(c:List Ty)(R:iw c->Prop):Prop:=
 ∀(h:zc) (M:Fr) (vs:List Value),Fr.le gl M->AgM M h->kT M args vs->XC P f vs.toArray h λv h'=>
  Keep h.size h h'/\∃M' r,Fr.le M M'/\(∀b,b<h.size->M' b=M b)/\AgM M' h'/\J4 M' c r v/\R r
theorem PC.mono{args:List Arg}{b:List Ty}{R c:iw b->Prop}(H:PC P gl f args b R)(o:∀r,R r->c r):PC P gl f args b c:= λh M vs h1 i j=>(H h M vs h1 i j).mono λv h' ⟨k,M',r,l,q,m,n,e⟩=>⟨k,M',r,l,q,m,n,o r e⟩
theorem RdV.bd{t:Ty}{x:El t}(h:RdV M t x u):Bd t x:=by unfold RdV at h;split at h;obtain⟨cs,_,h⟩:=h;exact h.bd;exact h.bd
theorem PC.bd{args:List Arg}{e:List Ty}{R:iw e->Prop}(H:(∀a∈args,Bd a.t a.x)->PC P gl f args e R):PC P gl f args e R:=by
 intro h M vs h1 j c;refine H ?_ h M vs h1 j c;clear H h1 j;induction args generalizing vs with
 |nil=>simp
 |cons a args k=>
  cases vs with
  |nil=>exact c.elim
  |cons u us=>intro b i;rcases zan.1 i with rfl|i;exact RdV.bd c.1;exact k us c.2 b i
def sJ(t:Ty)(x:El t):AG:=bif hY t then .agg (Jm t x)else(match Jm t x with
 |[y]=>.a y
 |l=>.agg l)
theorem Bn{t:Ty}{x:El t}(h:RdV γ.M t x u):DenG γ (sJ t x) u:=by
 unfold RdV at h;unfold sJ;split at h;rename_i c;rw[c];obtain⟨cs,e,h⟩:=h;exact⟨cs,e,xw h⟩;rename_i c;have f:hY t=Tc:=by simpa using c
 rw[f];simp only[zL];have b:=xw (γ:=γ) h
 match hx:Jm t x,b with
 |[y],b=>exact b.1
 |[],b=>exact b.elim
 |_::_::_,b=>exact b.2.elim
def tg:(l:List Ty)->iw l->List AG
 |[],_=>[]
 |[t],x=>[sJ t x]
 |t::t'::l,x=>sJ t x.1::tg (t'::l) x.2
theorem Fb{γ:Gh}:∀{l:List Ty} {x:iw l} {us:List Value},vx γ.M l x us->All2 (DenG γ) (tg l x) us
 |[],_,_,h=>by rw[h];trivial
 |[_],_,_,⟨u,e,h⟩=>by rw[e];exact⟨Bn h,trivial⟩
 |_::_::_,_,_,⟨u,us,e,h,h'⟩=>by rw[e];exact⟨Bn h,Fb h'⟩
def rM(l:List Ty)(x:iw l):AV:=match tg l x with
 |[g]=>.g g
 |gs=>.tup gs
theorem O7{l:List Ty}{x:iw l}{v:Value}(h:J4 γ.M l x v):DenV γ (rM l x) v:=by
 obtain⟨us,h,rfl⟩:=h;have b:=Fb (γ:=γ) h;unfold rM;generalize tg l x=gs at *
 match gs,us,b with
 |[],[],_=>exact⟨[],rfl,trivial⟩
 |[g],[u],b=>exact b.1
 |g::g'::gs,u::u'::us,b=>exact⟨_,rfl,b⟩
 |[],_::_,b=>exact b.elim
 |_::_,[],b=>exact b.elim
 |[_],_::_::_,b=>exact b.2.elim
 |_::_::_,[_],b=>exact b.2.elim
def sR(P:Program)(tr:TypeId):Nat->TypeId->Option Ty
 |0,_=>Te
 |n+1,t=>bif Nat.beq t tr then Td .tree else match P.underlying t with
  |some (.int k)=>Td (.int k)
  |some .bool=>Td .bool
  |some .string=>Td .str
  |some (.slice e)=>match sR P tr n e with
   |some x=>Td (.row x)
   |none=>Te
  |some (.struct fs)=>tysOf P (λt=>sR P tr n t) fs.toList
  |some (.interface _)=>Td .err
  |_=>Te
where tysOf (P:Program) (f:TypeId->Option Ty):List Field->Option Ty
 |[]=>Td .unit
 |[x]=>f x.type
 |x::y::l=>match f x.type,tysOf P f (y::l)with
  |some a,some b=>Td (.pair a b)
  |_,_=>Te
def vL(P:Program)(tr:TypeId):List TypeId->Option (List Ty)
 |[]=>Td []
 |t::l=>match sR P tr 8 t,vL P tr l with
  |some a,some b=>Td (a::b)
  |_,_=>Te
def FR:AA->List Nat
 |.own c=>[c]
 |_=>[]
def oI:List AA->List Nat
 |[]=>[]
 |x::l=>FR x++oI l
def ZO:AV->List Nat
 |.g (.a x)=>FR x
 |.g (.agg l)=>oI l
 |_=>[]
def kW:List AV->List Nat
 |[]=>[]
 |v::l=>ZO v++kW l
def frzL:List Nat->CS->CS
 |[],C=>C
 |c::l,C=>frzL l (nG c C)
theorem Inv.frzL{C R:CS}{γ:Gh}{h:zc}:∀(l:List Nat) {C:CS} {γ:Gh},Inv h0 W M0 (C++R) γ h->∃γ',Inv h0 W M0 (frzL l C++R) γ' h/\Gx Te γ γ'
 |[],C,γ,I=>⟨γ,I,Gx.refl _ _⟩
 |c::l,C,γ,I=>by obtain⟨j,f,g1⟩:=Inv.freeze c C [] I;obtain⟨b,e,g2⟩:=Inv.frzL (C:=C) (γ:=γ) l f;exact⟨b,e,g1.1.trans g2.1,λi hi=>⟨(g2.2 i hi).1.trans (g1.2 i hi).1,(g2.2 i hi).2.trans (g1.2 i hi).2⟩⟩
def qP(cs:CS)(t:Ty):AV->Option (El t)
 |.g (.agg l)=>bif hY t then(match collect cs t l with
  |some (y,[])=>Td y
  |_=>Te)else Te
 |.g (.a x)=>bif hY t then Te else lU cs t x
 |_=>Te
theorem Az(c:lP γ cs){t:Ty}{av:AV}{y:El t}(h:qP cs t av=Td y)(b:DenV γ av u):RdV γ.M t y u:=by
 unfold qP at h;unfold RdV;split at h;rename_i l;cases ha:hY t with
 |false=>simp_all
 |true=>
  rw[ha]at h;simp only[zK]at h;split at h;rename_i m j;simp only[zad]at h;subst h;obtain⟨us,e,f⟩:=b;obtain⟨c1,c2,rfl,k,i⟩:=Jo c j f;cases c2 with
  |nil=>simp_all
  |cons _ _=>exact i.elim
  cases h
 rename_i x;cases ha:hY t with
 |true=>simp_all
 |false=>rw[ha]at h;simp only[zcj,if_false];exact j7 c h b
 cases h
def wh(cs:CS):List Ty->List AV->Option (List Arg)
 |[],[]=>Td []
 |t::ts,v::vs=>match qP cs t v,wh cs ts vs with
  |some x,some l=>Td (⟨t,x⟩::l)
  |_,_=>Te
 |_,_=>Te
theorem Y8{γ:Gh}{cs:CS}(b:lP γ cs):∀{ts:List Ty} {vs:List AV} {l:List Arg},wh cs ts vs=Td l->∀{us:List Value},All2 (DenV γ) vs us->kT γ.M l us
 |[],[],l,h,[],_=>by simp only[wh,zad]at h;subst h;trivial
 |[],[],_,_,_::_,hd=>hd.elim
 |t::ts,v::vs,l,h,[],hd=>hd.elim
 |t::ts,v::vs,l,h,u::us,hd=>by simp only[wh]at h;split at h;rename_i x e h1 c;simp only[zad]at h;subst h;exact⟨Az b h1 hd.1,Y8 b c hd.2⟩;cases h
 |[],_::_,_,h,_,_=>by simp[wh]at h
 |_::_,[],_,h,_,_=>by simp[wh]at h
def oF(ρ:Operand->Option AV):List Operand->Option (List AV)
 |[]=>Td []
 |x::l=>match ρ x,oF ρ l with
  |some v,some vs=>Td (v::vs)
  |_,_=>Te
theorem yJ{γ:Gh}{ρ:Operand->Option AV}{σ:Operand->Value}(b:∀x av,ρ x=Td av->DenV γ av (σ x)):∀{l:List Operand} {vs:List AV},oF ρ l=Td vs->All2 (DenV γ) vs (l.map σ)
 |[],vs,h=>by simp only[oF,zad]at h;subst h;trivial
 |x::l,vs,h=>by simp only[oF]at h;split at h;rename_i v e h1 c;simp only[zad]at h;subst h;exact⟨b _ _ h1,yJ b c⟩;cases h
def ExA(P:Program)(s:Sem Next)(h:zc)(Post:Value->zc->Prop):Prop:=∀B d,
 (∃v b h',s.run P (mk B d h)=.ok (.value v) (mk B b h')/\Post v h') \/
 (∃b h',s.run P (mk B d h)=.ok .skip (mk B b h')/\Post undef h') \/
 (∃f args,s.run P (mk B d h)=.ok (.enter f args) (mk B d h)/\XC P f args h Post)
theorem ExA.upon{Post:Value->zc->Prop}(H:ExA P (execOp σ o) h Post)(B:World)(d:Nat){a:Act}{next:Act->World->Prop}{Q:Exit->Act->World->Prop}
  (i:∀v c h',Post v h'->next (a.put o.dst v) (mk B c h')):o.upon P a next Q ((execOp σ o).run P (mk B d h)):=by
 rcases H B d with⟨v,c,h',e,b⟩|⟨c,h',e,b⟩|⟨f,args,e,j⟩;exact upon_value e (i _ _ _ b);exact upon_skip e (i _ _ _ b);rw[e];refine(j B d).mono ?_;simp_all
def jZ(h0:zc)(W:Nat->Prop)(M0:Fr)(R:CS)(γ:Gh)(K:AV->CS->Option Nat->Prop)(v:Value)(h':zc):Prop:=
 ∃av b c γ',K av b c/\DenV γ' av v/\Inv h0 W M0 (b++R) γ' h'/\Gx c γ γ'
theorem Bc(b:Fr.le gl M0){ρ:Operand->Option AV}{K:AV->CS->Option Nat->Prop}(H:qA P gl o ρ Te (C++R) λav=>K av C Te)(I:Inv h0 W M0 (C++R) γ h)
  (f:∀x av,ρ x=Td av->DenV γ av (σ x)):ExA P (execOp σ o) h (jZ h0 W M0 R γ K):=by
 obtain⟨av,h1,i⟩:=tu (h0:=h0) (W:=W) (M0:=M0) b H;obtain⟨v,c,e⟩:=i trivial γ h σ I f;exact λB d=>.inl ⟨v,d,h,e B d,av,C,Te,γ,h1,c,I,Gx.refl _ _⟩
def uX:Operand->Option FuncId
 |.func f=>Td f
 |_=>Te
def GP(P:Program)(tr:TypeId)(f:FuncId):Option (List Ty×List Ty):=match P.funcs[f]? with
 |some fn=>match vL P tr fn.params.toList,vL P tr fn.resultTypes.toList with
  |some a,some b=>Td (a,b)
  |_,_=>Te
 |none=>Te
def AQ(P:Program)(gl:Fr)(tr:TypeId)(o:Oper)(ρ:Operand->Option AV)(C R:CS)(K:AV->CS->Prop):Prop:=
 match o.op with
 |.call c=>match c.callee with
  |.value x=>match uX x with
   |some f=>bif zo P f then(match GP P tr f,oF ρ c.args.toList with
    |some (ts,rt),some vs=>match wh (frzL (kW vs) C++R) ts vs with
     |some args=>PC P gl f args rt λr=>K (rM rt r) (frzL (kW vs) C)
     |none=>False
    |_,_=>False)else False
   |none=>False
  |_=>False
 |_=>False
def BE(P:Program)(gl:Fr)(tr:TypeId)(o:Oper)(ρ:Operand->Option AV)(b:Bool)(cs:CS)(K:AV->Prop):Prop:=
 match o.op with
 |.call c=>match c.callee with
  |.value x=>match uX x with
   |some f=>bif zo P f then(match GP P tr f,oF ρ c.args.toList with
    |some (ts,rt),some vs=>match wh cs ts vs with
     |some args=>∃J:iw rt->Prop,(b=Ta->PC P gl f args rt J)/\∀r,(b=Ta->J r)->K (rM rt r)
     |none=>False
    |_,_=>False)else False
   |none=>False
  |_=>False
 |_=>False
theorem C7{x:Operand}(h:uX x=Td f):x=.func f:=by unfold uX at h;grind
theorem Cg{c:Call}(e:o.op=.call c)(i:c.callee=.value (.func f))(b:zo P f=Ta)(h:σ (.func f)=.func (.func f) #[] #[])(w:World):
  (execOp σ o).run P w=.ok (.enter f (c.args.map σ)) w:=by
 simp only[execOp,e,resolve,i,h,zev,Sem.run_bind,Sem.run_pure,Result.andThen_ok,invoke];rw[X5 b];simp
theorem EE(c:Fr.le gl M0){args:List Arg}{b:List Ty}{i:iw b->Prop}(H:PC P gl f args b i)(I:Inv h0 W M0 cs γ h){us:List Value}(m:kT γ.M args us):
  XC P f us.toArray h λv h'=>∃r γ',i r/\DenV γ' (rM b r) v/\Inv h0 W M0 cs γ' h'/\Gx Te γ γ'/\Keep h.size h h':=
 (H h γ.M us (c.trans I.le) I.ag m).mono λv h' ⟨k,M',r,e,o,l,n,j⟩=>
  ⟨r,{ γ with M:=M' },j,O7 (γ:={ γ with M:=M' }) n,I.call k e o l,⟨e,λ_ _=>⟨rfl,rfl⟩⟩,k⟩
theorem UG(l:Fr.le gl M0){ρ:Operand->Option AV}{K:AV->CS->Option Nat->Prop}(H:AQ P gl tr o ρ C R λav n=>K av n Te)(I:Inv h0 W M0 (C++R) γ h)
  (F:∀f,σ (.func f)=.func (.func f) #[] #[]) (E:∀x av,ρ x=Td av->DenV γ av (σ x)):ExA P (execOp σ o) h (jZ h0 W M0 R γ K):=by
 unfold AQ at H;split at H;rename_i c y;split at H;rename_i x D;split at H;rename_i f w;cases hcal:zo P f with
 |false=>simp_all
 |true=>
  rw[hcal]at H;simp only[zK]at H;split at H;rename_i ts J vs M k;split at H;rename_i args b;intro B d;have e:=C7 w;subst e;obtain⟨L,m,g1⟩:=Inv.frzL (C:=C) (γ:=γ) (kW vs) I;have G:=Y8 m.fz b ((yJ E k).imp λv _ u z=>z.gx g1 rfl);refine .inr (.inr ⟨f,c.args.map σ,Cg y D hcal (F f) _,?_⟩);have t:c.args.map σ=(c.args.toList.map σ).toArray:=by rw[<-Array.toList_map]
  rw[t];refine(EE l H m G).mono ?_;rintro v h' ⟨r,γ',h1,q,A,j,_⟩;exact⟨_,_,Te,γ',h1,q,A,g1.1.trans j.1,λi hi=>⟨(j.2 i hi).1.trans (g1.2 i hi).1,(j.2 i hi).2.trans (g1.2 i hi).2⟩⟩;exact H.elim;exact H.elim
 exact H.elim;exact H.elim;exact H.elim
theorem Cn{ρ:Operand->Option AV}{b:Bool}{K:AV->Prop}(H:BE P gl tr o ρ b cs K):(b=Tc->∃av,K av) /\
  (b=Ta->Fr.le gl M0->∀γ h σ,Inv h0 W M0 cs γ h->(∀f,σ (.func f)=.func (.func f) #[] #[])->(∀x av,ρ x=Td av->DenV γ av (σ x))->∃f args,(∀w,(execOp σ o).run P w=.ok (.enter f args) w) /\ XC P f args h λv h'=>∃av γ',K av/\DenV γ' av v/\Inv h0 W M0 cs γ' h'/\Gx Te γ γ'/\Keep h.size h h'):=by
 unfold BE at H;split at H;rename_i c q;split at H;rename_i x u;split at H;rename_i f m;cases hcal:zo P f with
 |false=>simp_all
 |true=>
  rw[hcal]at H;simp only[zK]at H;split at H;rename_i ts n vs A j;split at H;rename_i args i;obtain⟨J,h1,r⟩:=H;refine⟨λl=>⟨_,r (GA n) (λh=>by simp_all)⟩,λl k γ h σ I z y=>?_⟩;have e:=C7 m;subst e;refine⟨f,c.args.map σ,λw=>Cg q u hcal (z f) w,?_⟩;have t:c.args.map σ=(c.args.toList.map σ).toArray:=by rw[<-Array.toList_map]
  rw[t];refine(EE k (h1 l) I (Y8 I.fz i (yJ y j))).mono ?_;grind;exact H.elim;exact H.elim
 exact H.elim;exact H.elim;exact H.elim
end
section
variable {P:Program} {t:TypeId} {o:Oper} {d:Nat} {C R:CS} {γ:Gh} {h:zc} {σ:Operand -> Value} {av:AV}
variable {h0 : zc} {W : Nat -> Prop} {M0 : Fr}
def wG(P:Program)(t:TypeId)(d:Nat)(C R:CS)(K:AV->CS->Option Nat->Prop):Prop:=match zeroOf P t with
 |some z=>bif Qh d R then(bif kb (z.cells.toList.map .v)then False else K (.g (.a (.box d 0))) ((d,.box (z.cells.toList.map .v))::y5 d C) (Td d))else False
 |none=>False
theorem Dc(c:Nat):∀l:List Value,kq c (l.map .v)=Tc
 |[]=>rfl
 |_::l=>by simp only[za1,kq,ni,zL,Dc c l]
theorem Cu(t:TypeId)(v:Value)(B:World)(d:Nat)(h:zc):(newVar t v).run P (mk B d h)=.ok ⟨h.size,0,Te⟩ (mk B d (h.push (.cells v.cells t))):=rfl
theorem MR(b:o.op=.alloc t){K:AV->CS->Option Nat->Prop}(H:wG P t d C R K)(I:Inv h0 W M0 (C++R) γ h):ExA P (execOp σ o) h (jZ h0 W M0 R γ K):=by
 unfold wG at H;split at H
 ·rename_i z hz;cases hR:Qh d R with
  |false=>simp_all
  |true=>
   rw[hR]at H;cases hit:kb (z.cells.toList.map .v)with
   |true=>simp_all
   |false=>
   rw[hit]at H;intro B e;refine .inl ⟨.pointer (Td ⟨h.size,0,Te⟩),e,h.push (.cells z.cells t),?_,_,_,_,lI γ d h.size,H,?_,?_,pO _ _ _⟩;have f:=AH hz h B e;simp only[execOp,b];refine jF ?_;unfold Instr.alloc;simp_all[Sem.run_bind,Result.andThen_ok,Cu];simp only[DenV,DenG,DenA,Jp];have:=I.newBox (c:=d) hR (Jr γ z.cells.toList) (Dc d _) hit t;omega
 exact H.elim
def Aq(t:TypeId)(d:Nat)(l:List AA)(C R:CS)(K:AV->CS->Option Nat->Prop):Prop:=
 bif Qh d R then(bif kq d l then False else(bif kb l then False else K (.g (.a (.box d 0))) ((d,.box l)::y5 d C) (Td d)))else False
theorem Kg{x:Operand}(b:o.op=.box t x){l:List AA}{K:AV->CS->Option Nat->Prop}(H:Aq t d l C R K)(I:Inv h0 W M0 (C++R) γ h)
  (f:All2 (DenA γ) l (σ x).cells.toList):ExA P (execOp σ o) h (jZ h0 W M0 R γ K):=by
 unfold Aq at H;cases hR:Qh d R with
 |false=>simp_all
 |true=>
  rw[hR]at H;cases hm:kq d l with
  |true=>simp_all
  |false=>
   rw[hm]at H;cases hit:kb l with
   |true=>simp_all
   |false=>
   rw[hit]at H;intro B e;refine .inl ⟨.pointer (Td ⟨h.size,0,Te⟩),e,h.push (.cells (σ x).cells t),?_,_,_,_,lI γ d h.size,H,?_,?_,pO _ _ _⟩;simp only[execOp,b];refine jF ?_;unfold Instr.box;rw[Sem.run_bind,Cu];rfl;simp only[DenV,DenG,DenA,Jp];have:=I.newBox (c:=d) hR f hm hit t;omega
def yG:AA->Bool
 |.v x=>x.oneCell'
 |_=>Ta
def qS:List AA->Bool
 |[]=>Ta
 |x::l=>bif yG x then qS l else Tc
theorem VG{x:AA}{u:Value}(h:yG x=Ta)(j:DenA γ x u):u.oneCell'=Ta:=by
 cases x with
 |v y=>rw[show u=y from j];exact h
 |d t y=>exact Rd.one (show Rd γ.M t y [u]from j) u (by simp)
 |box c o=>rw[show u=_ from j];rfl
 |own c=>rw[show u=_ from j];rfl
 |oelt c z i o=>obtain⟨g,_,e⟩:=j;rw[e];rfl
 |elt t y o=>obtain⟨b,f,cs,e,_⟩:=j;rw[e];rfl
 |dc t xs=>obtain⟨s,e,_⟩:=j;rw[e];rfl
theorem FD{γ:Gh}:∀{l:List AA} {us:List Value},qS l=Ta->All2 (DenA γ) l us->∀u∈us,u.oneCell'=Ta
 |[],[],_,_,u,b=>by cases b
 |[],_::_,_,h,_,_=>h.elim
 |_::_,[],_,h,_,_=>h.elim
 |x::l,v::us,h,hd,u,b=>by
  simp only[qS]at h;cases hx:yG x with
  |false=>simp_all
  |true=>rw[hx]at h;rcases zan.1 b with rfl|b;exact VG hx hd.1;exact FD h hd.2 u b
def kO(c:Nat):CS->Bool
 |[]=>Ta
 |(j,_)::l=>bif Nat.beq j c then Tc else kO c l
theorem pL{c:Nat}:∀{l:CS},kO c l=Ta->∀x∈l,x.1≠c
 |[],_,x,b=>by cases b
 |(j,k)::l,h,x,b=>by
  simp only[kO]at h;cases hb:Nat.beq j c with
  |true=>simp_all
  |false=>rw[hb]at h;rcases zan.1 b with rfl|b;intro e;simp_all;exact pL h x b
theorem Ax{P:Program}{g o:Nat}:∀(vs:List Value) (i:Nat) (w:World),(storeCells ⟨g,o,Te⟩ vs i).run P w=(storeCells ⟨g,0,Te⟩ vs (o+i)).run P w
 |[],i,w=>rfl
 |v::vs,i,w=>by unfold storeCells;rw[Sem.run_bind,Sem.run_bind,zf,zf,zas];congr 1;funext a w';exact Ax vs (i+1) w'
theorem Yf{n:Nat}(hi:yb P t=Ta)(i:j4 P t=n){b o:Nat}{cs:Array Value}{T:TypeId}(e:h[b]?=Td (.cells cs T (0,0))){v:Value}(l:v.cells.size=n)(m:o+n<=cs.size)(h1:∀u∈v.cells.toList,u.oneCell'=Ta)(B:World)(d:Nat):
  ∃h',(zag t (.pointer (Td ⟨b,o,Te⟩)) v).run P (mk B d h)=.ok () (mk B d h')/\h'[b]?=Td (.cells (cs.toList.take o++v.cells.toList++cs.toList.drop (o+n)).toArray T (0,0))/\h'.size=h.size/\∀j,j≠b->h'[j]?=h[j]?:=by
 obtain⟨h',f,q,c,k⟩:=Z5 (P:=P) B d v.cells.toList (o+0) h cs e (by simp;omega) h1;refine⟨h',?_,by grind,c,k⟩;have hz:=QExec.sizeOf (P:=P) (h:=h) (wb hi).choose_spec B d;unfold zag zeq;simp only[Sem.run_bind,Sem.run_pure,Result.andThen_ok];unfold storeVar;rw[Sem.run_bind,hz];simp only[Result.andThen_ok];rw[i,l];simp only[ne_eq,not_true_eq_false,if_false];rw[Ax];exact f
theorem Q4{α:Type}{L vs:List α}{p:Nat}(h:p+vs.length<=L.length)(q:Nat):(L.take p++vs++L.drop (p+vs.length))[q]?=if q<p then L[q]? else if q<p+vs.length then vs[q-p]? else L[q]?:=by grind
theorem RowC.set{M:Fr}{t:Ty}{xs:List (El t)}{cells:List Value}(H:RowC M t xs cells){i:Nat}(hi:i<xs.length){y:El t}{o:Nat}{vs:List Value}(n:o+vs.length<=sz t) (q:Rd M t y ((((cells.drop (i*sz t)).take (sz t)).take o)++vs++(((cells.drop (i*sz t)).take (sz t)).drop (o+vs.length)))):
  RowC M t (xs.set i y) (cells.take (i*sz t+o)++vs++cells.drop (i*sz t+o+vs.length)):=by
 have c:(i+1)*sz t<=cells.length:=by rw[H.1];exact za8 _ hi
 rw[zcs,zd6]at c;have m:((cells.drop (i*sz t)).take (sz t)).length=sz t:=by rw[zbl,zb8];omega
 refine⟨?_,λj h=>?_⟩;rw[List.length_set,<-H.1];grind;rw[List.length_set]at h;by_cases b:i=j;subst b;rw[List.getElem_set_self];have e:(((cells.take (i*sz t+o)++vs++cells.drop (i*sz t+o+vs.length)).drop (i*sz t)).take (sz t))=(((cells.drop (i*sz t)).take (sz t)).take o)++vs++(((cells.drop (i*sz t)).take (sz t)).drop (o+vs.length)):=by apply zbd;intro k;rw[Q4 (by omega),zbk,zbk,zb6,zb6,Q4 (by omega)];by_cases f:k<sz t;grind;grind
 grind;rw[List.getElem_set_ne b];have e:(((cells.take (i*sz t+o)++vs++cells.drop (i*sz t+o+vs.length)).drop (j*sz t)).take (sz t))=(cells.drop (j*sz t)).take (sz t):=by
  apply zbd;intro k;rw[zbk,zbk,zb6,zb6,Q4 (by omega)];by_cases f:k<sz t;simp only[f,if_true];rcases zb0 j i with h1|h1;have:(j+1)*sz t<=i*sz t:=za8 _ h1;grind;have l:i+1<=j:=by omega
  have:(i+1)*sz t<=j*sz t:=za8 _ l;grind;grind
 rw[e];exact H.2 j h
theorem Inv.setRow{h h':zc}(I:Inv h0 W M0 (C++R) γ h){c:Nat}{e:TypeId}{t:Ty}{xs k:List (El t)}(z:(c,Ch.row e t xs)∈C){g:Nat}(l:(γ.σ c).a.map (·.block)=Td g)
  (F:∀i,i≠g->h'[i]?=h[i]?) (J:h'.size=h.size) (A:DenC h0.size γ h' c (.row e t k)) (M:∀x∈R,x.1≠c):Inv h0 W M0 ((c,.row e t k)::iM c C++R) γ h':=by
 have w:=I.sep _ (zau R z) g l;have q:∀x∈iM c C++R,blk γ x.1 x.2≠Td g:=by
  intro x j;have o:x≠(c,Ch.row e t xs):=by rintro rfl;rcases zaj.1 j with j|j;exact(Y0 j).2 rfl;grind
  have n:x∈C++R:=((Zd c C).append_right R).subset j;have D:=@sB _ (λ(x y:Nat×Ch)=>∀b,blk γ x.1 x.2=Td b->blk γ y.1 y.2≠Td b) (λx y h b f r=>h b r f) _ I.apart;intro f;exact D (zau R z) n (λe=>o e.symm) _ l f
 have E:Inv h0 W M0 (iM c C++R) γ h':=by refine I.rest ((Zd c C).append_right R) (c:=Te) (Gx.refl _ _) (λx _=>⟨by simp,rfl⟩) (λx j b f=>?_) (λb B G=>?_) (λi hi H=>?_) (by omega) (λb f=>rfl);exact⟨F b λu=>q x j (u ▸ f),(I.sep x (((Zd c C).append_right R).subset j) b f).2⟩;obtain⟨L,m,u⟩:=I.ag b B G;grind;grind
 refine E.cons A (λb f=>?_) (λb f x j=>?_);simp only[blk,l,zad]at f;grind;simp only[blk,l,zad]at f;simp_all
def xI(P:Program)(t:TypeId)(f:AA)(b:List AA)(C R:CS)(K:AV->CS->Option Nat->Prop):Prop:=
 bif yb P t then(bif Nat.beq b.length (j4 P t)then(bif qS b then(match f with
 |.box c o=>match Jn C c with
  |some (.box l)=>bif kO c R then(bif (bif kb l then Ta else kb (l.take o++b++l.drop (o+b.length)))then False else(bif Nat.ble (o+b.length) l.length then K (pC undef) ((c,.box (l.take o++b++l.drop (o+b.length)))::iM c C) Te else False))else False
  |_=>False
 |.oelt c z i o=>match Jn (frzL (oI b) C) c with
  |some (.row e ty xs)=>bif kO c R then(bif Nat.beq z (sz ty)then(bif Nat.ble (o+b.length) (sz ty)then ∃y:El ty,xs[i]?=Td y/\(match collect (frzL (oI b) C++R) ty ((Jm ty y).take o++b++(Jm ty y).drop (o+b.length))with
   |some (y',[])=>K (pC undef) ((c,.row e ty (xs.set i y'))::iM c (frzL (oI b) C)) Te
   |_=>False)else False)else False)else False
  |_=>False
 |_=>False)else False)else False)else False
theorem Rl{a x:Operand}(ho:o.op=.store t a x){aa:AA}{f:List AA}{K:AV->CS->Option Nat->Prop}(H:xI P t aa f C R K)(I:Inv h0 W M0 (C++R) γ h)
  (A:All2 (DenA γ) f (σ x).cells.toList) (ha:DenA γ aa (σ a)):ExA P (execOp σ o) h (jZ h0 W M0 R γ K):=by
 unfold xI at H;cases hi:yb P t with
 |false=>grind
 |true=>
  rw[hi]at H;cases hn:Nat.beq f.length (j4 P t)with
  |false=>simp_all
  |true=>
   rw[hn]at H;cases hok:qS f with
   |false=>simp_all
   |true=>
    rw[hok]at H;have M:f.length=j4 P t:=za4 hn;have r:(σ x).cells.size=j4 P t:=by rw[<-M,A.length];simp
    have h1:=FD hok A;simp only[zK]at H;split at H
    ·rename_i c off;split at H
     ·rename_i l Y;cases hR:kO c R with
      |false=>simp_all
      |true=>
       rw[hR]at H;cases hit:kb l with
       |true=>simp_all
       |false=>
       rw[hit]at H;cases hit2:kb (l.take off++f++l.drop (off+f.length))with
       |true=>simp_all
       |false=>
       rw[hit2]at H;simp only[zK,zL]at H;cases hble:Nat.ble (off+f.length) l.length with
       |false=>grind
       |true=>
        rw[hble]at H;have ah:=zc0 hble;obtain⟨us,e,O⟩:=I.den _ (zau R (qi Y));rcases e with⟨⟨T,e⟩,_⟩|⟨s,p,e,_⟩;case inr=>grind [uZ]
        have au:=O.length;intro B d;obtain⟨h',r1,r2,r3,r4⟩:=Yf (P:=P) hi rfl e (o:=off) r (by simp;omega) h1 B d;refine .inr (.inl ⟨d,h',?_,_,_,_,γ,H,sE _ _,?_,Gx.refl _ _⟩);simp only[execOp,ho];rw[show σ a=_ from ha];exact pB r1;refine I.setBox (qi Y) (us:=us.take off++(σ x).cells.toList++us.drop (off+f.length)) (.inl ⟨⟨T,?_⟩,λs p=>uZ hit2 (((O.take off).append A).append (O.drop _)) s p⟩) r4 r3 ?_ (pL hR);rw[r2,M];exact((O.take off).append A).append (O.drop _)
     exact H.elim
    rename_i c z i off;split at H;rename_i e ty xs Y;cases hR:kO c R with
    |false=>simp_all
    |true=>
     rw[hR]at H;cases hz:Nat.beq z (sz ty)with
     |false=>simp_all
     |true=>
      rw[hz]at H;cases hble:Nat.ble (off+f.length) (sz ty)with
      |false=>grind
      |true=>
       rw[hble]at H;simp only[zK]at H;obtain⟨y,hy,H⟩:=H;split at H;rename_i y' Q;have ah:=zc0 hble;obtain⟨γ1,I1,g1⟩:=Inv.frzL (C:=C) (γ:=γ) (oI f) I;have D:=ha.gx g1 rfl;have ab:=DenL.gx (c:=Te) g1 rfl A;rw[za4 hz]at D;obtain⟨g,hg,af⟩:=D;have n:=qi Y;obtain⟨cells,q,b,m,j⟩:=I1.den _ (zau R n);simp only at q b m j;have w:i<xs.length:=(za5.1 hy).1;have ai:xs[i]=y:=(za5.1 hy).2;rcases q.2 with⟨hv,ar⟩|⟨g',cap,J,hv,aj,ac,ak,G,ae,u⟩;omega;simp only[zbo]at hv;have al:g'=g:=by have:=hv.1;rw[hg]at this;simp only[zad,Addr.mk.injEq]at this;exact this.1.symm
       subst al;have E:cells.length=xs.length*sz ty:=b.1;have F:(i+1)*sz ty<=xs.length*sz ty:=za8 _ w;rw[zcs,zd6]at F;have Z:xs.length*sz ty<=cap*sz ty:=za8 _ (by omega);have am:(σ x).cells.toList.length=f.length:=A.length.symm;intro B d;obtain⟨h',r1,r2,r3,r4⟩:=Yf (P:=P) hi rfl ac (o:=i*sz ty+off) r (by rw[ae];omega) h1 B d;refine .inr (.inl ⟨d,h',?_,_,_,_,γ1,H,sE _ _,?_,g1⟩);simp only[execOp,ho];rw[af];exact pB r1;refine I1.setRow n (g:=g') (by rw[hg];rfl) r4 r3 ?_ (pL hR);have hE:=b.2 i w;rw[ai]at hE;have S:=xw (γ:=γ1) hE;have V:=((S.take off).append ab).append (S.drop (off+f.length));obtain⟨c1,c2,e1,r5,r6⟩:=Jo I1.fz Q V;cases c2 with
       |cons _ _=>exact r6.elim
       |nil=>
        rw[zbs]at e1;rw[<-e1]at r5;have N:=b.set w (o:=off) (vs:=(σ x).cells.toList) (by omega) (by rw[am];exact r5);refine⟨_,⟨?_,.inr ⟨g',cap,_,by simp[hv],aj,r2,ak,G,?_,?_⟩⟩,N,by grind,by grind⟩;grind;grind;apply zbd;intro k;have U:(σ x).cells.toList.length=j4 P t:=by simpa using r
        rw[zbk,<-U];simp only;rw[Q4 (L:=cells) (by omega)];have an:cells=J.toList.take (xs.length*sz ty):=by rw[<-u,j]
        rw[Q4 (L:=J.toList) (by grind),an,j];grind
       exact H.elim
    exact H.elim;exact H.elim
def iD(s:Bt)(p:Nat):Bool:=Nat.blt p s.size
def iH(s:Bt)(p:Nat):Nat:=bif Nat.blt p s.size then p+(zfk s p).2 else p
def jC(s:Bt)(p:Nat):Int:=((zfk s p).1:Int)
def wC(P:Program)(t:TypeId)(av:AV)(d:Nat)(C R:CS)(K:AV->CS->Option Nat->Prop):Prop:=match av,P.underlying t with
 |.g (.a (.v (.string s))),Td .string=>bif Qh d R then K (.g (.a (.box d 0))) ((d,.box [.d .iter (s,0)])::y5 d C) (Td d)else False
 |_,_=>False
theorem Ts{x:Operand}(f:o.op=.range t x){K:AV->CS->Option Nat->Prop}(H:wC P t av d C R K)(I:Inv h0 W M0 (C++R) γ h)
  (b:DenV γ av (σ x)):ExA P (execOp σ o) h (jZ h0 W M0 R γ K):=by
 unfold wC at H;split at H;rename_i s j;cases hR:Qh d R with
 |false=>simp_all
 |true=>rw[hR]at H;intro B e;refine .inl ⟨.pointer (Td ⟨h.size,0,Te⟩),e,h.push (.stringIter s 0),?_,_,_,_,lI γ d h.size,H,?_,?_,pO _ _ _⟩;simp only[execOp,f,show σ x=.string s from b];refine jF ?_;have i:=QExec.underlying (h:=h) j B e;unfold ze5;rw[Sem.run_bind,i];rfl;simp only[DenV,DenG,DenA,Jp];exact Inv.newBoxO (c:=d) I hR (l:=[.d .iter (s,0)]) (us:=[Zy s 0]) ⟨rfl,trivial⟩ rfl (.inr ⟨s,0,rfl,rfl⟩)
 exact H.elim
def Bw(av:AV)(C R:CS)(K:AV->CS->Option Nat->Prop):Prop:=match av with
 |.g (.a (.box c 0))=>match Jn C c with
  |some (.box [.d .iter x])=>bif kO c R then K (.nx (iD x.1 x.2) (x.2:Int) (jC x.1 x.2)) ((c,.box [.d .iter (x.1,iH x.1 x.2)])::iM c C) Te else False
  |_=>False
 |_=>False
theorem UX{x:Operand}(t:o.op=.next x Ta){K:AV->CS->Option Nat->Prop}(H:Bw av C R K)(I:Inv h0 W M0 (C++R) γ h)
  (E:DenV γ av (σ x)):ExA P (execOp σ o) h (jZ h0 W M0 R γ K):=by
 unfold Bw at H;split at H;rename_i c;split at H;rename_i y f;cases hR:kO c R with
 |false=>simp_all
 |true=>
  rw[hR]at H;simp only[zK]at H;obtain⟨us,ob,k⟩:=I.den _ (zau R (qi f));have m:us=[Zy y.1 y.2]:=by
   match us,k with
   |[u],k=>have F:Rd γ.M .iter y [u]:=k.1;simpa[Rd]using F
  subst m;have b:h[γ.β c]?=Td (.stringIter y.1 y.2):=by
   rcases ob with⟨_,e⟩|⟨s,p,D,J⟩;grind;have L:y.1=s/\y.2=p:=by simp only[Zy,zc9,Value.iface.injEq,Value.agg.injEq,Array.mk.injEq,Value.string.injEq,Value.int.injEq,and_true,true_and]at D;exact⟨D.1,by omega⟩
   grind
  have j:γ.β c<h.size:=(zat.1 b).1;intro B d;have r:∀(w:World),w.heap[γ.β c]?=Td (.stringIter y.1 y.2)->(getObj (γ.β c)).run P w=.ok (.stringIter y.1 y.2) w:=λw e=>by simp[getObj,Sem.run,e]
  have G:∀(w:World) (q:Obj),w.heap[γ.β c]?=Td (.stringIter y.1 y.2)->(setObj (γ.β c) q).run P w=.ok () { w with heap:=w.heap.setIfInBounds (γ.β c) q }:=λw q e=>by simp[setObj,Sem.run,e]
  have z:σ x=.pointer (Td ⟨γ.β c,0,Te⟩):=E;by_cases l:y.2<y.1.size;have n:iD y.1 y.2=Ta:=by simpa[iD,zfc]using l
  have A:iH y.1 y.2=y.2+(zfk y.1 y.2).2:=by unfold iH;rw[show Nat.blt y.2 y.1.size=Ta from n];rfl
  refine .inl ⟨.tuple #[.bool Ta,.int .i64 y.2,.int .i32 (jC y.1 y.2)],d,h.setIfInBounds (γ.β c) (.stringIter y.1 (iH y.1 y.2)),?_,_,_,_,γ,H,⟨λ_=>rfl,λf=>by simp_all⟩,?_,Gx.refl _ _⟩;simp only[execOp,t,z];refine jF ?_;unfold zdx;simp only;rw[Sem.run_bind,r _ b];simp only[Result.andThen_ok,l,if_true];rw[Sem.run_bind,G _ _ b,A];rfl;refine I.setBox (qi f) (us:=[Zy y.1 (iH y.1 y.2)]) (.inr ⟨_,_,rfl,by simp[j]⟩) (λi hi=>by grind) (by simp) ⟨rfl,trivial⟩ (pL hR);have n:iD y.1 y.2=Tc:=by
   cases h:iD y.1 y.2 with
   |false=>rfl
   |true=>exact absurd (by simpa[iD,zfc]using h) l
  have A:iH y.1 y.2=y.2:=by unfold iH;rw[show Nat.blt y.2 y.1.size=Tc from n];rfl
  refine .inl ⟨.tuple #[.bool Tc],d,h,?_,_,_,_,γ,H,⟨λf=>(by simp_all),λ_=>rfl⟩,?_,Gx.refl _ _⟩;simp only[execOp,t,z];refine jF ?_;unfold zdx;simp only;rw[Sem.run_bind,r _ b];simp;omega;refine I.setBox (qi f) (us:=[Zy y.1 (iH y.1 y.2)]) (.inr ⟨_,_,rfl,by grind⟩) (λi hi=>rfl) rfl ⟨rfl,trivial⟩ (pL hR)
 exact H.elim;exact H.elim
end
section
variable {P:Program} {tr t tx e ty:TypeId} {n d m b:Nat} {C R:CS} {γ:Gh} {h:zc} {z x u:Value} {xs news:List Value}
variable {h0 : zc} {W : Nat -> Prop} {M0 : Fr}
def qZ(cs:CS)(t:Ty):Nat->List AA->Option (List (El t)×List AA)
 |0,l=>Td ([],l)
 |n+1,l=>match collect cs t l with
  |some (y,l')=>match qZ cs t n l' with
   |some (ys,l'')=>Td (y::ys,l'')
   |none=>Te
  |none=>Te
theorem Gw{γ:Gh}{cs:CS}(c:lP γ cs){t:Ty}:∀{n:Nat} {l b:List AA} {ys:List (El t)},qZ cs t n l=Td (ys,b)->∀{us:List Value},All2 (DenA γ) l us->∃c1 c2,us=c1++c2/\RowC γ.M t ys c1/\ys.length=n/\All2 (DenA γ) b c2
 |0,l,b,ys,h,us,hu=>by simp only[qZ,zad,zci]at h;obtain⟨rfl,rfl⟩:=h;exact⟨[],us,rfl,RowC.nil _ _,rfl,hu⟩
 |n+1,l,b,ys,h,us,hu=>by simp only[qZ]at h;split at h;rename_i y u h1;split at h;rename_i e w i;simp only[zad,zci]at h;obtain⟨rfl,rfl⟩:=h;obtain⟨c1,c2,rfl,j,o⟩:=Jo c h1 hu;obtain⟨k,r,rfl,f,q,m⟩:=Gw c i o;exact⟨c1++k,r,by simp,by simpa using (RowC.single j).append f,by simp[q],m⟩;cases h;cases h
def IM(P:Program)(el:TypeId)(k:Nat):Option (List Value):=bif Nat.beq k 0 then Td []else(match zeroOf P el with
 |some z=>Td ((Array.range k).map (z.cells[· % z.cells.size]!)).toList
 |none=>Te)
def uU:List (Nat×AV)->List AV
 |[]=>[]
 |(_,v)::l=>v::uU l
def vX(P:Program)(tr:TypeId)(t:TypeId)(n:Nat)(ps:List (Nat×AV))(d:Nat)(C R:CS)(K:AV->CS->Option Nat->Prop):Prop:=
 match pf P t with
 |some el=>match sR P tr 8 el,IM P el (n*j4 P el)with
  |some ty,some zs=>bif Nat.beq (j4 P el) (sz ty)then(bif Nat.ble (n*j4 P el) 16777216 then(bif Nat.blt 0 (j4 P el)then(bif Qh d R then(match po (λi=>Td (i*j4 P el,j4 P el)) (zs.map .v) ps with
   |some r=>match qZ (frzL (kW (uU ps)) C++R) ty n r with
    |some (ys,[])=>K (.g (.a (.own d))) ((d,.row el ty ys)::y5 d (frzL (kW (uU ps)) C)) (Td d)
    |_=>False
   |none=>False)else False)else False)else False)else False
  |_,_=>False
 |none=>False
theorem Vo{parts:Array (Nat×Operand)}{o:Oper}(V:o.op=.buildSlice t n parts){ps:List (Nat×AV)}{ρ:Operand->Option AV}(F:nZ ρ parts.toList=Td ps){K:AV->CS->Option Nat->Prop}
  (H:vX P tr t n ps d C R K) {σ:Operand->Value} (I:Inv h0 W M0 (C++R) γ h) (hρ:∀x av,ρ x=Td av->DenV γ av (σ x)):ExA P (execOp σ o) h (jZ h0 W M0 R γ K):=by
 unfold vX at H;split at H
 ·rename_i el y;obtain⟨Z,G⟩:=ul y;split at H
  ·rename_i ty m aa c;cases hz:Nat.beq (j4 P el) (sz ty)with
   |false=>simp_all
   |true=>
   rw[hz]at H;cases hb1:Nat.ble (n*j4 P el) 16777216 with
   |false=>simp_all
   |true=>
   rw[hb1]at H;cases hb2:Nat.blt 0 (j4 P el)with
   |false=>simp_all
   |true=>
   rw[hb2]at H;cases hR:Qh d R with
   |false=>simp_all
   |true=>
   rw[hR]at H;simp only[zK]at H;split at H
   ·rename_i r Y;split at H
    ·rename_i ys A;obtain⟨j,N,g1⟩:=Inv.frzL (C:=C) (γ:=γ) (kW (uU ps)) I;have L:∀x av,ρ x=Td av->DenV j av (σ x):=λx av hx=>(hρ x av hx).gx g1 rfl;obtain⟨ws,e1,T⟩:=vH Y (Jr j m) (wA L F);obtain⟨c1,c2,rfl,M,O,U⟩:=Gw N.fz A T;cases c2 with
     |cons _ _=>exact U.elim
     |nil=>
     rw[zbs]at *;have D:=za4 hz;have k:0<j4 P el:=by simpa[zfc]using hb2
     have ab:n*j4 P el<=16777216:=zc0 hb1;have hn:n<=n*j4 P el:=Nat.le_mul_of_pos_right _ k;have ac:c1.length=n*j4 P el:=by rw[M.1,O,D]
     intro B e;refine .inl ⟨.slice (Td ⟨h.size,0,Te⟩) n n,e,h.push (.cells c1.toArray el),?_,_,_,_,jN j d ⟨Td ⟨h.size,0,Te⟩,n,n⟩,H,?_,?_,?_⟩;have w:=QExec.underlying (h:=h) Z B e;have hs:=QExec.sizeOf (P:=P) (h:=h) (wb G).choose_spec B e;have S:(parts.map λx=>(x.1,σ x.2)).toList=parts.toList.map λx=>(x.1,σ x.2):=by rw[Array.toList_map]
     have Q:Instr.fill (λi=>Td (i*j4 P el,j4 P el)) m.toArray (parts.map λx=>(x.1,σ x.2)).toList=Td c1.toArray:=by rw[S];exact e1
     simp only[execOp,V];refine jF ?_;unfold Instr.buildSlice;rw[Sem.run_bind,w];simp only[Result.andThen_ok];rw[Sem.run_bind,hs];simp only[Result.andThen_ok];rw[zv (by omega)];unfold IM at c;by_cases f:n*j4 P el=0;rw[zA f];rw[f]at c ⊢;simp at c;subst c;simp only[Sem.run_bind,Sem.run_pure,Result.andThen_ok];have l:Array.map (λx=>(#[]:Array Value)[x % (#[]:Array Value).size]!) (Array.range 0)=([]:List Value).toArray:=by simp
     rw[l,Q];rfl;rw[zv f];have u:Nat.beq (n*j4 P el) 0=Tc:=by
      cases hh:Nat.beq (n*j4 P el) 0 with
      |false=>rfl
      |true=>simp_all
     rw[u]at c;simp only[zL]at c;split at c;rename_i z J;have E:=AH J h B e;simp only[zad]at c;rw[Sem.run_bind,E];simp only[Result.andThen_ok,Sem.run_bind,Sem.run_pure];have l:Array.map (λx=>z.cells[x % z.cells.size]!) (Array.range (n*j4 P el))=m.toArray:=by rw[<-c]
     rw[l,Q];rfl;cases c;simp only[DenV,DenG,DenA,yd];rfl;refine N.newRow hR (by simp) (p:=Te) (λi hi _=>by grind) (λb u=>by cases u) (cells:=c1) ⟨by grind,.inr ⟨h.size,n,c1.toArray,rfl,I.size,yc _ _,zac _,by unfold maxLen;omega,by simp_all,?_⟩⟩ (λq w=>.inr (by cases w;rfl)) M (by omega) O.symm;grind;exact⟨g1.1,λi hi=>⟨((Qi j d _).2 i hi).1.trans (g1.2 i (by simp)).1,((Qi j d _).2 i hi).2.trans (g1.2 i (by simp)).2⟩⟩
    exact H.elim
   exact H.elim
  exact H.elim
 exact H.elim
theorem Yg{n sz:Nat}{s:Sl}{cells:List Value}(k:Arr n h s.a cells)(f:cells.length=s.len*sz)(c:0<sz)(B:World)(d:Nat):
  (zc3 sz s.len (.slice s.a s.len s.cap)).run P (mk B d h)=.ok cells.toArray (mk B d h):=by
 rcases k with rfl|⟨b,o,e,_,l⟩;have h0:s.len=0:=by rcases zef s.len with h0|h0;exact h0;have:=Nat.mul_pos h0 c;grind
 rw[h0];cases s.a with
 |none=>simp[zc3]
 |some p=>simp[zc3,loadCells,loadCellsFrom]
 rw[e];exact run_firstCells_some (mk B d h) sz s.len ⟨b,o,Te⟩ s.len s.cap cells f λj u i=>by rw[zf];exact l j u i
theorem wF{n sz:Nat}{s:Sl}{cells:List Value}(e:Arr n h s.a cells)(c:cells.length=s.len*sz)(b:0<sz)(h1:∀u∈cells,u.oneCell'=Ta){tx f:TypeId}(i:P.underlying tx=Td (.slice f))(B:World)(d:Nat):
  Src P sz tx (aK s) s.len cells (mk B d h):=
 ⟨.inl ⟨f,i⟩,λ_=>rfl,Yg e c b B d,Yg e c b B (d+1),c,h1⟩
theorem F3{g o:Nat}{b:Array Value}{T:TypeId}(c:h[g]?=Td (.cells b T (0,0))){vs:List Value}(k:o+vs.length<=b.size)(h1:∀u∈vs,u.oneCell'=Ta)(B:World)(d:Nat):
  ∃h',(storeCells ⟨g,o,Te⟩ vs 0).run P (mk B d h)=.ok () (mk B d h')/\h'[g]?=Td (.cells (b.toList.take o++vs++b.toList.drop (o+vs.length)).toArray T (0,0))/\h'.size=h.size/\∀j,j≠g->h'[j]?=h[j]?:=by
 obtain⟨h',l,e,i,f⟩:=Z5 (P:=P) B d vs (o+0) h b c (by omega) h1;grind [Ax]
theorem A6{sz bytes:Nat}(T:ElemT P t e z sz bytes){base:Nat}{s:Sl}(j:xs.length=s.len*sz)(k:∀B d,(zc3 sz s.len (aK s)).run P (mk B d h)=.ok xs.toArray (mk B d h))(A:∀B d,Src P sz tx x m news (mk B d h))(b:(s.len+m)*bytes<=140737488355328)(w:s.len+m<=140737488355328)(q:base<=h.size)(C:s.cap<s.len+m)(B:World)(d:Nat):
  ∃c blk,(zao #[t,tx] ty #[aK s,x]).run P (mk B d h)=.ok (.slice (Td ⟨h.size,0,Te⟩) (s.len+m) c) (mk B (d+1) (h.push (.cells blk e)))/\s.len+m<=c/\c<=maxLen/\blk.size=c*sz/\blk.toList.take ((s.len+m)*sz)=xs++news:=by
 obtain⟨i,hi,hz,r,n⟩:=T.info;subst r;subst n;have u:=A B d;have f:=u.newsLen;have y:=run_append_grow_src (P:=P) (mk B d h) t tx ty e i z T.slice hi hz s.a s.len s.cap xs (k B (d+1)) x m news u C (by omega) (growslice_fits (by omega) b);have l:=grownCap_ge (mk B d h) (s.len+m) s.cap e;have o:=grownCap_le_maxLen (mk B d h) (s.len+m) s.cap e (by unfold maxLen;omega);generalize grownCap (mk B d h) (s.len+m) s.cap e=c at *;refine⟨c,_,y,l,o,?_,?_⟩;simp only[Array.size_append,zeo,size_zeroCells,zah,T.zero,j,f,<-zcs];grind;simp only[Array.toList_append];have:(xs++news).length=(s.len+m)*i.size:=by rw[zah,j,f,zcs]
 grind
theorem Yh{sz bytes:Nat}(T:ElemT P t e z sz bytes){h h':zc}{s:Sl}{B:World}(c:Src P sz tx x m news (mk B d h))(b:s.len+m<=s.cap)
  (j:∀p,s.a=Td p->(storeCells (p.add (s.len*sz)) news 0).run P (mk B d h)=.ok () (mk B d h')) (f:s.a=Te->h'=h):(zao #[t,tx] ty #[aK s,x]).run P (mk B d h)=.ok (.slice s.a (s.len+m) s.cap) (mk B d h'):=by
 obtain⟨i,hi,hz,n,o⟩:=T.info;subst n;have l:=T.slice;unfold aK;rcases c.kind with⟨q,k⟩|k;cases ha:s.a with
 |none=>rw[f ha];simp[zao,run_underlying l,run_underlying k,sizeOf,typeInfo,hi,c.len,b,c.cells]
 |some p=>simp[zao,run_underlying l,run_underlying k,sizeOf,typeInfo,hi,c.len,b,c.cells,j p ha]
 cases ha:s.a with
 |none=>rw[f ha];simp[zao,run_underlying l,run_underlying k,sizeOf,typeInfo,hi,c.len,b,c.cells]
 |some p=>simp[zao,run_underlying l,run_underlying k,sizeOf,typeInfo,hi,c.len,b,c.cells,j p ha]
theorem vf{sz bytes:Nat}(T:ElemT P t e z sz bytes){base:Nat}{s:Sl}(H:Owns h base e sz s xs)(V:∀B d,Src P sz tx x m news (mk B d h)) (k:(s.len+m)*bytes<=140737488355328) (r:s.len+m<=140737488355328) (f:base<=h.size) {K:Value->zc->Prop} (I:∀(C:Sl) (h':zc),C.len=s.len+m->Owns h' base e sz C (xs++news)->(∀i,i<h.size->(∀p,s.a=Td p->i≠p.block)->h'[i]?=h[i]?)->h.size<=h'.size->(∀q,C.a=Td q->(∃p,s.a=Td p/\q.block=p.block)\/q.block=h.size)->K (aK C) h'):
  qu P (zao #[t,tx] ty #[aK s,x]) h K:=by
 intro B d;have D:=V B d;have w:=D.newsLen;have l:=H.1;have u:=H.arr;by_cases b:s.len+m<=s.cap;rcases H.2 with⟨A,aa⟩|⟨g,cap,J,A,M,hg,ab,F,O,n⟩;simp only[zbo]at A;obtain⟨Z,e2,e3⟩:=A;have hm:m=0:=by omega
 subst hm;have Y:news=[]:=zbb (by simpa using w);subst Y;have y:=Yh (P:=P) (ty:=ty) T (s:=s) (h':=h) D b (λp hp=>by simp_all) (λ_=>rfl);refine⟨_,d,h,y,I ⟨s.a,s.len+0,s.cap⟩ h rfl ?_ (λ_ _ _=>rfl) (zac _) (λq j=>by simp_all)⟩;simp;omega;simp only[zbo]at A;obtain⟨Z,_,e3⟩:=A;have G:h[g]?=Td (.cells J e (0,0)):=hg;have Q:(s.len+m)*sz<=cap*sz:=za8 _ (by omega);rw[zcs]at Q;obtain⟨h',r1,r2,r3,r4⟩:=F3 (P:=P) G (o:=s.len*sz) (vs:=news) (by rw[O];omega) D.one B d;have y:=Yh (P:=P) (ty:=ty) T (s:=s) (h':=h') D b (λp hp=>by simp_all[zf,zas]) (λY=>by simp_all);refine⟨_,d,h',y,I ⟨s.a,s.len+m,s.cap⟩ h' rfl ⟨?_,.inr ⟨g,cap,_,?_,M,r2,(by simp_all),F,?_,?_⟩⟩ (λi hi E=>r4 i λe'=>E _ Z e') (by omega) (λq j=>.inl ⟨q,j,rfl⟩)⟩;grind;grind;grind;simp only;rw[n];have:(xs++news).length=(s.len+m)*sz:=by rw[zah,l,w,zcs]
 grind;obtain⟨c,blk,y,U,N,S,L⟩:=A6 (P:=P) (ty:=ty) (base:=base) T l (λB d=>Yg u l T.pos B d) V k r f (by omega) B d;refine⟨_,d+1,_,y,I ⟨Td ⟨h.size,0,Te⟩,s.len+m,c⟩ _ rfl ⟨?_,.inr ⟨h.size,c,blk,rfl,f,yc _ _,U,N,S,L⟩⟩ (λi hi _=>by grind) (by simp) (λq j=>.inr (by cases j;rfl))⟩;grind
def mb(s:Bt):List Int:=s.data.toList.map λb=>(b.toNat:Int)
def Hw:(ty:Ty)->Bt->Option (List (El ty))
 |.int .u8,s=>Td (mb s)
 |_,_=>Te
def yS(P:Program)(cs:CS)(tx:TypeId)(ty:Ty):AV->Option (List (El ty))
 |.g (.a (.v (.string s)))=>match P.underlying tx with
  |some .string=>Hw ty s
  |_=>Te
 |.g (.a (.v (.slice Te 0 0)))=>match P.underlying tx with
  |some (.slice _)=>Td []
  |_=>Te
 |.g (.a aa)=>match P.underlying tx with
  |some (.slice _)=>match rowOf cs aa with
   |some r=>Ys (.row r.1) (.row ty) r.2
   |none=>match aa with
    |.own c=>match Jn cs c with
     |some (.row _ t xs)=>Ys (.row t) (.row ty) xs
     |_=>Te
    |_=>Te
  |_=>Te
 |_=>Te
theorem RowC.bytes(M:Fr)(s:Bt):RowC M (.int .u8) (mb s) (byteCells s):=by
 have c:(byteCells s).length=(mb s).length:=by unfold byteCells mb;simp
 refine⟨by rw[c];simp[sz],λi hi=>?_⟩;have b:i<(byteCells s).length:=by rw[c];exact hi
 have e:(byteCells s)[i]=.int .u8 (mb s)[i]:=by simp only[byteCells,mb,zb3]
 have f:((byteCells s).drop (i*1)).take 1=[(byteCells s)[i]]:=by rw[zbm,zbt b];rfl
 show((byteCells s).drop (i*1)).take 1=[.int .u8 (mb s)[i]];rw[f,e]
theorem Js{t t':Ty}{xs:List (El t)}{ys:List (El t')}(h:Ys (.row t) (.row t') xs=Td ys):∃e:t=t',ys=e ▸ xs:=by unfold Ys at h;grind
theorem S4{cs:CS}(I:Inv h0 W M0 cs γ h){ty:Ty}{av:AV}{ys:List (El ty)}(b:yS P cs tx ty av=Td ys)(m:0<sz ty)(o:DenV γ av u):
  ∃news,RowC γ.M ty ys news/\∀B d,Src P (sz ty) tx u ys.length news (mk B d h):=by
 have row:∀{t:Ty} {xs:List (El t)} {n:Nat} {s:Sl} {cells:List Value} {q:TypeId},Ys (.row t) (.row ty) xs=Td ys->P.underlying tx=Td (.slice q)->u=aK s->s.len=xs.length->RowC γ.M t xs cells->Arr n h s.a cells ->
   ∃news,RowC γ.M ty ys news/\∀B d,Src P (sz ty) tx u ys.length news (mk B d h):=by
  intro t xs n s cells q w i e k l C;obtain⟨A,x⟩:=Js w;subst A;simp only at x;subst x;refine⟨cells,l,λB d=>?_⟩;rw[e,<-k];exact wF C (by rw[k];exact l.1) m l.one i B d
 unfold yS at b;split at b
 ·rename_i s;split at b
  ·rename_i i;unfold Hw at b;split at b;case h_2=>cases b
   simp only[zad]at b;subst b;refine⟨byteCells s,RowC.bytes _ s,λB d=>?_⟩;rw[show u=.string s from o];have:=Src.ofString (P:=P) (mk B d h) i s;have e:(mb s).length=s.size:=by unfold mb;rw[zap,Array.length_toList];rfl
   rw[e];exact this
  cases b
 split at b;rename_i q i;simp only[zad]at b;subst b;refine⟨[],RowC.nil _ _,λB d=>?_⟩;rw[show u=.slice Te 0 0 from o];exact Src.ofNil (mk B d h) i 0;cases b;rename_i D _ _;split at b;rename_i q i;split at b;rename_i r l;obtain⟨s,e,k,z,cells,f,y⟩:=(rV I l o).rowC I.ag;grind;split at b;rename_i c _ _ _;split at b;rename_i e t xs w;obtain⟨cells,j,f,z,k⟩:=I.den _ (qi w);exact row b i (show u=aK _ from o) k f j.arr;cases b;cases b;cases b;cases b
def wU(P:Program)(el:TypeId)(ty:Ty):Option Nat:=match P.info? el with
 |some i=>match i.zero with
  |some z=>bif (bif Nat.beq i.size (sz ty)then(bif Nat.beq z.cells.size i.size then(bif Nat.blt 0 i.size then Nat.blt 0 i.bytes else Tc)else Tc)else Tc)then Td i.bytes else Te
  |none=>Te
 |none=>Te
theorem Uv{t el:TypeId}{ty:Ty}(e:P.underlying t=Td (.slice el))(h:wU P el ty=Td b):(∃z,ElemT P t el z (sz ty) b)/\0<b:=by
 unfold wU at h;split at h
 ·rename_i i hi;split at h
  ·rename_i z hz;cases h1:Nat.beq i.size (sz ty)with
   |false=>simp_all
   |true=>
   cases h2:Nat.beq z.cells.size i.size with
   |false=>simp_all
   |true=>
   cases h3:Nat.blt 0 i.size with
   |false=>simp_all
   |true=>
   cases h4:Nat.blt 0 i.bytes with
   |false=>simp_all
   |true=>
   rw[h1,h2,h3,h4]at h;simp only[zK,zad]at h;have c:=za4 h1;have f:=za4 h2;have j:0<i.size:=by simpa[zfc]using h3
   have k:0<i.bytes:=by simpa[zfc]using h4
   exact⟨⟨z,e,⟨i,hi,hz,c,h⟩,by rw[f,c],by omega⟩,by omega⟩
  cases h
 cases h
def A4(P:Program)(tr:TypeId)(t tx:TypeId)(bv f:AV)(d:Nat)(C R:CS)(K:AV->CS->Option Nat->Prop):Prop:=
 match pf P t with
 |some el=>match sR P tr 8 el with
  |some ty=>match wU P el ty,yS P (C++R) tx ty f with
   |some b,some ys=>match bv with
    |.g (.a (.v (.slice Te 0 0)))=>bif Qh d R then(ys.length*b<=140737488355328/\K (.g (.a (.own d))) ((d,.row el ty ys)::y5 d C) (Td d))else False
    |.g (.a (.own c))=>match Jn C c with
     |some (.row e t' xs)=>match Ys (.row t') (.row ty) xs with
      |some xs=>bif Nat.beq e el then(bif Qh d R then((xs.length+ys.length)*b<=140737488355328/\K (.g (.a (.own d))) ((d,.row el ty (xs++ys))::y5 d (iM c C)) (Td d))else False)else False
      |none=>False
     |_=>False
    |.g (.a (.dc t' xs))=>match Ys (.row t') (.row ty) xs with
     |some xs=>(xs.length+ys.length)*b<=140737488355328/\K (.g (.a (.d (.row ty) (xs++ys)))) C Te
     |none=>False
    |_=>False
   |_,_=>False
  |none=>False
 |none=>False
theorem yA{n b k:Nat}(c:0<b)(h:n*b<=k):n<=k:=zch (Nat.le_mul_of_pos_right _ c) h
theorem Pv{tr t tx ty':TypeId}{bv sv:AV}{K:AV->CS->Option Nat->Prop}(H:A4 P tr t tx bv sv d C R K)(I:Inv h0 W M0 (C++R) γ h)
  {u v:Value} (Q:DenV γ bv u) (ar:DenV γ sv v):qu P (zao #[t,tx] ty' #[u,v]) h (jZ h0 W M0 R γ K):=by
 unfold A4 at H;split at H
 ·rename_i el ak;obtain⟨hu,aA⟩:=ul ak;split at H
  ·rename_i ty az;split at H
   ·rename_i b ys n al;obtain⟨⟨z,T⟩,E⟩:=Uv hu n;obtain⟨news,r,A⟩:=S4 I al T.pos ar;split at H
    ·cases hR:Qh d R with
     |false=>rw[hR]at H;exact H.elim
     |true=>
     rw[hR]at H;obtain⟨D,U⟩:=H;rw[show u=aK ⟨Te,0,0⟩from Q];have J:=yA E D;refine vf T (Owns.nil h h0.size el (sz ty)) A (by simpa using D) (by simpa using J) I.size λs' h' hl w hk hs L=>?_;rw[zck]at w;simp only[zas]at hl;refine⟨_,_,_,jN γ d s',U,?_,I.newRow hR hs (p:=Te) (λi hi _=>hk i hi (by simp)) (λb n=>by cases n) w (λq hq=>?_) r J hl,Qi _ _ _⟩;simp only[DenV,DenG,DenA,yd];simp_all
    ·rename_i c;split at H
     ·rename_i e t' au hc;split at H
      ·rename_i xs k;cases hee:Nat.beq e el with
       |false=>rw[hee]at H;exact H.elim
       |true=>
       rw[hee]at H;cases hR:Qh d R with
       |false=>rw[hR]at H;exact H.elim
       |true=>
       rw[hR]at H;obtain⟨D,U⟩:=H;have J:=yA E D;have F:=qi hc;obtain⟨e1,e2⟩:=Js k;subst e1;simp only at e2;subst e2;have e3:=za4 hee;subst e3;have ab:=I.den _ (zau R F);obtain⟨cells,l,f,ah,G⟩:=ab;simp only at l f G;rw[show u=aK (γ.σ c)from Q];refine vf T l A (by grind) (by omega) I.size λs' h' hl w hk hs L=>?_;have Y:=I.sep _ (zau R F);have ay:=wx hR;have am:Inv h0 W M0 (iM c C++R) γ h:=I.sub ((Zd c C).append_right R);refine⟨_,_,_,jN γ d s',U,?_,am.newRow hR hs (p:=(γ.σ c).a.map (·.block)) (λi hi O=>hk i hi λp L e=>O (by rw[L,e];rfl)) (λb n=>?_) w (λq hq=>?_) (f.append r) (by simp_all) (by simp_all),Qi _ _ _⟩;simp only[DenV,DenG,DenA,yd];obtain⟨h1,h2⟩:=Y b n;refine⟨?_,h2,λx Z af=>?_⟩;simp only[zc6]at n;obtain⟨p,L,rfl⟩:=n;exact(l.base_le p L).1;have ai:x∈C++R:=((Zd c C).append_right R).subset Z;have O:x≠(c,Ch.row e t' xs):=by rintro rfl;rcases zaj.1 Z with Z|Z;exact(Y0 Z).2 rfl;have aF:=I.apart;grind
       have L:=@sB _ (λ(x y:Nat×Ch)=>∀b,blk γ x.1 x.2=Td b->blk γ y.1 y.2≠Td b) (λx y h b n aa=>h b aa n) _ I.apart;exact L ai (zau R F) O b af n;grind
      exact H.elim
     exact H.elim
    rename_i t' au;split at H;rename_i xs k;obtain⟨D,U⟩:=H;have J:=yA E D;obtain⟨e1,e2⟩:=Js k;subst e1;simp only at e2;subst e2;obtain⟨s,e,aG,ac⟩:=(show ∃s:Sl,u=aK s/\s.cap=s.len/\Rd γ.M (.row t') xs [u]from Q);subst e;obtain⟨s2,e,G,ah,cells,f,V⟩:=ac.rowC I.ag;have e':s=s2:=by cases s;cases s2;simp only[aK,zbo]at e;simp[e]
    subst e';have N:cells.length=s.len*sz t':=by rw[G];exact f.1
    intro B dr;by_cases hm:ys.length=0;have an:ys=[]:=zbb hm;subst an;have ax:news=[]:=zbb (by rw[r.1];simp);subst ax;have hr:=Yh (P:=P) (ty:=ty') T (s:=s) (h':=h) (A B dr) (by simp;omega) (λp L=>by simp[storeCells]) (λ_=>rfl);refine⟨_,dr,h,hr,_,C,Te,γ,U,?_,I,Gx.refl _ _⟩;rw[zbs];exact ac;obtain⟨c,j,hr,aH,aD,aE,aC⟩:=A6 (P:=P) (ty:=ty') (base:=0) T N (λB d=>Yg V N T.pos B d) A (by grind) (by omega) (za0 _) (by omega) B dr;have aB:γ.M h.size=Te:=I.ag.none (zac _);have hM:Fr.le γ.M (jn γ h.size j).M:=by
     intro b cc S;have:Nat.beq b h.size=Tc:=by
      cases n:Nat.beq b h.size with
      |false=>rfl
      |true=>simp_all
     simp[jn,this,S]
    have aj:AgM (jn γ h.size j).M (h.push (.cells j el)):=by
     intro b cc S;by_cases n:b=h.size;subst n;have:cc=j:=by simp[jn]at S;exact S.symm
     simp_all;have:Nat.beq b h.size=Tc:=by
      cases aa:Nat.beq b h.size with
      |false=>rfl
      |true=>simp_all
     simp only[jn,this,zL]at S;obtain⟨T',m,e'⟩:=I.ag b cc S;grind
    refine⟨_,dr+1,_,hr,_,C,Te,jn γ h.size j,U,?_,I.call (Keep.push h _ (zac _)) hM (λb n=>?_) aj,⟨hM,λ_ _=>⟨rfl,rfl⟩⟩⟩;have ae:=((f.append r).mono hM).rd (b:=h.size) (o:=0) (c:=c) (cs:=j) (by simp[jn]) (by simp_all) (by simp_all);rw[zah,<-G]at ae;exact ae;grind [za4];exact H.elim;exact H.elim
   exact H.elim
  exact H.elim
 exact H.elim
end
section
variable {cs C R:CS} {γ b:Gh} {h:zc} {u:Value} {P:Program} {o:Oper} {σ:Operand -> Value} {n:Nat} {gl:Fr} {tr:TypeId} {c:qw} {a:Act} {S:List Nat}
variable {h0 : zc} {W : Nat -> Prop} {M0 : Fr}
def tO(b:List Int):Bt:=b.foldl (λr n=>r.push (zc7 n.toNat)) ByteArray.empty
def Rb(t:Ty)(xs:List (El t)):Option (List Int):=Ys (.row t) (.row (.int .u8)) xs
def uV(cs:CS):AA->Option ((t:Ty)×List (El t))
 |.own c=>match Jn cs c with
  |some (.row _ t xs)=>Td ⟨t,xs⟩
  |some (.fz t xs)=>Td ⟨t,xs⟩
  |_=>Te
 |aa=>rowOf cs aa
theorem IN(I:Inv h0 W M0 cs γ h){n:AA}{r:(t:Ty)×List (El t)}(b:uV cs n=Td r)(j:DenA γ n u):
  ∃s:Sl,u=aK s/\s.len=r.2.length/\∃cells,RowC γ.M r.1 r.2 cells/\Arr h.size h s.a cells:=by
 unfold uV at b;split at b;split at b;rename_i c e t xs l;simp only[zad]at b;subst b;obtain⟨cells,f,i,m,k⟩:=I.den _ (qi l);exact⟨_,j,k,cells,i,f.arr⟩;rename_i c t xs l;simp only[zad]at b;subst b;have:Rd γ.M (.row t) xs [u]:=by rw[show u=_ from j];exact I.den _ (qi l)
 obtain⟨s,e,k,m,cells,h1,o⟩:=this.rowC I.ag;grind;cases b;obtain⟨s,e,k,m,cells,h1,o⟩:=(rV I b j).rowC I.ag;grind
def yL(P:Program)(s t:TypeId)(av:AV)(cs:CS)(K:AV->Prop):Prop:=
 match P.underlying s,P.underlying t with
 |some (.slice e),Td .string=>match P.underlying e,av with
  |some (.int .u8),.g (.a aa)=>match uV cs aa with
   |some r=>match Rb r.1 r.2 with
    |some b=>K (.g (.a (.v (.string (tO b)))))
    |none=>False
   |none=>False
  |_,_=>False
 |some (.int _),Td .string=>match av with
  |.g (.a (.v (.int _ n)))=>K (.g (.a (.v (.string (zfg n)))))
  |_=>False
 |_,_=>False
theorem Rm{M:Fr}{k:IntKind}:∀{b:List Int} {cells:List Value},RowC M (.int k) b cells->cells=b.map (zcn k)
 |b,cells,H=>by
  apply zbd;intro i;have f:cells.length=b.length:=by rw[H.1];simp[sz]
  rw[zcc];by_cases hi:i<b.length;have:((cells.drop (i*1)).take 1)=[.int k b[i]]:=H.2 i hi;have e:cells[i]?=Td (.int k b[i]):=by
   have c:((cells.drop (i*1)).take 1)[0]?=Td (.int k b[i]):=by rw[this];rfl
   rw[zbk,zA (by omega),zb6]at c;simpa using c
  simp_all;simp_all
theorem T8{s t:TypeId}{x:Operand}(N:o.op=.convert s t x){av:AV}{K:AV->Prop}(H:yL P s t av cs K)(I:Inv h0 W M0 cs γ h)(G:DenV γ av (σ x)):
  ∃l v,K l/\DenV γ l v/\QExec P (execOp σ o) h (.value v):=by
 have val:∀{v:Value},QExec P (convert s t (σ x)) h v->QExec P (execOp σ o) h (.value v):=λS=>by simp only[execOp,N];exact QExec.val S
 unfold yL at H;split at H;rename_i e C u;split at H;rename_i V O;split at H;rename_i r T;split at H;rename_i i A;refine⟨_,.string (tO i),H,rfl,val λB d=>?_⟩;obtain⟨sl,F,m,cells,f,j⟩:=IN I T G;obtain⟨tt,xs⟩:=r;obtain⟨E,L⟩:=Js A;simp only at E;subst E;simp only at L m f;subst L;have Q:=Rm f;subst Q;have h1:=QExec.underlying (h:=h) C B d;have q:=QExec.underlying (h:=h) u B d;have U:=QExec.underlying (h:=h) O B d;have c:(Conv.bytesToString (σ x)).run P (mk B d h)=.ok (.string (tO i)) (mk B d h):=by
  rw[F];unfold aK;rcases j with y|⟨b,J,w,_,z⟩;have D:i=[]:=by simpa using y
  subst D;simp only[zb5]at m;cases ha:sl.a with
  |none=>simp[Conv.bytesToString,tO]
  |some p=>have:=run_bytesToString (P:=P) (mk B d h) p sl.len sl.cap [] (by rw[m];simp[loadCells,loadCellsFrom]);exact this
  rw[w];refine run_bytesToString (mk B d h) ⟨b,J,Te⟩ sl.len sl.cap i ?_;have:=Yg (P:=P) (h:=h) (n:=b+1) (sz:=1) (s:=sl) (cells:=i.map (zcn .u8)) (.inr ⟨b,J,w,by omega,z⟩) (by rw[m];simp) (by omega) B d;rw[w]at this;simpa[zc3]using this
 unfold convert;rw[Sem.run_bind,h1];simp only[Result.andThen_ok];rw[Sem.run_bind,q];simp only[Result.andThen_ok];rw[F]at c ⊢;unfold aK at c ⊢;simp_all;exact H.elim;exact H.elim;exact H.elim;rename_i k C u;split at H;rename_i M n;refine⟨_,.string (zfg n),H,rfl,val λB d=>?_⟩;have h1:=QExec.underlying (h:=h) C B d;have q:=QExec.underlying (h:=h) u B d;have e:σ x=.int M n:=G;unfold convert;rw[Sem.run_bind,h1];simp only[Result.andThen_ok];rw[Sem.run_bind,q,e];rfl;exact H.elim;exact H.elim
def Fp:BinOp->Option Bool
 |.eql=>Td Ta
 |.neq=>Td Tc
 |_=>Te
def vQ(P:Program)(o:Oper)(ρ:Operand->Option AV)(cs:CS):Option (Bool×Nat):=match o.op with
 |.binOp b t x y _=>match Fp b,ρ x,ρ y with
  |some pol,Td (.g (.a aa)),Td (.g (.a (.v (.slice Te 0 0))))=>match uV cs aa,P.underlying t with
   |some ⟨ty,xs⟩,Td (.slice _)=>bif Nat.blt 0 (sz ty)then Td (pol,xs.length)else Te
   |_,_=>Te
  |_,_,_=>Te
 |_=>Te
theorem Nu(e:BinOp)(t:TypeId)(x y:Operand)(a b:Option Addr)(l c f h:Nat)(w:World):(eqGuard e t x y (.slice a l c) (.slice b f h)).run P w=.ok () w:=by unfold eqGuard;simp
theorem R7{ρ:Operand->Option AV}{i:Bool}(c:vQ P o ρ (C++R)=Td (i,n)){K:AV->CS->Option Nat->Prop}(H:∀b:Bool,(b=Ta->n=0)->K (.g (.a (.v (.bool (bif i then b else !b))))) C Te)
  (I:Inv h0 W M0 (C++R) γ h) (w:∀x av,ρ x=Td av->DenV γ av (σ x)):ExA P (execOp σ o) h (jZ h0 W M0 R γ K):=by
 unfold vQ at c;split at c
 ·rename_i M t x y O A;split at c
  ·rename_i r S f D J;split at c
   ·rename_i ty xs e L q;cases hz:Nat.blt 0 (sz ty)with
    |false=>rw[hz]at c;cases c
    |true=>
     rw[hz]at c;simp only[zK,zad,zci]at c;obtain⟨rfl,rfl⟩:=c;have N:0<sz ty:=by simpa[zfc]using hz
     obtain⟨s,E,Q,cells,l,j⟩:=IN I L (w _ _ D);have z:σ y=.slice Te 0 0:=w _ _ J;have k:s.a.isNone=Ta->xs.length=0:=by
      intro u;have m:cells=[]:=by rcases j with m|⟨b,o,F,_⟩;exact m;rw[F]at u;cases u
      have:=l.1;rw[m]at this;simp only[zb5]at this;rcases Nat.mul_eq_zero.1 this.symm with h1|h1;exact h1;omega
     have G:=H s.a.isNone k;intro B d;refine .inl ⟨_,d,h,?_,_,C,Te,γ,G,rfl,I,Gx.refl _ _⟩;simp only[execOp,A];refine jF ?_;rw[E,z];simp only[aK];rw[Sem.run_bind,Nu];simp only[Result.andThen_ok];cases M <;> simp only[Fp,zad]at f <;> (try (cases f;done)) <;> subst f;simp only[binOp,Sem.run_bind,run_equal_slice_nil _ t _ _ _ _ q];rfl;simp only[binOp,Sem.run_bind,run_equal_slice_nil _ t _ _ _ _ q];rfl
   cases c
  cases c
 cases c
def oV(P:Program)(gl:Fr)(tr:TypeId)(o:Oper)(ρ:Operand->Option AV)(C R:CS)(K:AV->CS->Option Nat->Prop):Prop:=
 match o.op with
 |.alloc t=>match o.dst with
  |some d=>wG P t d C R K
  |none=>False
 |.box t x=>match o.dst,ρ x with
  |some d,some av=>match rh av with
   |some l=>Aq t d l C R K
   |none=>False
  |_,_=>False
 |.store t a x=>match ρ a,ρ x with
  |some (.g (.a aa)),some xv=>match rh xv with
   |some f=>xI P t aa f C R K
   |none=>False
  |_,_=>False
 |.buildSlice t n parts=>match o.dst,nZ ρ parts.toList with
  |some d,some ps=>vX P tr t n ps d C R K
  |_,_=>False
 |.convert s t x=>bif mL P o then qA P gl o ρ Te (C++R) (λav=>K av C Te)else(match ρ x with
  |some av=>yL P s t av (C++R) λb=>K b C Te
  |none=>False)
 |.call c=>match c.callee with
  |.builtin .append=>match c.args.toList,c.argTypes.toList,o.dst with
   |[s,x],[t,tx],some d=>match ρ s,ρ x with
    |some bv,some sv=>A4 P tr t tx bv sv d C R K
    |_,_=>False
   |_,_,_=>False
  |.builtin _=>qA P gl o ρ Te (C++R) λav=>K av C Te
  |_=>AQ P gl tr o ρ C R λav e=>K av e Te
 |.range t x=>match o.dst,ρ x with
  |some d,some av=>wC P t av d C R K
  |_,_=>False
 |.next x true=>match ρ x with
  |some av=>Bw av C R K
  |none=>False
 |_=>qA P gl o ρ Te (C++R) λav=>K av C Te
theorem toList_eq{α:Type}{x:Array α}{l:List α}(h:x.toList=l):x=l.toArray:=by grind
theorem Vp(j:Fr.le gl M0){ρ:Operand->Option AV}{K:AV->CS->Option Nat->Prop}(H:oV P gl tr o ρ C R K)(I:Inv h0 W M0 (C++R) γ h)
  (J:∀f,σ (.func f)=.func (.func f) #[] #[]) (b:∀x av,ρ x=Td av->DenV γ av (σ x)):ExA P (execOp σ o) h (jZ h0 W M0 R γ K):=by
 unfold oV at H;split at H;grind [MR];grind [Kg,xR];rename_i t a x m;split at H;rename_i S O L u;split at H;rename_i l D;exact Rl m H I (xR D (b _ _ u)) (b _ _ L);exact H.elim;exact H.elim;grind [Vo];rename_i s t x m;cases hq:mL P o with
 |true=>grind [Bc]
 |false=>rw[hq]at H;simp only[zL]at H;split at H;rename_i av q;obtain⟨w,v,h1,y,F⟩:=T8 m H I (b _ _ q);exact λB d=>.inl ⟨v,d,h,F B d,w,C,Te,γ,h1,y,I,Gx.refl _ _⟩;exact H.elim
 rename_i c m;split at H;rename_i M;split at H;rename_i s x t tx d i k N;split at H;rename_i bv Q G u;have n:=Pv (ty':=o.type) H I (b _ _ G) (b _ _ u);intro B e;obtain⟨v,E,h',r,A⟩:=n B e;refine .inl ⟨v,E,h',?_,A⟩;have z:execOp σ o=(zao c.argTypes o.type (c.args.map σ) >>= λx=>(zek (zep x):Sem Next)):=by simp only[execOp,m,resolve,M];rfl
 rw[z,toList_eq i,toList_eq k];simp_all;exact H.elim;exact H.elim;exact Bc j H I b;exact UG j H I J b;grind [Ts];grind [UX];exact Bc j H I b
def hA(P:Program)(gl:Fr)(tr:TypeId)(o:Oper)(ρ:Operand->Option AV)(C R:CS)(K:AV->CS->Option Nat->Prop):Prop:=match vQ P o ρ (C++R)with
 |some (pol,n)=>∀b:Bool,(b=Ta->n=0)->K (.g (.a (.v (.bool (bif pol then b else !b))))) C Te
 |none=>oV P gl tr o ρ C R K
theorem Pi(i:Fr.le gl M0){ρ:Operand->Option AV}{K:AV->CS->Option Nat->Prop}(H:hA P gl tr o ρ C R K)(I:Inv h0 W M0 (C++R) γ h)
  (j:∀f,σ (.func f)=.func (.func f) #[] #[]) (b:∀x av,ρ x=Td av->DenV γ av (σ x)):ExA P (execOp σ o) h (jZ h0 W M0 R γ K):=by
 unfold hA at H;split at H;rename_i c n e;exact R7 e H I b;grind [Vp]
def ug:Option AV->Option AV->Option AV
 |some v,_=>Td v
 |none,w=>w
def yB(b:Bool)(x y:AV):Option AV:=match pP x,pP y with
 |some u,some v=>Td (pC (sI b u v))
 |_,_=>match x,y with
  |.g (.a (.d t xs)),.g (.a (.d t' ys))=>match Ys t' t ys with
   |some ys=>Td (.g (.a (.d t (bif b then xs else ys))))
   |none=>Te
  |_,_=>Te
theorem Un{b:Bool}{x y z:AV}(h:yB b x y=Td z){u v:Value}(f:b=Ta->DenV γ x u)(c:b=Tc->DenV γ y v):DenV γ z (if b=Ta then u else v):=by
 unfold yB at h;split at h;rename_i p q i k;simp only[zad]at h;subst h;have e:(if b=Ta then u else v)=sI b p q:=by
  rw[Fw];cases b with
  |true=>simp only[if_true];exact yY i (f rfl)
  |false=>simp only[zcj,if_false];exact yY k (c rfl)
 rw[e];exact sE γ _;split at h;rename_i t xs t' ys _;split at h;rename_i j l;simp only[zad]at h;subst h;cases b with
 |true=>exact f rfl
 |false=>exact Wj l (c rfl)
 cases h;cases h
def vl(e:jq)(c:qw)(x a b:Operand)(K:AV->Prop):Prop:=
 match x with
 |.tmp s=>match mf e s with
  |some (cs,v)=>match pj v with
   |some t=>bif lm cs c then(match ug (jJ e c a) (jJ e ((s,Ta)::cs) a),ug (jJ e c b) (jJ e ((s,Tc)::cs) b)with
    |some va,some vb=>match yB t va vb with
     |some z=>K z
     |none=>False
    |_,_=>False)else False
   |none=>False
  |none=>False
 |_=>False
theorem xC{e:jq}{x a b:Operand}{K:AV->Prop}(H:vl e c x a b K):
  ∃z,K z/\∀(n:Nat) (γ:Gh) (f:Act),SatA n e γ f->valid (qk f) c->∃t,f.eval x=.bool t/\DenV γ z (if t=Ta then f.eval a else f.eval b):=by
 unfold vl at H;split at H;rename_i s;split at H;rename_i cs v q;split at H;rename_i t r;cases hsf:lm cs c with
 |false=>simp_all
 |true=>rw[hsf]at H;simp only[zK]at H;split at H;rename_i w y o i;split at H;rename_i z hz;refine⟨z,H,λn γ f j u=>?_⟩;have h:=Jf hsf u;have m:qk f s=.bool t:=zM r ((j.all _ (Z8 q)).1 h);refine⟨t,m,Un hz (λl=>?_) (λk=>?_)⟩;unfold ug at o;split at o;grind [zad,Zz];exact Zz j (c:=(s,Ta)::cs) ⟨by rw[m,l],h⟩ o;unfold ug at i;split at i;grind [zad,Zz];exact Zz j (c:=(s,Tc)::cs) ⟨by rw[m,k],h⟩ i;exact H.elim;exact H.elim
 exact H.elim;exact H.elim;exact H.elim
def pX(P:Program)(gl:Fr)(tr:TypeId)(o:Oper)(e:jq)(c:qw)(C R:CS)(K:AV->CS->Option Nat->Prop):Prop:=
 match o.op with
 |.pick x a b=>vl e c x a b λav=>K av C Te
 |_=>match oR e c with
  |some none=>hA P gl tr o (jJ e c) C R K
  |some (Td b)=>bif r8 o then BE P gl tr o (jJ e c) b (C++R) (λav=>K av C Te)else qA P gl o (jJ e c) (Td b) (C++R) (λav=>K av C Te)
  |none=>False
theorem XQ(j:Fr.le gl M0){e:jq}{K:AV->CS->Option Nat->Prop}(H:pX P gl tr o e c C R K)(k:SatA n e γ a)(I:Inv h0 W M0 (C++R) γ h)(l:valid (qk a) c):
  ExA P (execOp a.eval o) h (jZ h0 W M0 R γ K):=by
 have G:∀f,a.eval (.func f)=.func (.func f) #[] #[]:=λ_=>rfl;have q:∀x av,jJ e c x=Td av->DenV γ av (a.eval x):=λx av E=>Zz k l E;unfold pX at H;split at H;rename_i x y z w;obtain⟨av,h1,i⟩:=xC H;obtain⟨t,A,J⟩:=i n γ a k l;refine λB d=>.inl ⟨_,d,h,?_,av,C,Te,γ,h1,J,I,Gx.refl _ _⟩;simp only[execOp,w,A,asBool,Sem.run_bind,Sem.run_pure,Result.andThen_ok];split at H;grind [Pi];rename_i b D;have m:=Fc k D l;cases hic:r8 o with
 |true=>rw[hic]at H;simp only[zK]at H;obtain⟨f,args,h1,i⟩:=(Cn (h0:=h0) (W:=W) (M0:=M0) H).2 m j γ h a.eval I G q;refine λB d=>.inr (.inr ⟨f,args,h1 _,i.mono ?_⟩);rintro v h' ⟨av,γ',g1,g2,L,u,_⟩;exact⟨av,C,Te,γ',g1,g2,L,u⟩
 |false=>rw[hic]at H;simp only[zL]at H;obtain⟨av,h1,i⟩:=tu (h0:=h0) (W:=W) (M0:=M0) j H;obtain⟨v,r,F⟩:=i m γ h a.eval I q;exact λB d=>.inl ⟨v,d,h,F B d,av,C,Te,γ,h1,r,I,Gx.refl _ _⟩
 exact H.elim
theorem OZ{e:jq}{K:AV->CS->Option Nat->Prop}(H:pX P gl tr o e c C R K)(j:SatA n e γ a)(h:¬valid (qk a) c):∃av,K av C Te:=by
 unfold pX at H;split at H;grind [xC];split at H;grind [IV];rename_i b i;have f:=IV j i h;simp only[zad]at f;cases hic:r8 o with
 |true=>rw[hic]at H;simp only[zK]at H;exact(Cn (h0:=#[]) (W:=λ_=>False) (M0:=λ_=>Te) H).1 f
 |false=>rw[hic]at H;simp only[zL]at H;obtain⟨av,h1,_⟩:=tu (h0:=#[]) (W:=λ_=>False) (M0:=gl) (Fr.le.refl _) H;grind
 exact H.elim
def GxS(S:List Nat)(γ γ':Gh):Prop:=Fr.le γ.M γ'.M/\∀i,i∉S->γ'.β i=γ.β i/\γ'.σ i=γ.σ i
theorem GxS.refl(S:List Nat)(γ:Gh):GxS S γ γ:=⟨Fr.le.refl _,λ_ _=>⟨rfl,rfl⟩⟩
theorem GxS.trans{a b c:Gh}(h:GxS S a b)(k:GxS S b c):GxS S a c:=⟨h.1.trans k.1,λi hi=>⟨(k.2 i hi).1.trans (h.2 i hi).1,(k.2 i hi).2.trans (h.2 i hi).2⟩⟩
theorem GxS.mono{S c:List Nat}{a b:Gh}(h:GxS S a b)(f:∀x∈S,x∈c):GxS c a b:=⟨h.1,λi hi=>h.2 i λe=>hi (f i e)⟩
def vw(c:Option Nat)(d:Option Nat):Bool:=match c,d with
 |none,_=>Ta
 |some x,some y=>Nat.beq x y
 |some _,none=>Tc
theorem Gx.toS{c d:Option Nat}{γ γ':Gh}(g:Gx c γ γ')(h:vw c d=Ta)(b:∀i,d=Td i->i∈S):GxS S γ γ':=by
 refine⟨g.1,λi hi=>g.2 i λe=>?_⟩;subst e;cases d with
 |none=>cases h
 |some y=>have:i=y:=za4 h;simp_all
def oU(P:Program)(gl:Fr)(tr:TypeId)(n:Nat)(ops:Array Oper)(R:CS)(K:jq->CS->Prop):List Oper->jq->CS->Prop
 |[],e,C=>K (mZ e) C
 |o::rest,e,C=>match rK ops e o.guard with
  |some c=>bif xj n c o.dst then pX P gl tr o e c C R (λav b i=>bif vw i o.dst then oU P gl tr n ops R K rest (tP (uW i e) o.dst c av) b else False)else False
  |none=>False
theorem v9{P:Program}{gl:Fr}(t:Fr.le gl M0){tr:TypeId}{n:Nat}{ops:Array Oper}{R:CS}{K:jq->CS->Prop}{Q:Exit->Act->World->Prop}(B:World):
  ∀(l:List Oper) (e:jq) (C:CS) (γ:Gh) (h:zc) (a:Act) (d:Nat),oU P gl tr n ops R K l e C->SatA n e γ a->Inv h0 W M0 (C++R) γ h -> (∀w j γ' k m h',SatA n w γ' k->Inv h0 W M0 (j++R) γ' h'->Same (xy l) a k->GxS (xy l) γ γ'->K w j->Q .normal k (mk B m h'))->wpList P ops Q l a (mk B d h)
 |[],e,C,γ,h,a,d,H,hs,I,hQ=>hQ _ _ _ _ _ _ hs.clean I (Same.refl _ _) (GxS.refl _ _) H
 |o::rest,e,C,γ,h,a,d,H,hs,I,hQ=>by
  unfold oU at H;split at H
  ·rename_i c U;cases hd:xj n c o.dst with
   |false=>simp_all
   |true=>
    rw[hd]at H;simp only[zK]at H;have E:=Ex hs U;have f:∀i,o.dst=Td i->i∈xy (o::rest):=λi hi=>by simp[xy,hi]
    have b:∀x∈xy rest,x∈xy (o::rest):=λx G=>by unfold xy;grind
    have r:∀av u m h' j i γ',(valid (qk a) c->DenV γ' av u)->(¬valid (qk a) c->u=undef)->Inv h0 W M0 (j++R) γ' h'->Gx i γ γ'->(bif vw i o.dst then oU P gl tr n ops R K rest (tP (uW i e) o.dst c av) j else False) ->
      wpList P ops Q rest (a.put o.dst u) (mk B m h'):=λav u m h' j i γ' h1 J M g F=>by
     cases hid:vw i o.dst with
     |false=>simp_all
     |true=>
      rw[hid]at F;exact v9 t B rest _ _ _ _ _ _ F ((hs.gx g).putO hd h1 J) M λw y D k A h'' L V O T S=>
       hQ w y D k A h'' L V ((Same.put a o.dst u f).trans (O.mono b)) ((g.toS hid f).trans (T.mono b)) S
    unfold wpList;by_cases q:valid (qk a) c;rw[zA (E.2 q)];refine .inl ((XQ t H hs I q).upon B d ?_);rintro v m h' ⟨av,j,i,γ',g1,g2,Y,Z⟩;grind;rw[zv (λG=>q (E.1 G))];obtain⟨av,N⟩:=OZ H hs q;exact r av undef d h C Te γ (λz=>absurd z q) (λ_=>rfl) I (Gx.refl _ _) N
  exact H.elim
end
section
variable {cs C R:CS} {γ:Gh} {h:zc} {i:Nat} {e:TypeId} {t:Ty}
variable {h0 : zc} {W : Nat -> Prop} {M0 : Fr}
inductive Shp where
 |dat (t:Ty)
 |own (e:TypeId) (t:Ty)
 deriving DecidableEq
@[reducible] def DS:Shp->Type
 |.dat t=>El t
 |.own _ t=>List (El t)
inductive SG where
 |one (s:Shp)
 |agg (l:List Shp)
structure AnnA where
 slots:List (Nat×SG)
 boxes:List (Nat×List Shp)
 ro:List Nat
 ids:List Nat
abbrev Dy:=(s:Shp)×DS s
@[reducible] def kf:List Shp->Type->Type
 |[],X=>X
 |s::l,X=>DS s->kf l X
def As(s b:Shp)(x:DS s):Option (DS b):=if h:s=b then Td (h ▸ x)else Te
def pV{X:Type}:(l:List Shp)->kf l X->(List Dy->X->Prop)->Prop
 |[],f,k=>k [] f
 |s::l,f,k=>∀x:DS s,pV l (f x) λvs y=>k (⟨s,x⟩::vs) y
def kz{X:Type}:(l:List Shp)->List Dy->kf l X->Option X
 |[],[],f=>Td f
 |s::l,d::ds,f=>match As d.1 s d.2 with
  |some x=>kz l ds (f x)
  |none=>Te
 |_,_,_=>Te
def rL{X:Type}:(l:List Shp)->(List Dy->X)->kf l X
 |[],f=>f []
 |s::l,f=>λx=>rL l λvs=>f (⟨s,x⟩::vs)
def qs{X Y:Type}:(l:List Shp)->kf l X->kf l Y->kf l (X×Y)
 |[],f,g=>(f,g)
 |_::l,f,g=>λx=>qs l (f x) (g x)
theorem HX{s b:Shp}{x:DS s}{y:DS b}(h:As s b x=Td y):(⟨b,y⟩:Dy)=⟨s,x⟩:=by unfold As at h;grind
theorem Hr{X:Type}:∀{l:List Shp} {vs:List Dy} {f:kf l X} {x:X} {k:List Dy->X->Prop},kz l vs f=Td x->pV l f k->k vs x
 |[],[],f,x,k,h,g=>by have h:=zbi h;subst h;exact g
 |[],_::_,f,x,k,h,g=>by simp[kz]at h
 |_::_,[],f,x,k,h,g=>by simp[kz]at h
 |s::l,d::ds,f,x,k,h,g=>by simp only[kz]at h;split at h;rename_i y b;have:=Hr h (g y);grind [HX];cases h
theorem Ii{X:Type}:∀{l:List Shp} {vs:List Dy} {f:List Dy->X} {x:X},kz l vs (rL l f)=Td x->x=f vs
 |[],[],f,x,h=>(zbi h).symm
 |[],_::_,f,x,h=>by simp[kz]at h
 |_::_,[],f,x,h=>by simp[kz]at h
 |s::l,d::ds,f,x,h=>by simp only[kz,rL]at h;split at h;rename_i y b;have:=Ii h;grind [HX];cases h
theorem IW{X:Type}:∀{l:List Shp} {f:List Dy->X} {k:List Dy->X->Prop},(∀vs,k vs (f vs))->pV l (rL l f) k
 |[],_,_,h=>h []
 |_::_,_,_,h=>λ_=>IW λ_=>h _
structure Pl where
 id:Nat
 s:Shp
 a:AA
def m3(base:Nat):List Shp->List AA->Option (List Pl)
 |[],[]=>Td []
 |s::ss,a::as1=>match m3 (base+1) ss as1 with
  |some l=>Td (⟨base,s,a⟩::l)
  |none=>Te
 |_,_=>Te
def qU(e:jq):List (Nat×SG)->Option (List Pl)
 |[]=>Td []
 |(i,sg)::l=>match mf e i,qU e l with
  |some ([],.g x),some r=>match sg,x with
   |.one s,.a a=>Td (⟨100000+64*i,s,a⟩::r)
   |.agg ss,.agg as1=>match m3 (100000+64*i) ss as1 with
    |some q=>Td (q++r)
    |none=>Te
   |_,_=>Te
  |_,_=>Te
def pU(C:CS):List (Nat×List Shp)->Option (List Pl)
 |[]=>Td []
 |(c,ss)::l=>match Jn C c,pU C l with
  |some (.box as1),some r=>match m3 (1000000+64*c) ss as1 with
   |some q=>Td (q++r)
   |none=>Te
  |_,_=>Te
def YB:SG->List Shp
 |.one s=>[s]
 |.agg l=>l
def Gn:List (Nat×SG)->List Shp
 |[]=>[]
 |(_,sg)::l=>YB sg++Gn l
def FN:List (Nat×List Shp)->List Shp
 |[]=>[]
 |(_,ss)::l=>ss++FN l
def jI(J:AnnA):List Shp:=Gn J.slots++FN J.boxes
def pr:List Pl->List Nat
 |[]=>[]
 |⟨_,.dat _,.own c⟩::l=>c::pr l
 |_::l=>pr l
def rq(c:Nat):List Pl->Bool
 |[]=>Tc
 |p::l=>bif (bif Nat.beq p.id c then Ta else ni c p.a)then Ta else rq c l
def mj(R:CS):List Pl->CS->Option CS
 |[],C=>Td C
 |p::l,C=>match p.s with
  |.dat _=>mj R l C
  |.own e t=>bif rq p.id l then Te else(match p.a with
   |.own c=>match Jn C c with
    |some (.row e' t' xs)=>match Ys (.row t') (.row t) xs with
     |some ys=>bif Nat.beq e e' then(bif Nat.beq c p.id then mj R l C else(bif Qh p.id R then mj R l ((p.id,.row e t ys)::y5 p.id (iM c C))else Te))else Te
     |none=>Te
    |_=>Te
   |.v (.slice Te 0 0)=>bif Qh p.id R then mj R l ((p.id,.row e t [])::y5 p.id C)else Te
   |_=>Te)
theorem FO(I:Inv h0 W M0 cs γ h){x y:Nat×Ch}(j:x∈cs)(f:y∈cs)(e:x≠y):∀b,blk γ x.1 x.2=Td b->blk γ y.1 y.2≠Td b:= @sB _ (λ(x y:Nat×Ch)=>∀b,blk γ x.1 x.2=Td b->blk γ y.1 y.2≠Td b) (λx y h b i c=>h b c i) _ I.apart _ _ j f e
theorem Inv.rename(I:Inv h0 W M0 (C++R) γ h){c i:Nat}(o:Qh i R=Ta){xs:List (El t)}(D:(c,Ch.row e t xs)∈C):
  Inv h0 W M0 ((i,.row e t xs)::y5 i (iM c C)++R) (jN γ i (γ.σ c)) h:=by
 have f:(y5 i (iM c C)++R).Sublist (C++R):=(((ww i _).trans (Zd c C))).append_right R;have j:(c,Ch.row e t xs)∈C++R:=zau R D;have u:∀x∈y5 i (iM c C)++R,∀b,blk γ c (.row e t xs)=Td b->blk γ x.1 x.2≠Td b:=by
  intro x k b l n;have m:x≠(c,Ch.row e t xs):=by rintro rfl;rcases zaj.1 k with k|k;exact(Y0 ((ww i _).subset k)).2 rfl;have z:=I.apart;grind
  exact FO I (f.subset k) j m b n l
 have A:Inv h0 W M0 (y5 i (iM c C)++R) (jN γ i (γ.σ c)) h:= I.rest f (Qi γ i _) (oa o) (λx k b l=>⟨rfl,(I.sep x (f.subset k) b l).2⟩) I.ag (λ_ _ _=>rfl) (zac _) (λ_ _=>rfl);obtain⟨cells,h1,q,B,r⟩:=I.den _ j;have y:∀b,blk (jN γ i (γ.σ c)) i (.row e t xs)=Td b->blk γ c (.row e t xs)=Td b:=λb l=>by simpa[blk,yd]using l
 refine A.cons ⟨cells,by rw[yd];exact h1,q,B,by rw[yd];exact r⟩ (λb l=>I.sep _ j b (y b l)) (λb l x k w=>?_);rw[pQ (Qi γ i _) _ (oa o x k).1]at w;simp_all
theorem Inv.nilRow(I:Inv h0 W M0 (C++R) γ h)(k:Qh i R=Ta)(e:TypeId)(t:Ty):
  Inv h0 W M0 ((i,.row e t [])::y5 i C++R) (jN γ i ⟨Te,0,0⟩) h:=by
 have c:=(ww i C).append_right R;have j:Inv h0 W M0 (y5 i C++R) (jN γ i ⟨Te,0,0⟩) h:= I.rest c (Qi γ i _) (oa k) (λx l b f=>⟨rfl,(I.sep x (c.subset l) b f).2⟩) I.ag (λ_ _ _=>rfl) (zac _) (λ_ _=>rfl);refine j.cons ⟨[],by rw[yd];exact Owns.nil _ _ _ _,RowC.nil _ _,by simp,by rw[yd];rfl⟩ (λb f=>by simp[blk,yd]at f) (λb f=>by simp[blk,yd]at f)
theorem Er{c:Nat}:∀{l:List Pl},rq c l=Tc->∀p∈l,p.id≠c/\ni c p.a=Tc
 |[],_,p,b=>by cases b
 |q::l,h,p,b=>by
  simp only[rq]at h;cases hq:(bif Nat.beq q.id c then Ta else ni c q.a)with
  |true=>simp_all
  |false=>
   rw[hq]at h;rcases zan.1 b with rfl|b;cases hb:Nat.beq p.id c with
   |true=>simp_all
   |false=>rw[hb]at hq;exact⟨λe=>by simp_all,hq⟩
   exact Er h p b
def kj:List Pl->List Nat
 |[]=>[]
 |p::l=>p.id::kj l
theorem AY{R:CS}{h:zc}:∀{l:List Pl} {C o:CS} {γ:Gh},mj R l C=Td o->Inv h0 W M0 (C++R) γ h ->
  ∃f,Inv h0 W M0 (o++R) f h/\GxS (kj l) γ f/\(f.M=γ.M/\f.β=γ.β)/\∀p∈l,∀e t,p.s=.own e t->∀u,DenA γ p.a u->DenA f (.own p.id) u
 |[],C,o,γ,hn,I=>by simp only[mj,zad]at hn;grind [GxS.refl]
 |p::l,C,o,γ,hn,I=>by
  have O:∀{S:List Nat} {a b:Gh},GxS (kj l) a b->GxS (kj (p::l)) a b:=λg=>g.mono λx Z=>za3 _ Z;have j:∀s,GxS (kj (p::l)) γ (jN γ p.id s):=λs=>⟨Fr.le.refl _,λi hi=>(Qi γ p.id s).2 i (by simp only[kj,zan,not_or]at hi;grind)⟩;simp only[mj]at hn;split at hn;rename_i t Y;obtain⟨f,F,g1,A,h1⟩:=AY hn I;exact⟨f,F,O (S:=[]) g1,A,λq w e t' z=>by grind⟩
  ·rename_i e t Y;cases hm:rq p.id l with
   |true=>simp_all
   |false=>
    rw[hm]at hn;simp only[zL]at hn;have r:=Er hm;have fin:∀{E:CS} {k:Gh},mj R l E=Td o->Inv h0 W M0 (E++R) k h->GxS (kj (p::l)) γ k->(k.M=γ.M/\k.β=γ.β)->(∀i,i≠p.id->k.σ i=γ.σ i/\k.β i=γ.β i)->(∀u,DenA γ p.a u->DenA k (.own p.id) u) ->
      ∃f,Inv h0 W M0 (o++R) f h/\GxS (kj (p::l)) γ f/\(f.M=γ.M/\f.β=γ.β)/\∀q∈p::l,∀e t,q.s=.own e t->∀u,DenA γ q.a u->DenA f (.own q.id) u:=by
     intro E k H U g2 D J B;obtain⟨f,F,g1,A,h1⟩:=AY H U;refine⟨f,F,g2.trans (O (S:=[]) g1),⟨A.1.trans D.1,A.2.trans D.2⟩,λq w G t' z u m=>?_⟩;rcases zan.1 w with rfl|w;have T:=B u m;have L:q.id∉kj l:=by
      intro hi;have:∀{l:List Pl},q.id∈kj l->∃p∈l,p.id=q.id:=by
       intro l;induction l with
       |nil=>intro h;cases h
       |cons x l ih=>intro h;simp only[kj,zan]at h;grind
      obtain⟨y,V,e⟩:=this hi;exact(r y V).1 e
     rw[show u=_ from T];simp only[DenA,(g1.2 _ L).2];refine h1 q w G t' z u ?_;have gx:Gx (Td p.id) γ k:=⟨by rw[D.1];exact Fr.le.refl _,λi hi=>by grind⟩;exact m.gx gx (r q w).2
    split at hn;rename_i c N;split at hn;rename_i G t' xs hc;split at hn;rename_i ys n;obtain⟨e1,P⟩:=Js n;subst e1;simp only at P;subst P;cases hee:Nat.beq e G with
    |false=>simp_all
    |true=>
     rw[hee]at hn;have:=za4 hee;subst this;simp only[zK]at hn;cases hci:Nat.beq c p.id with
     |true=>rw[hci]at hn;simp only[zK]at hn;have Q:=za4 hci;exact fin hn I (GxS.refl _ _) ⟨rfl,rfl⟩ (λ_ _=>⟨rfl,rfl⟩) (λu m=>by simp_all)
     |false=>
      rw[hci]at hn;simp only[zL]at hn;cases hR:Qh p.id R with
      |false=>simp_all
      |true=>rw[hR]at hn;simp only[zK]at hn;refine fin hn (I.rename hR (qi hc)) (j _) ⟨rfl,rfl⟩ (λi hi=>?_) (λu m=>?_);have:=(Qi γ p.id (γ.σ c)).2 i (by grind);simp_all;rw[N]at m;rw[show u=_ from m];simp only[DenA,yd]
    cases hn;cases hn;rename_i N;cases hR:Qh p.id R with
    |false=>simp_all
    |true=>rw[hR]at hn;simp only[zK]at hn;refine fin hn (I.nilRow hR e t) (j _) ⟨rfl,rfl⟩ (λi hi=>?_) (λu m=>?_);have:=(Qi γ p.id ⟨Te,0,0⟩).2 i (by grind);simp_all;rw[N]at m;rw[show u=_ from m];simp only[DenA,yd];rfl
    cases hn
def D3(cs0 cs:CS)(p:Pl):Option Dy:=match p.s with
 |.dat t=>match lU cs0 t p.a with
  |some x=>Td ⟨.dat t,x⟩
  |none=>Te
 |.own e t=>match Jn cs p.id with
  |some (.row e' t' xs)=>match Ys (.row t') (.row t) xs with
   |some ys=>bif Nat.beq e e' then Td ⟨.own e t,ys⟩else Te
   |none=>Te
  |_=>Te
def km(cs0 cs:CS):List Pl->Option (List Dy)
 |[]=>Td []
 |p::l=>match D3 cs0 cs p,km cs0 cs l with
  |some d,some v=>Td (d::v)
  |_,_=>Te
def t6(i:Nat):Dy->AA
 |⟨.dat t,x⟩=>match Jm t x with
  |[a]=>a
  |_=>.v undef
 |⟨.own _ _,_⟩=>.own i
def ui:Nat->List Dy->List AA
 |_,[]=>[]
 |i,d::l=>t6 i d::ui (i+1) l
def pt(i:Nat):Dy->CS
 |⟨.own e t,xs⟩=>[(i,.row e t xs)]
 |_=>[]
def pg:Nat->List Dy->CS
 |_,[]=>[]
 |i,d::l=>pt i d++pg (i+1) l
theorem Fe{x:El t}{u:Value}(h:Rd γ.M t x [u]):DenA γ (t6 i ⟨.dat t,x⟩) u:=by
 have b:=xw (γ:=γ) h;unfold t6
 match hx:Jm t x,b with
 |[a],b=>simp only[hx];exact b.1
 |[],b=>exact b.elim
 |_::_::_,b=>exact b.2.elim
theorem SD{t':Ty}{xs:List (El t')}{ys:List (El t)}(h:Ys (.row t') (.row t) xs=Td ys):Ch.row e t' xs=Ch.row e t ys:=by grind [Js]
theorem E1{cs0 cs:CS}{p:Pl}{l:List Pl}{v:List Dy}(h:km cs0 cs (p::l)=Td v):∃d w,v=d::w/\km cs0 cs l=Td w /\
  ((∃t x,p.s=.dat t/\d=⟨.dat t,x⟩/\lU cs0 t p.a=Td x)\/(∃e t xs,p.s=.own e t/\d=⟨.own e t,xs⟩/\(p.id,Ch.row e t xs)∈cs)):=by
 simp only[km]at h;split at h;rename_i d w h1 b;have h:=zbi h;refine⟨d,w,h.symm,b,?_⟩;unfold D3 at h1;split at h1;grind;rename_i e t c;split at h1;rename_i f t' xs i;split at h1;rename_i ys j;cases he:Nat.beq e f with
 |false=>simp_all
 |true=>rw[he]at h1;refine .inr ⟨e,t,ys,c,(zbi (show Td (⟨.own e t,ys⟩:Dy)=Td d from h1)).symm,?_⟩;grind [qi,SD,za4]
 cases h1;cases h1;cases h
theorem Wk{cs0 cs:CS}:∀{q r:List Pl} {v:List Dy},km cs0 cs (q++r)=Td v->∃b c,v=b++c/\b.length=q.length/\km cs0 cs q=Td b/\km cs0 cs r=Td c
 |[],r,v,h=>⟨[],v,rfl,rfl,rfl,h⟩
 |p::q,r,v,h=>by simp only[zbz,km]at h;split at h;rename_i d w h1 i;have h:=zbi h;obtain⟨b,c,rfl,e,j,f⟩:=Wk i;exact⟨d::b,c,by rw[<-h];rfl,by simp[e],by simp only[km,h1,j],f⟩;cases h
theorem I6{base:Nat}:∀{ss:List Shp} {b:List AA} {l:List Pl},m3 base ss b=Td l->l.length=ss.length/\∀{γ j:Gh} {cs0 c:CS} {v:List Dy} {us:List Value},lP γ cs0->j.M=γ.M->km cs0 c l=Td v ->
   (∀p∈l,∀e t,p.s=.own e t->∀u,DenA γ p.a u->DenA j (.own p.id) u)->All2 (DenA γ) b us->All2 (DenA j) (ui base v) us/\∀x∈pg base v,x∈c:=by
 intro ss;induction ss generalizing base with
 |nil=>
  intro b l h;cases b with
  |nil=>
   simp only[m3,zad]at h;subst h;refine⟨rfl,λm k i n f=>?_⟩;have i:=zbi i;subst i;refine⟨?_,λx F=>by cases F⟩;rename_i us;cases us with
   |nil=>trivial
   |cons _ _=>exact f.elim
  |cons a b=>simp[m3]at h
 |cons s ss q=>
  intro b l h;cases b with
  |nil=>simp[m3]at h
  |cons a b=>
   simp only[m3]at h;split at h;rename_i J D;simp only[zad]at h;subst h;obtain⟨G,q⟩:=q D;refine⟨by simp[G],λ {γ j cs0 c v us} m k i n f=>?_⟩;obtain⟨d,w,rfl,A,E⟩:=E1 i;cases us with
   |nil=>exact f.elim
   |cons u us=>obtain⟨z,B⟩:=q m k A (λp C=>n p (za3 _ C)) f.2;rcases E with⟨t,x,r,rfl,H⟩|⟨e,t,xs,r,rfl,I⟩;have:=j7 m H f.1;rw[<-k]at this;refine⟨⟨Fe this,z⟩,λy o=>B y ?_⟩;simpa[pg,pt]using o;refine⟨⟨n _ za2 e t r u f.1,z⟩,λy o=>?_⟩;simp only[pg,pt,zbz,zck,zan]at o;grind
   cases h
def nL:List (Nat×SG)->List Dy->jq
 |[],_=>[]
 |(i,.one _)::l,d::ds=>(i,[],.g (.a (t6 (100000+64*i) d)))::nL l ds
 |(_,.one _)::_,[]=>[]
 |(i,.agg ss)::l,ds=>(i,[],.g (.agg (ui (100000+64*i) (ds.take ss.length))))::nL l (ds.drop ss.length)
def Wl:List (Nat×SG)->List Dy->CS
 |[],_=>[]
 |(i,.one _)::l,d::ds=>pt (100000+64*i) d++Wl l ds
 |(_,.one _)::_,[]=>[]
 |(i,.agg ss)::l,ds=>pg (100000+64*i) (ds.take ss.length)++Wl l (ds.drop ss.length)
def vA:List (Nat×List Shp)->List Dy->CS
 |[],_=>[]
 |(c,ss)::l,ds=>(c,.box (ui (1000000+64*c) (ds.take ss.length)))::(pg (1000000+64*c) (ds.take ss.length)++vA l (ds.drop ss.length))
def nS:List (Nat×SG)->Nat
 |[]=>0
 |(_,.one _)::l=>1+nS l
 |(_,.agg ss)::l=>ss.length+nS l
def mW(J:AnnA)(b:List Dy):jq:=nL J.slots b
def mP(J:AnnA)(b:List Dy):CS:=Wl J.slots b++vA J.boxes (b.drop (nS J.slots))
theorem Wm{e:jq}{n:Nat}{a:Act}:∀{ss:List (Nat×SG)} {l:List Pl},qU e ss=Td l->l.length=nS ss/\∀{γ z:Gh} {cs0 f:CS} {v w:List Dy},SatA n e γ a->lP γ cs0->z.M=γ.M->km cs0 f l=Td v ->
   (∀p∈l,∀e t,p.s=.own e t->∀u,DenA γ p.a u->DenA z (.own p.id) u)->(∀x∈nL ss (v++w),ny z (qk a) x)/\∀x∈Wl ss (v++w),x∈f
 |[],l,h=>by simp only[qU,zad]at h;subst h;refine⟨rfl,λ_ _ _ j _=>?_⟩;have j:=zbi j;subst j;exact⟨λx J=>(by cases J),λx J=>(by cases J)⟩
 |(i,sg)::ss,l,h=>by
  simp only[qU]at h;split at h;rename_i x r P Q;split at h;rename_i s aa;simp only[zad]at h;subst h;obtain⟨L,N⟩:=Wm (n:=n) (a:=a) Q;refine⟨by simp[L,nS];omega,λ {γ z cs0 f v w} D B o j C=>?_⟩;obtain⟨d,v',rfl,U,h3⟩:=E1 j;obtain⟨i1,O⟩:=N (w:=w) D B o U (λp k=>C p (za3 _ k));have c:DenA γ aa (qk a i):=(D.all _ (Z8 P)).1 trivial;rcases h3 with⟨t,x,m,rfl,hc⟩|⟨Y,t,xs,m,rfl,hm⟩;have:=j7 B hc c;rw[<-o]at this;refine⟨λy b=>?_,λy b=>?_⟩;simp only[zbz,nL,zan]at b;rcases b with rfl|b;exact⟨λ_=>Fe this,λE=>absurd trivial E⟩;grind;simp only[zbz,Wl,pt,zck]at b;exact O y b;refine⟨λy b=>?_,λy b=>?_⟩;simp only[zbz,nL,zan]at b;rcases b with rfl|b;exact⟨λ_=>C _ za2 Y t m _ c,λE=>absurd trivial E⟩;grind;simp only[zbz,Wl,pt,zck,zan]at b;grind;rename_i A F;split at h;rename_i q V;simp only[zad]at h;subst h;obtain⟨L,N⟩:=Wm (n:=n) (a:=a) Q;obtain⟨H,k⟩:=I6 V;refine⟨by simp[L,H,nS],λ {γ z cs0 f v w} D B o j C=>?_⟩;obtain⟨G,I,rfl,T,d1,d2⟩:=Wk j;obtain⟨i1,O⟩:=N (w:=w) D B o d2 (λp k=>C p (zbf _ k));obtain⟨us,hu,c⟩:=(show ∃us,qk a i=.agg us.toArray/\All2 (DenA γ) F us from(D.all _ (Z8 P)).1 trivial);obtain⟨Z,p2⟩:=k B o d1 (λp k=>C p (zau _ k)) c;have et:(G++I++w).take A.length=G:=by rw[<-H,<-T,za9,List.take_left]
  have S:(G++I++w).drop A.length=I++w:=by rw[<-H,<-T,za9,List.drop_left]
  refine⟨λy b=>?_,λy b=>?_⟩;simp only[nL,et,S,zan]at b;rcases b with rfl|b;exact⟨λ_=>⟨us,hu,Z⟩,λE=>absurd trivial E⟩;grind;simp only[Wl,et,S,zaj]at b;grind;cases h;cases h;cases h
theorem Cc{w:CS}:∀{bs:List (Nat×List Shp)} {l:List Pl},pU w bs=Td l->∀{R:CS} {γ k:Gh} {cs0 i:CS} {v:List Dy} {h:zc},Inv h0 W M0 (w++R) γ h->lP γ cs0->k.M=γ.M->k.β=γ.β->km cs0 i l=Td v -> (∀p∈l,∀e t,p.s=.own e t->∀u,DenA γ p.a u->DenA k (.own p.id) u) ->
   ∀x∈vA bs v,x∈i\/(DenC h0.size k h x.1 x.2/\(∃f,(x.1,Ch.box f)∈w)/\(∃f,x.2=Ch.box f)/\∃ss,(x.1,ss)∈bs)
 |[],l,b,R,γ,k,cs0,i,v,h,I,hf,hM,hβ,hd,ho,x,j=>by cases j
 |(c,ss)::bs,l,b,R,γ,k,cs0,i,v,h,I,hf,hM,hβ,hd,ho,x,j=>by
  simp only[pU]at b;split at b;rename_i f r B E;split at b;rename_i q C;simp only[zad]at b;subst b;obtain⟨z,n⟩:=I6 C;obtain⟨o,y,rfl,A,d1,d2⟩:=Wk hd;obtain⟨us,N,m⟩:=I.den _ (zau R (qi B));obtain⟨D,J⟩:=n hf hM d1 (λp b=>ho p (zau _ b)) m;have et:(o++y).take ss.length=o:=by rw[<-z,<-A,List.take_left]
  have F:(o++y).drop ss.length=y:=by rw[<-z,<-A,List.drop_left]
  simp only[vA,et,F,zan,zaj]at j;rcases j with rfl|j|j;exact .inr ⟨⟨us,by grind,D⟩,⟨f,qi B⟩,⟨_,rfl⟩,ss,za2⟩;simp_all;rcases Cc E I hf hM hβ d2 (λp b=>ho p (zbf _ b)) x j with h1|⟨h1,H,O,G,L⟩;grind;grind;cases b;cases b
def sM(C:CS):List (Nat×List Shp)->Bool
 |[]=>Ta
 |(c,_)::l=>match Jn C c with
  |some (.box _)=>sM C l
  |_=>Tc
theorem Ic{C:CS}:∀{l:List (Nat×List Shp)},sM C l=Ta->∀c ss,(c,ss)∈l->∃b,(c,Ch.box b)∈C
 |[],_,c,ss,h=>by cases h
 |(c',ss')::l,hb,c,ss,h=>by simp only[sM]at hb;split at hb;rename_i b e;rcases zan.1 h with h|h;grind [qi];exact Ic hb c ss h;cases hb
def oS:CS->Bool
 |[]=>Ta
 |(c,_)::l=>bif kO c l then oS l else Tc
theorem Eg:∀{l:CS},oS l=Ta->l.Pairwise λx y=>x.1≠y.1
 |[],_=>.nil
 |(c,k)::l,h=>by
  simp only[oS]at h;cases hn:kO c l with
  |false=>simp_all
  |true=>rw[hn]at h;exact zcy.2 ⟨λy b e=>pL hn y b e.symm,Eg h⟩
def allIn(S:List Nat):List Nat->Bool
 |[]=>Ta
 |i::l=>bif Xo S i then allIn S l else Tc
theorem N7{l:List Nat}(h:Xo l i=Ta):i∈l:=by
 induction l with
 |nil=>cases h
 |cons j l b=>simp only[Xo]at h;grind [za4,za2,za3]
theorem ET{S:List Nat}:∀{l:List Nat},allIn S l=Ta->∀i∈l,i∈S
 |[],_,i,h=>by cases h
 |j::l,hl,i,h=>by
  simp only[allIn]at hl;cases hm:Xo S j with
  |false=>simp_all
  |true=>rw[hm]at hl;rcases zan.1 h with rfl|h;exact N7 hm;exact ET hl i h
theorem Inv.pick{C F R:CS}(I:Inv h0 W M0 (C++R) γ h)(hnd:oS F=Ta)(hsrc:∀x∈F,DenC h0.size γ h x.1 x.2/\∃k,(x.1,k)∈C/\blk γ x.1 k=blk γ x.1 x.2):Inv h0 W M0 (F++R) γ h where
 ag:=I.ag
 frame:=I.frame
 size:=I.size
 old:=I.old
 le:=I.le
 den:=λx hx=>by rcases zaj.1 hx with hx|hx;simp_all;exact I.den x (zbf _ hx)
 sep:=λx hx b hb=>by rcases zaj.1 hx with hx|hx;obtain⟨_,k,hk,e⟩:=hsrc x hx;exact I.sep _ (zau _ hk) b (by grind);exact I.sep x (zbf _ hx) b hb
 apart:=by have hI:=I.apart;rw[zd5]at hI ⊢;refine⟨(Eg hnd).imp_of_mem λ {x y} hx hy hne b hb hb'=>?_,hI.2.1,λx hx y hy b hb=>?_⟩;obtain⟨_,k,hk,e⟩:=hsrc x hx;obtain⟨_,k',hk',e'⟩:=hsrc y hy;exact FO I (zau R hk) (zau R hk') (λe2=>hne (Prod.mk.inj e2).1) b (by grind) (by grind);grind
def tF(J:AnnA)(R:CS)(e:jq)(C:CS):Option (List Dy):=
 match qU e J.slots,pU C J.boxes with
 |some ps,some pb=>match pU (frzL (pr (ps++pb)) C) J.boxes with
  |some b=>match mj R (ps++b) (frzL (pr (ps++pb)) C)with
   |some c=>bif sM c J.boxes then(bif allIn J.ids (kj (ps++b))then(match km (frzL (pr (ps++pb)) C++R) c (ps++b)with
    |some f=>bif oS (mP J f)then Td f else Te
    |none=>Te)else Te)else Te
   |none=>Te
  |none=>Te
 |_,_=>Te
theorem AO{J:AnnA}{e:jq}{k:List Dy}(b:tF J R e C=Td k){n:Nat}{a:Act}(U:SatA n e γ a)(I:Inv h0 W M0 (C++R) γ h):
  ∃c,Inv h0 W M0 (mP J k++R) c h/\GxS J.ids γ c/\∀x∈mW J k,ny c (qk a) x:=by
 unfold tF at b;split at b
 ·rename_i ps pb A H;split at b
  ·rename_i m f;split at b
   ·rename_i S B;cases hbi:sM S J.boxes with
    |false=>simp_all
    |true=>
    rw[hbi]at b;cases hai:allIn J.ids (kj (ps++m))with
    |false=>simp_all
    |true=>
    rw[hai]at b;simp only[zK]at b;split at b
    ·rename_i j o;cases hnd:oS (mP J j)with
     |false=>simp_all
     |true=>
     rw[hnd]at b;have b:=zbi (show Td j=Td k from b);subst b;obtain⟨γ0,l,g0⟩:=Inv.frzL (C:=C) (γ:=γ) (pr (ps++pb)) I;have r:=U.gx0 g0;obtain⟨c,q,g1,⟨E,Q⟩,G⟩:=AY B l;obtain⟨P,z,rfl,l1,d1,d2⟩:=Wk o;obtain⟨e1,t⟩:=Wm (n:=n) (a:=a) A;obtain⟨N,Z⟩:=t (w:=z) r l.fz E d1 (λp y=>G p (zau _ y));have u:=Cc f l l.fz E Q d2 (λp y=>G p (zbf _ y));have V:(P++z).drop (nS J.slots)=z:=by rw[<-e1,<-l1,List.drop_left]
     have L:GxS J.ids γ c:=⟨g0.1.trans g1.1,λi hi=>by have D:=g1.2 i (λY=>hi (ET hai i Y));have h1:=g0.2 i (by simp);simp_all⟩;refine⟨c,q.pick hnd λx b=>?_,L,N⟩;unfold mP at b;rw[V]at b;rcases zaj.1 b with b|b;have:=Z x b;exact⟨q.den x (zau _ this),x.2,this,rfl⟩;rcases u x b with h1|⟨h1,_,⟨M,D⟩,ss,T⟩;exact⟨q.den x (zau _ h1),x.2,h1,rfl⟩;obtain⟨F,O⟩:=Ic hbi _ _ T;exact⟨h1,_,O,by rw[D];rfl⟩
    cases b
   cases b
  cases b
 cases b
theorem MQ{α:Type}{R:α->α->Prop}(i:∀x y,R x y->R y x){l b:List α}(p:l.Perm b):l.Pairwise R->b.Pairwise R:=by
 induction p with
 |nil=>exact id
 |cons x p f=>intro h;rw[zcy]at h ⊢;grind
 |swap x y l=>simp_all
 |trans _ _ c e=>simp_all
theorem Inv.perm{cs cs':CS}(I:Inv h0 W M0 cs γ h)(p:cs.Perm cs'):Inv h0 W M0 cs' γ h where
 ag:=I.ag
 frame:=I.frame
 size:=I.size
 old:=I.old
 le:=I.le
 den:=λx hx=>I.den x (p.symm.subset hx)
 sep:=λx hx=>I.sep x (p.symm.subset hx)
 apart:=MQ (λx y h b hb hb'=>h b hb' hb) p I.apart
end
section
variable {P:Program} {gl:Fr}
variable {h0 : zc} {W : Nat -> Prop} {M0 : Fr}
def wX(P:Program)(gl:Fr)(o:Oper)(e:jq)(c:qw)(cs:CS)(K:AV->Prop):Prop:=
 match o.op with
 |.pick x a b=>vl e c x a b K
 |_=>match oR e c with
  |some g=>qA P gl o (jJ e c) g cs K
  |none=>False
def qE(P:Program)(gl:Fr)(n:Nat)(ops:Array Oper)(cs:CS)(K:jq->Prop):List Oper->jq->Prop
 |[],e=>K e
 |o::rest,e=>match rK ops e o.guard with
  |some c=>bif xj n c o.dst then wX P gl o e c cs λv=>qE P gl n ops cs K rest (tP e o.dst c v)else False
  |none=>False
theorem YP(j:Fr.le gl M0){o:Oper}{e:jq}{c:qw}{cs:CS}{K:AV->Prop}(H:wX P gl o e c cs K):∃av,K av/\∀(n:Nat) (γ:Gh) (a:Act) (h:zc),SatA n e γ a->Inv h0 W M0 cs γ h->valid (qk a) c->∃v,DenV γ av v/\QExec P (execOp a.eval o) h (.value v):=by unfold wX at H;split at H;rename_i x y z k;obtain⟨av,h1,i⟩:=xC H;refine⟨av,h1,λn γ a h b I f=>?_⟩;obtain⟨t,l,r⟩:=i n γ a b f;refine⟨_,r,λB d=>?_⟩;simp only[execOp,k,l,asBool,Sem.run_bind,Sem.run_pure,Result.andThen_ok];split at H;rename_i g m;obtain⟨av,h1,i⟩:=tu (h0:=h0) (W:=W) (M0:=M0) j H;exact⟨av,h1,λn γ a h b I f=>i (Fc b m f) γ h a.eval I λx av q=>Zz b f q⟩;exact H.elim
theorem BQ{P:Program}{gl:Fr}(r:Fr.le gl M0){n:Nat}{ops:Array Oper}{cs:CS}{K:jq->Prop}{Q:Act->Prop}{γ:Gh}{h:zc}(I:Inv h0 W M0 cs γ h)(B:World)(d:Nat):
  ∀(l:List Oper) (e:jq) (a:Act),qE P gl n ops cs K l e->SatA n e γ a->(∀t k,SatA n t γ k->Same (xy l) a k->K t->Q k)->wpStill P ops (mk B d h) Q l a
 |[],e,a,H,hs,hQ=>hQ _ _ hs (Same.refl _ _) H
 |o::rest,e,a,H,hs,hQ=>by
  unfold qE at H;split at H;rename_i c F;cases hd:xj n c o.dst with
  |false=>rw[hd]at H;exact H.elim
  |true=>
   rw[hd]at H;simp only[zK]at H;have z:=Ex hs F;have m:∀i,o.dst=Td i->i∈xy (o::rest):=λi hi=>by simp[xy,hi]
   have j:∀x∈xy rest,x∈xy (o::rest):=λx w=>by unfold xy;split;exact za3 _ w;exact w
   obtain⟨av,C,E⟩:=YP (h0:=h0) (W:=W) (M0:=M0) r H;have b:∀u,(valid (qk a) c->DenV γ av u)->(¬valid (qk a) c->u=undef)->wpStill P ops (mk B d h) Q rest (a.put o.dst u):=λu h1 y=>
    BQ r I B d rest _ _ C (hs.putO hd h1 y) λt k A G D=>hQ t k A ((Same.put a o.dst u m).trans (G.mono j)) D
   unfold wpStill;by_cases q:valid (qk a) c;rw[zA (z.2 q)];unfold Oper.still;obtain⟨v,h1,y⟩:=E n γ a h hs I q;rw[y B d,Oper.stillUpon_value];exact b v (λ_=>h1) (λf=>absurd q f);rw[zv (λw=>q (z.1 w))];exact b undef (λf=>absurd f q) (λ_=>rfl)
  exact H.elim
abbrev qI:=List (Nat×Nat)
def yZ(P:Program)(gl:Fr)(tr:TypeId)(n:Nat)(f:qI)(id:Nat)(ops:Array Oper)(b:Bool)(R:CS)(K:jq->CS->Prop)(e:jq)(C:CS):Prop:=
 bif b then(match zS f id with
  |none=>bif Region.lexB .any ops then qE P gl n ops (C++R) (λc=>K (mZ c) C) ops.toList e else False
  |some m=>bif Region.lexTailB .any ops m then qE P gl n ops (C++R) (λc=>oU P gl tr n ops R K (ops.toList.drop m) c C) (ops.toList.take m) e else False)
 else oU P gl tr n ops R K ops.toList e C
theorem Vg(G:P.follows .mixedOrders=Ta)(f:Fr.le gl M0){tr:TypeId}{n:Nat}{J:qI}{id:Nat}{ops:Array Oper}{c:Bool}{R C:CS}{K:jq->CS->Prop}{e:jq} (H:yZ P gl tr n J id ops c R K e C) {γ:Gh} {h:zc} (B:World) (d:Nat) {a:Act} (A:SatA n e γ a) (I:Inv h0 W M0 (C++R) γ h) {Q:Exit->Act->World->Prop}
  (t:∀k F γ' i S h',SatA n k γ' i->Inv h0 W M0 (F++R) γ' h'->Same (xy ops.toList) a i->GxS (xy ops.toList) γ γ'->K k F->Q .normal i (mk B S h')):(zfj id ops c).wp P Q a (mk B d h):=by
 unfold yZ at H;cases c with
 |false=>exact wp_region_list (v9 f B _ _ _ _ _ _ _ H A I t)
 |true=>
  simp only[zK]at H;split at H;cases hB:Region.lexB .any ops with
  |false=>rw[hB]at H;exact H.elim
  |true=>rw[hB]at H;refine wp_region_still G hB ?_;exact BQ f I B (d+1) _ _ _ H A λk i u D y=>t _ _ _ _ _ _ u.clean I D (GxS.refl _ _) y
  rename_i m _;cases hB:Region.lexTailB .any ops m with
  |false=>rw[hB]at H;exact H.elim
  |true=>
   rw[hB]at H;have b:xy ops.toList=xy (ops.toList.take m)++xy (ops.toList.drop m):=by rw[<-We,zca]
   have:=wp_region_still_tail (id:=id) (Q:=Q) (a:=a) (w:=mk B d h) (l:=ops.toList) m G (by simpa using hB) (by simp only[Array.toArray_toList];refine BQ f I B (d+1) _ _ _ H A λk i u D y=>?_;refine v9 f B _ _ _ _ _ _ (d+1) y u I λq r E o z h'' O N M L T=>t q r E o z h'' O N ?_ ?_ T;rw[b];exact(D.mono λx j=>zau _ j).trans (M.mono λx j=>zbf _ j);rw[b];exact L.mono λx j=>zbf _ j);simpa using this
end
section
variable {h0 : zc} {W : Nat -> Prop} {M0 : Fr}
abbrev sZ:=List (Nat×Nat×List Nat×List Nat×List Nat)
def Fx:sZ->Nat->Option (Nat×List Nat×List Nat×List Nat)
 |[],_=>Te
 |(j,x)::l,i=>bif Nat.beq i j then Td x else Fx l i
def Am(P:Program)(gl:Fr)(tr:TypeId)(n:Nat)(c:qI)(f:sZ)(id:Nat)(ops:Array Oper)(b:Bool)(R:CS)(K:jq->CS->Prop)(e:jq)(C:CS):Prop:=
 match Fx f id with
 |none=>yZ P gl tr n c id ops b R K e C
 |some _=>False
theorem US{P:Program}(r:P.follows .mixedOrders=Ta){gl:Fr}(f:Fr.le gl M0){tr:TypeId}{n:Nat}{k:qI}{m:sZ}{id:Nat}{ops:Array Oper}{b:Bool}{R C:CS}{K:jq->CS->Prop}{e:jq} (H:Am P gl tr n k m id ops b R K e C) {γ:Gh} {h:zc} (B:World) (d:Nat) {a:Act} (o:SatA n e γ a) (I:Inv h0 W M0 (C++R) γ h) {Q:Exit->Act->World->Prop}
  (q:∀j i γ' c l h',SatA n j γ' c->Inv h0 W M0 (i++R) γ' h'->Same (xy ops.toList) a c->GxS (xy ops.toList) γ γ'->K j i->Q .normal c (mk B l h')):(zfj id ops b).wp P Q a (mk B d h):=by
 unfold Am at H;split at H;exact Vg r f H B d o I q;exact H.elim
end
section
variable {S:List Nat} {γ γ':Gh} {u:Value} {C R:CS} {h:zc} {n:Nat} {a:Act} {P:Program} {f:FuncId}
variable {h0 : zc} {W : Nat -> Prop} {M0 : Fr}
structure PlanA where
 tails:qI
 draws:sZ
 loops:List (Nat×AnnA)
 joins:List (Nat×AnnA)
def p6:List (Nat×AnnA)->Option Nat->Option AnnA
 |[],_=>Te
 |(j,m)::l,some i=>bif Nat.beq i j then Td m else p6 l (Td i)
 |_,none=>Te
def pz:AA->List Nat
 |.box j _=>[j]
 |.own j=>[j]
 |.oelt j _ _ _=>[j]
 |_=>[]
def qQ(S:List Nat):List AA->Bool
 |[]=>Ta
 |x::l=>bif (match pz x with
  |[]=>Ta
  |j::_=>!(Xo S j))then qQ S l else Tc
def tm(S:List Nat):AG->Bool
 |.a x=>qQ S [x]
 |.agg l=>qQ S l
def uv(S:List Nat):List AG->Bool
 |[]=>Ta
 |x::l=>bif tm S x then uv S l else Tc
def vG(S:List Nat):AV->Bool
 |.g x=>tm S x
 |.tup l=>uv S l
 |.nx _ _ _=>Ta
theorem DenA.gxS(g:GxS S γ γ'){x:AA}(c:(match pz x with
  |[]=>Ta
  |j::_=>!(Xo S j))=Ta)(h:DenA γ x u):DenA γ' x u:=by
 have key:∀j,Xo S j=Tc->γ'.β j=γ.β j/\γ'.σ j=γ.σ j:=λj n=>g.2 j (Jh n);cases x with
 |v y=>exact h
 |d t y=>exact Rd.mono g.1 h
 |box j o=>rw[show u=_ from h];simp only[DenA,(key j (by simpa[pz]using c)).1]
 |own j=>rw[show u=_ from h];simp only[DenA,(key j (by simpa[pz]using c)).2]
 |oelt j z i o=>obtain⟨b,k,l⟩:=h;exact⟨b,by rw[(key j (by simpa[pz]using c)).2];exact k,l⟩
 |elt t y o=>obtain⟨b,f,cs,e,h1,m⟩:=h;exact⟨b,f,cs,e,g.1 _ _ h1,Rd.mono g.1 m⟩
 |dc t xs=>obtain⟨s,k,l,h⟩:=h;exact⟨s,k,l,Rd.mono g.1 h⟩
theorem DenL.gxS{S:List Nat}{γ γ':Gh}(g:GxS S γ γ'):∀{l:List AA} {us:List Value},qQ S l=Ta->All2 (DenA γ) l us->All2 (DenA γ') l us
 |[],[],_,_=>trivial
 |[],_::_,_,h=>h.elim
 |_::_,[],_,h=>h.elim
 |x::l,u::us,hm,h=>by
  simp only[qQ]at hm;cases hx:(match pz x with
   |[]=>Ta
   |j::_=>!(Xo S j))with
  |false=>simp_all
  |true=>rw[hx]at hm;exact⟨DenA.gxS g hx h.1,DenL.gxS g hm h.2⟩
theorem DenG.gxS(g:GxS S γ γ'){x:AG}(b:tm S x=Ta)(h:DenG γ x u):DenG γ' x u:=by
 cases x with
 |a x=>have:All2 (DenA γ') [x] [u]:=DenL.gxS g b (show All2 (DenA γ) [x] [u]from⟨h,trivial⟩);exact this.1
 |agg l=>obtain⟨us,e,h⟩:=h;exact⟨us,e,DenL.gxS g b h⟩
theorem DenV.gxS(g:GxS S γ γ'){x:AV}(f:vG S x=Ta)(h:DenV γ x u):DenV γ' x u:=by
 cases x with
 |g x=>exact DenG.gxS g f h
 |tup l=>
  obtain⟨us,e,h⟩:=h;refine⟨us,e,?_⟩;have:∀{l:List AG} {us:List Value},uv S l=Ta->All2 (DenG γ) l us->All2 (DenG γ') l us:=by
   intro l;induction l with
   |nil=>intro us _ h;cases us with
    |nil=>trivial
    |cons _ _=>exact h.elim
   |cons x l i=>
    intro us f h;cases us with
    |nil=>exact h.elim
    |cons u us=>
     simp only[uv]at f;cases hx:tm S x with
     |false=>simp_all
     |true=>rw[hx]at f;exact⟨DenG.gxS g hx h.1,i f h.2⟩
  exact this f h
 |nx b p c=>exact h
def lw(ms S:List Nat):jq->jq
 |[]=>[]
 |(i,[],v)::e=>bif Xo ms i then lw ms S e else(bif vG S v then(i,[],v)::lw ms S e else lw ms S e)
 |(_,_::_,_)::e=>lw ms S e
theorem Wn{ms S:List Nat}{γ j:Gh}{a a1:Act}(g:GxS S γ j)(b:Same ms a a1):∀{e:jq},(∀x∈e,ny γ (qk a) x)->∀x∈lw ms S e,ny j (qk a1) x
 |[],_,x,c=>by cases c
 |(i,[],v)::e,h,x,c=>by
  have k:=Wn g b (e:=e) λx c=>h x (za3 _ c);simp only[lw]at c;cases hm:Xo ms i with
  |true=>simp_all
  |false=>
   rw[hm]at c;simp only[zL]at c;cases hn:vG S v with
   |false=>simp_all
   |true=>rw[hn]at c;rcases zan.1 c with rfl|c;refine⟨λ_=>?_,λf=>absurd trivial f⟩;have:=(h _ za2).1 trivial;simp only at this ⊢;rw[b _ (Jh hm)];exact this.gxS g hn;grind
 |(_,_::_,_)::e,h,x,c=>Wn g b (e:=e) (λx c=>h x (za3 _ c)) x c
def jx(ro:List Nat):CS->CS
 |[]=>[]
 |(c,k)::l=>bif Xo ro c then(c,k)::jx ro l else jx ro l
def og(ro:List Nat):CS->CS
 |[]=>[]
 |(c,k)::l=>bif Xo ro c then og ro l else(c,k)::og ro l
theorem I4(ro:List Nat):∀C:CS,(og ro C++jx ro C).Perm C
 |[]=>.nil
 |(c,k)::l=>by
  have b:=I4 ro l;simp only[jx,og];cases Xo ro c with
  |true=>exact List.perm_middle.trans (b.cons _)
  |false=>exact b.cons _
theorem Inv.part(I:Inv h0 W M0 (C++R) γ h)(ro:List Nat):Inv h0 W M0 (og ro C++(jx ro C++R)) γ h:=by rw[<-za9];exact I.perm ((I4 ro C).symm.append_right R)
abbrev l9:=Exit->jq->CS->Prop
def Vf(K:jq->CS->Prop)(Q:l9):l9
 |.normal,e,C=>K e C
 |x,e,C=>Q x e C
def Ig(id:Nat)(Q:l9):l9
 |.exit i,e,C=>bif Nat.beq i id then Q .normal e C else Q (.exit i) e C
 |x,e,C=>Q x e C
def Gq(m:CS)(K:jq->CS->Prop)(Q:l9):l9
 |.normal,e,C=>K e C
 |x,e,C=>Q x e (C++m)
def iz(pl:PlanA):Code->List Nat
 |.region _ ops _=>xy ops.toList
 |.seq a b=>iz pl a++(iz pl b++(match p6 pl.joins (y9 b)with
  |some J=>J.ids
  |none=>[]))
 |.cond _ a b=>iz pl a++iz pl b
 |.block _ b=>iz pl b
 |.loop b=>iz pl b++(match p6 pl.loops (y9 b)with
  |some J=>J.ids
  |none=>[])
 |_=>[]
def sh{X:Type}(J:AnnA)(R:CS)(F:kf (jI J) X)(e:jq)(C:CS)(k:X->Prop):Prop:=
 match tF J R e C with
 |some b=>match kz (jI J) b F with
  |some q=>k q
  |none=>False
 |none=>False
theorem vV{X:Type}{J:AnnA}{F:kf (jI J) X}{e:jq}{k:X->Prop}(h:sh J R F e C k):∃b q,tF J R e C=Td b/\kz (jI J) b F=Td q/\k q:=by unfold sh at h;grind
def WA(P:Program)(gl:Fr)(tr:TypeId)(n:Nat)(pl:PlanA):Code->CS->l9->jq->CS->Prop
 |.skip,_,Q,e,C=>Q .normal e C
 |.ret,_,Q,e,C=>Q .ret e C
 |.exit id,_,Q,e,C=>Q (.exit id) e C
 |.label _,_,Q,e,C=>Q .normal e C
 |.goto l,_,Q,e,C=>Q (.goto l) e C
 |.region id ops draw,R,Q,e,C=>Am P gl tr n pl.tails pl.draws id ops draw R (λe C=>Q .normal e C) e C
 |.seq x y,R,Q,e,C=>match p6 pl.joins (y9 y)with
  |none=>WA P gl tr n pl x R (Vf (λe C=>WA P gl tr n pl y R Q e C) Q) e C
  |some J=>∀K:kf (jI J) Prop,pV (jI J) K (λf q=>WA P gl tr n pl y R Q (mW J f++lw (xp x) (J.ids++iz pl x) e) (mP J f++jx J.ro C)->q) ->
    WA P gl tr n pl x (jx J.ro C++R) (Gq (jx J.ro C) (λh i=>sh J (jx J.ro C++R) K h i λq=>q) Q) e (og J.ro C)
 |.cond c x y,R,Q,e,C=>match jJ e [] c with
  |some v=>match pj v with
   |some b=>(b=Ta->WA P gl tr n pl x R Q e C)/\(b=Tc->WA P gl tr n pl y R Q e C)
   |none=>False
  |none=>False
 |.block id x,R,Q,e,C=>WA P gl tr n pl x R (Ig id Q) e C
 |.loop x,R,Q,e,C=>match p6 pl.loops (y9 x)with
  |some J=>∃(I:kf (jI J) Prop) (μ:kf (jI J) Nat),sh J (jx J.ro C++R) (qs (jI J) I μ) e (og J.ro C) (λp=>p.1) /\
    pV (jI J) (qs (jI J) I μ) λf p=>p.1->WA P gl tr n pl x (jx J.ro C++R) (Gq (jx J.ro C) (λh i=>sh J (jx J.ro C++R) (qs (jI J) I μ) h i λq=>q.1/\q.2<p.2) Q)
     (mW J f++lw (xp x) (J.ids++iz pl x) e) (mP J f)
  |none=>False
 |_,_,_,_,_=>False
def Og(h0:zc)(W:Nat->Prop)(M0:Fr)(n:Nat)(B:World)(ms S:List Nat)(c:Act)(b:Gh)(R:CS)(Q:l9):Exit->Act->World->Prop:=
 λx a w=>∃e C γ d h,w=mk B d h/\SatA n e γ a/\Inv h0 W M0 (C++R) γ h/\Same ms c a/\GxS S b γ/\Q x e C
theorem WW{e:jq}{h γ f:Gh}{a a1:Act}(k:SatA n e h a){ms S ids:List Nat}(j:a1.defers=[])(hz:a1.tmps.size=n)(c:Same ms a a1)(g:GxS S h γ)(g1:GxS ids γ f){J:AnnA}{i:List Dy}
  (l:∀x∈mW J i,ny f (qk a1) x):SatA n (mW J i++lw ms (ids++S) e) f a1:=by
 refine⟨j,hz,λx b=>?_⟩;rcases zaj.1 b with b|b;grind;exact Wn ((g.mono λx b=>zbf _ b).trans (g1.mono λx b=>zau _ b)) c k.all x b
theorem Ub(hm:P.follows .mixedOrders=Ta){gl:Fr}(ak:Fr.le gl M0){tr:TypeId}{pl:PlanA}:∀(c:Code) (R:CS) (Q:l9) (e:jq) (C:CS),WA P gl tr n pl c R Q e C ->
  ∀(γ:Gh) (h:zc) (B:World) (d:Nat) (a:Act),SatA n e γ a->Inv h0 W M0 (C++R) γ h->c.wp P (Og h0 W M0 n B (xp c) (iz pl c) a γ R Q) a (mk B d h):=by
 intro c;induction c with
 |skip=>exact λR Q e C H γ h B d a f I=>wp_skip ⟨e,C,γ,d,h,rfl,f,I,Same.refl _ _,GxS.refl _ _,H⟩
 |ret=>exact λR Q e C H γ h B d a f I=>wp_ret ⟨e,C,γ,d,h,rfl,f,I,Same.refl _ _,GxS.refl _ _,H⟩
 |exit id=>exact λR Q e C H γ h B d a f I=>wp_exit ⟨e,C,γ,d,h,rfl,f,I,Same.refl _ _,GxS.refl _ _,H⟩
 |label l=>exact λR Q e C H γ h B d a f I=>wp_label ⟨e,C,γ,d,h,rfl,f,I,Same.refl _ _,GxS.refl _ _,H⟩
 |goto l=>exact λR Q e C H γ h B d a f I=>wp_goto ⟨e,C,γ,d,h,rfl,f,I,Same.refl _ _,GxS.refl _ _,H⟩
 |region id ops aB=>exact λR Q e C H γ h B d a f I=>US hm ak H B d f I λe' C' γ' a' d' h' o r q3 q4 q5=>⟨e',C',γ',d',h',rfl,o,r,q3,q4,q5⟩
 |seq x y F L=>
  intro R Q e C H γ h B d a f I;simp only[WA]at H;have U:∀i∈xp x,i∈xp (x.seq y):=λi hi=>zau _ hi;have hr:∀i∈xp y,i∈xp (x.seq y):=λi hi=>zbf _ hi;have V:∀i∈iz pl x,i∈iz pl (x.seq y):=λi hi=>zau _ hi;have kr:∀i∈iz pl y,i∈iz pl (x.seq y):=λi hi=>zbf _ (zau _ hi);split at H;refine wp_seq (wp_mono (F _ _ _ _ H γ h B d a f I) ?_);rintro ex a1 w1 ⟨O,T,j,d1,h1,rfl,s1,z,u,g1,o⟩;cases ex with
  |normal=>refine wp_mono (L _ _ _ _ o j h1 B d1 a1 s1 z) ?_;rintro ex a2 w2 ⟨E,G,D,d2,t,rfl,s2,M,w,g2,r⟩;exact⟨E,G,D,d2,t,rfl,s2,M,(u.mono U).trans (w.mono hr),(g1.mono V).trans (g2.mono kr),r⟩
  |_=>exact⟨O,T,j,d1,h1,rfl,s1,z,u.mono U,g1.mono V,o⟩
  rename_i J hJ;have kJ:∀i∈J.ids,i∈iz pl (x.seq y):=λi hi=>by simp only[iz,hJ];simp_all
  have H':=H (rL (jI J) λA=>WA P gl tr n pl y R Q (mW J A++lw (xp x) (J.ids++iz pl x) e) (mP J A++jx J.ro C)) (IW λA hq=>hq);refine wp_seq (wp_mono (F _ _ _ _ H' γ h B d a f (I.part J.ro)) ?_);rintro ex a1 w1 ⟨O,T,j,d1,h1,rfl,s1,z,u,g1,o⟩;cases ex with
  |normal=>obtain⟨A,q,hv,hq,hk⟩:=vV o;have ai:=Ii hq;subst ai;obtain⟨aj,Y,Z,f1⟩:=AO hv s1 z;have aa:=WW f s1.defers s1.size u g1 Z f1;rw[<-za9]at Y;refine wp_mono (L _ _ _ _ hk aj h1 B d1 a1 aa Y) ?_;rintro ex a2 w2 ⟨E,G,D,d2,t,rfl,s2,M,w,g2,r⟩;exact⟨E,G,D,d2,t,rfl,s2,M,(u.mono U).trans (w.mono hr),((g1.mono V).trans (Z.mono kJ)).trans (g2.mono kr),r⟩
  |_=>exact⟨O,T++jx J.ro C,j,d1,h1,rfl,s1,by simp_all,u.mono U,g1.mono V,o⟩
 |cond c x y F L=>intro R Q e C H γ h B d a f I;simp only[WA]at H;have U:∀i∈xp x,i∈xp (zfa c x y):=λi hi=>zau _ hi;have hr:∀i∈xp y,i∈xp (zfa c x y):=λi hi=>zbf _ hi;have V:∀i∈iz pl x,i∈iz pl (zfa c x y):=λi hi=>zau _ hi;have kr:∀i∈iz pl y,i∈iz pl (zfa c x y):=λi hi=>zbf _ hi;split at H;rename_i v hv;split at H;rename_i b N;refine wp_cond_split (zM N (Zz f (c:=[]) trivial hv)) (λac=>?_) (λam=>?_);refine wp_mono (F _ _ _ _ (H.1 ac) γ h B d a f I) ?_;rintro ex a2 w2 ⟨E,G,D,d2,t,rfl,s2,M,w,g2,r⟩;exact⟨E,G,D,d2,t,rfl,s2,M,w.mono U,g2.mono V,r⟩;refine wp_mono (L _ _ _ _ (H.2 am) γ h B d a f I) ?_;rintro ex a2 w2 ⟨E,G,D,d2,t,rfl,s2,M,w,g2,r⟩;exact⟨E,G,D,d2,t,rfl,s2,M,w.mono hr,g2.mono kr,r⟩;exact H.elim;exact H.elim
 |block id x ih=>
  intro R Q e C H γ h B d a f I;refine wp_block (wp_mono (ih _ _ _ _ H γ h B d a f I) ?_);rintro ex a1 w1 ⟨O,T,j,d1,h1,rfl,s1,z,u,g1,o⟩;cases ex with
  |exit i=>simp only[Ig]at o;simp only[Exit.inBlock];by_cases N:Nat.beq i id=Ta;rw[zA (za4 N)];simp only[N,zK]at o;exact⟨O,T,j,d1,h1,rfl,s1,z,u,g1,o⟩;rw[zv (λhe=>N (by rw[he];simp))];simp only[N,zL]at o;exact⟨O,T,j,d1,h1,rfl,s1,z,u,g1,o⟩
  |_=>exact⟨O,T,j,d1,h1,rfl,s1,z,u,g1,o⟩
 |loop x ih=>
  intro R Q e C H γ h B d a f I;simp only[WA]at H;split at H;rename_i J hJ;have kx:∀i∈iz pl x,i∈iz pl (Code.loop x):=λi hi=>zau _ hi;have kJ:∀i∈J.ids,i∈iz pl (Code.loop x):=λi hi=>by simp only[iz,hJ];simp_all
  have kS:∀i∈J.ids++iz pl x,i∈iz pl (Code.loop x):=λi hi=>by grind
  obtain⟨Iv,μ,al,S⟩:=H;obtain⟨ab,p0,ay,az,ax⟩:=vV al;obtain⟨γ0,I0,g0,f0⟩:=AO ay f (I.part J.ro);refine wp_loop_ghost (λm a1 w1=>∃d1 h1 j A p,w1=mk B d1 h1/\a1.defers=[]/\a1.tmps.size=n/\Same (xp x) a a1/\GxS (J.ids++iz pl x) γ j/\Inv h0 W M0 (mP J A++(jx J.ro C++R)) j h1/\(∀y∈mW J A,ny j (qk a1) y) /\ kz (jI J) A (qs (jI J) Iv μ)=Td p/\p.1/\p.2=m) p0.2 ⟨d,h,γ0,ab,p0,rfl,f.defers,f.size,Same.refl _ _,g0.mono λi hi=>zau _ hi,I0,f0,az,ax,rfl⟩ ?_;rintro m a1 w1 ⟨d1,h1,j,A,p,rfl,af,au,k,g1,z,f1,hp,aA,rfl⟩;have s1:SatA n (mW J A++lw (xp x) (J.ids++iz pl x) e) j a1:=⟨af,au,λy hy=>by rcases zaj.1 hy with hy|hy;grind;exact Wn g1 k f.all y hy⟩;have N:=Hr hp S aA;refine wp_mono (ih _ _ _ _ N j h1 B d1 a1 s1 z) ?_;rintro ex a2 w2 ⟨E,G,D,d2,t,rfl,s2,M,w,g2,r⟩;cases ex with
  |normal=>obtain⟨ae,q,ar,hq,ah,an⟩:=vV r;obtain⟨γ3,I3,g3,f3⟩:=AO ar s2 M;exact⟨q.2,an,d2,t,γ3,ae,q,rfl,s2.defers,s2.size,k.trans w,(g1.trans (g2.mono λi hi=>zbf _ hi)).trans (g3.mono λi hi=>zau _ hi),I3,f3,hq,ah,rfl⟩
  |_=>exact⟨E,G++jx J.ro C,D,d2,t,rfl,s2,by simp_all,k.trans w,(g1.mono kS).trans (g2.mono kx),r⟩
  exact H.elim
 |_=>exact λR Q e C H=>H.elim
def oD:Nat->List Arg->jq
 |_,[]=>[]
 |i,a::l=>(i,[],.g (sJ a.t a.x))::oD (i+1) l
def uw(e:jq)(i:Nat):Option AV:=match mf e i with
 |some ([],v)=>Td v
 |_=>Te
def mA(P:Program)(cs:CS)(e:jq):List ResultVar->(List AV->Prop)->Prop
 |[],K=>K []
 |.tmp t::l,K=>match uw e t with
  |some v=>mA P cs e l λvs=>K (v::vs)
  |none=>False
 |.cell a t::l,K=>match uw e a with
  |some (.g (.a aa))=>oP P cs t aa Te λv=>mA P cs e l λvs=>K (v::vs)
  |_=>False
def jd(cs:CS):(l:List Ty)->List AV->Option (iw l)
 |[],[]=>Td ()
 |[t],[v]=>qP cs t v
 |t::t'::l,v::vs=>match qP cs t v,jd cs (t'::l) vs with
  |some x,some y=>Td (x,y)
  |_,_=>Te
 |_,_=>Te
theorem Gt{γ:Gh}{cs:CS}(b:lP γ cs):∀{l:List Ty} {vs:List AV} {r:iw l} {us:List Value},jd cs l vs=Td r->All2 (DenV γ) vs us->vx γ.M l r us
 |[],[],r,[],_,_=>rfl
 |[],[],_,_::_,_,h=>h.elim
 |[t],[v],r,[u],h,hd=>⟨u,rfl,Az b (by simpa[jd]using h) hd.1⟩
 |[t],[v],_,[],_,h=>h.elim
 |[t],[v],_,_::_::_,_,h=>h.2.elim
 |t::t'::l,v::vs,r,[],_,h=>h.elim
 |t::t'::l,v::vs,r,u::us,h,hd=>by simp only[jd]at h;split at h;rename_i x y h1 c;simp only[zad]at h;subst h;exact⟨u,us,rfl,Az b h1 hd.1,Gt b c hd.2⟩;cases h
 |[],_::_,_,_,h,_=>by simp[jd]at h
 |[t],[],_,_,h,_=>by simp[jd]at h
 |[t],_::_::_,_,_,h,_=>by simp[jd]at h
 |t::t'::l,[],_,_,h,_=>by simp[jd]at h
def x5(P:Program)(rs:List ResultVar)(b:List Ty)(R:iw b->Prop):l9:=λx e C=>match x with
 |.normal=>mA P C e rs λvs=>match jd (frzL (kW vs) C) b vs with
  |some r=>R r
  |none=>False
 |.ret=>mA P C e rs λvs=>match jd (frzL (kW vs) C) b vs with
  |some r=>R r
  |none=>False
 |_=>False
theorem BK{P:Program}{n:Nat}{C:CS}{e:jq}{γ:Gh}{a:Act}{h:zc}(E:SatA n e γ a)(I:Inv h0 W M0 C γ h):∀{l:List ResultVar} {K:List AV->Prop},mA P C e l K->∃vs us,K vs/\All2 (DenV γ) vs us/\us.length=l.length/\QExec P (l.mapM (oB a.tmps)) h us
 |[],K,H=>⟨[],[],H,trivial,rfl,λ_ _=>by simp⟩
 |.tmp t::l,K,H=>by
  simp only[mA]at H;split at H;rename_i v A;obtain⟨vs,us,h1,F,J,G⟩:=BK E I H;have j:DenV γ v (qk a t):=by unfold uw at A;split at A;rename_i u q;simp only[zad]at A;subst A;exact(E.all _ (Z8 q)).1 trivial;cases A
  refine⟨v::vs,qk a t::us,h1,⟨j,F⟩,by simp[J],?_⟩;rw[ze6];exact QExec.bind (x:=qk a t) (QExec.pure _) (G.bind (QExec.pure _));exact H.elim
 |.cell x t::l,K,H=>by
  simp only[mA]at H;split at H;rename_i m w;obtain⟨v,O,N⟩:=FS (h0:=h0) (W:=W) (M0:=M0) H;obtain⟨vs,us,h1,F,J,G⟩:=BK E I O;have j:DenA γ m (qk a x):=by unfold uw at w;split at w;rename_i u q;simp only[zad]at w;subst w;exact(E.all _ (Z8 q)).1 trivial;cases w
  obtain⟨u,Q,B⟩:=N trivial γ h _ I j;refine⟨v::vs,u::us,h1,⟨Q,F⟩,by simp[J],?_⟩;rw[ze6];refine QExec.bind (x:=u) ?_ (G.bind (QExec.pure _));have L:∃p,qk a x=.pointer (Td p):=by
   have D:∀m,(∀k,tH C k m=Te)->(∀c z i o,m≠.oelt c z i o)->DenA γ m (qk a x)->oP P C t m Te (λv=>mA P C e l λvs=>K (v::vs))->False:=by intro m T M _ q;unfold oP at q;split at q;simp_all;exact q
   cases m with
   |box c o=>exact⟨_,j⟩
   |oelt c z i o=>obtain⟨g,_,e⟩:=j;grind
   |elt t y o=>obtain⟨b,f,cs,e,_⟩:=j;grind
   |v y=>exact(D _ (λ_=>rfl) (by simp) j H).elim
   |d t y=>exact(D _ (λ_=>rfl) (by simp) j H).elim
   |own c=>exact(D _ (λ_=>rfl) (by simp) j H).elim
   |dc t y=>exact(D _ (λ_=>rfl) (by simp) j H).elim
  obtain⟨p,r⟩:=L;rw[r]at B;have S:a.tmps.getD x undef=.pointer (Td p):=r;simp only[oB,S];exact B;exact H.elim
theorem SR{fn:Func}{rs:List ResultVar}(f:fn.results.toList=rs){us:List Value}(e:us.length=rs.length)(c:QExec P (rs.mapM (oB a.tmps)) h us):QExec P (results fn a.tmps) h (kN us):=by
 intro B d;have b:results fn a.tmps=(fn.results.mapM (oB a.tmps) >>= λvs=>zek (if h:vs.size=1 then vs[0]else .tuple vs)):=by unfold results;congr 1
 rw[b,Array.mapM_eq_mapM_toList,f,Sem.run_bind,Sem.run_map,c B d];simp only[Result.andThen_ok,Sem.run_pure]
 match us,e with
 |[],_=>rfl
 |[v],_=>rfl
 |v::u::vs,_=>simp[kN]
theorem Ht{γ:Gh}{σ:Nat->Value}:∀{l:List Arg} {i:Nat} {us:List Value},kT γ.M l us->(∀j v,us[j]?=Td v->σ (i+j)=v)->∀x∈oD i l,ny γ σ x
 |[],_,_,_,_,x,b=>by cases b
 |a::l,i,[],h,_,x,b=>h.elim
 |a::l,i,u::us,h,hσ,x,b=>by simp only[oD,zan]at b;rcases b with rfl|b;refine⟨λ_=>?_,λe=>absurd trivial e⟩;have:=hσ 0 u rfl;simp only at this ⊢;rw[show σ i=u from this];exact Bn h.1;exact Ht h.2 (λj v c=>by have:=hσ (j+1) v (by simpa using c);grind) x b
theorem UH(hm:P.follows .mixedOrders=Ta)(gl:Fr)(tr:TypeId)(pl:PlanA)(args:List Arg){fn:Func}{rs:List ResultVar}{o:List Ty}(Y:P.funcs[f]?=Td fn)(A:Yd fn=Ta)(hr:fn.results.toList=rs)(hn:fn.ntmps=n)
  (hz:Nat.ble args.length n=Ta) {R:iw o->Prop} (H:WA P gl tr n pl (codeOf fn) [] (x5 P rs o R) (oD 0 args) []):PC P gl f args o R:=by
 intro h M vs N z c B d;subst hn;have L:fn.body=Td (codeOf fn):=by unfold Yd at A;unfold codeOf;split at A;omega;cases A
 refine calls_of_wp Y L ?_;have y:vs.length=args.length:=(All2.length c).symm;have aa:vs.length<=fn.ntmps:=by rw[y];exact zc0 hz
 let γ:Gh:=⟨M,λ_=>0,λ_=>⟨Te,0,0⟩⟩;have I:Inv h (λ_=>False) M ([]++[]) γ h:={ ag:=z,frame:=λ_ _ _=>rfl,size:=zac _,old:=λ_ _=>rfl,le:=Fr.le.refl _,den:=λx J=>(by cases J),sep:=λx J=>(by cases J),apart:=List.Pairwise.nil };have hs:SatA fn.ntmps (oD 0 args) γ { tmps:=vs.toArray++zc4 (fn.ntmps-vs.toArray.size) undef,defers:=[] }:=by refine⟨rfl,by simp;omega,Ht c λj v T=>?_⟩;have G:j<vs.length:=(za5.1 T).1;simp only[zas,qk,zcb];rw[zdg (by simpa using G)];simp[T]
 have fin:∀(e:jq) (C:CS) (γ':Gh) (h':zc) (a:Act),SatA fn.ntmps e γ' a->Inv h (λ_=>False) M (C++[]) γ' h'->(mA P C e rs λvs=>match jd (frzL (kW vs) C) o vs with|some r=>R r|none=>False) ->
   ∃v,QExec P (results fn a.tmps) h' v/\Keep h.size h h'/\∃M' r,Fr.le M M'/\(∀b,b<h.size->M' b=M b)/\AgM M' h'/\J4 M' o r v/\R r:=by
  intro e C γ' h' a s1 m q;rw[zbs]at m;obtain⟨F,us,E,U,Z,t⟩:=BK s1 m q;split at E;rename_i r hc;obtain⟨V,l,g2⟩:=Inv.frzL (C:=C) (R:=[]) (γ:=γ') (kW F) (by simpa using m);rw[zbs]at l;refine⟨kN us,SR hr Z t,⟨l.size,λi hi=>l.frame i hi (λh=>h)⟩,V.M,r,l.le,l.old,l.ag,⟨us,Gt l.fz hc (U.imp λv _ u hu=>hu.gx g2 rfl),rfl⟩,E⟩;exact E.elim
 refine wp_mono (Ub hm N _ _ _ _ _ H γ h B d _ hs I) ?_;rintro ex a w ⟨S,Q,O,d1,h1,rfl,s1,m,m1,g1,D⟩;cases ex with
 |normal=>obtain⟨v,t,k,rest⟩:=fin S Q O h1 a s1 m D;exact⟨s1.defers,v,t B d1,v,d1,h1,rfl,rfl,k,rest⟩
 |ret=>obtain⟨v,t,k,rest⟩:=fin S Q O h1 a s1 m D;exact⟨s1.defers,v,t B d1,v,d1,h1,rfl,rfl,k,rest⟩
 |_=>exact D.elim
theorem ZR(c:P.follows .mixedOrders=Ta)(gl:Fr)(tr:TypeId)(pl:PlanA)(args:List Arg){fn:Func}{rs:List ResultVar}{b:List Ty}(h:P.funcs[f]?=Td fn)(j:Yd fn=Ta)(i:fn.results.toList=rs)(k:fn.ntmps=n)
  (hz:Nat.ble args.length n=Ta) {R:iw b->Prop} {F:Prop} (H:F) (e:F=WA P gl tr n pl (codeOf fn) [] (x5 P rs b R) (oD 0 args) []):PC P gl f args b R:=
 UH c gl tr pl args h j i k hz (e ▸ H)
end
end
section
open Go.RowKit
section
variable {P:Program} {f:FuncId} {h:zc} {M gl:Fr} {v:Value} {us:List Value}
theorem XC.of_calls{args:Array Value}{R:Value->zc->Prop}
  (H:∀B d,Calls P f args (mk B d h) λe w'=>∃v,e=.returned v/\w'.os=B.os/\w'.tape=B.tape/\w'.output=B.output/\R v w'.heap):XC P f args h R:=by
 intro B d;refine(H B d).mono ?_;rintro e w' ⟨v,rfl,h1,b,i,c⟩;refine⟨v,w'.drawn,w'.heap,rfl,?_,c⟩;cases w';simp only[mk]at *;subst h1;subst b;subst i;rfl
theorem AgM.keep{h h':zc}(ag:AgM M h)(k:Keep h.size h h'):AgM M h':=λb c e=>by obtain⟨T,m,f⟩:=ag b c e;exact⟨T,m,by rw[k.get b (ag.lt e)];exact f⟩
def oW:Arg->Option Value
 |⟨.int k,x⟩=>Td (.int k x)
 |⟨.bool,x⟩=>Td (.bool x)
 |⟨.str,x⟩=>Td (.string x)
 |_=>Te
def nD:List Arg->Option (List Value)
 |[]=>Td []
 |a::l=>match oW a,nD l with
  |some v,some vs=>Td (v::vs)
  |_,_=>Te
theorem XI{a:Arg}{v u:Value}(h:oW a=Td v)(b:RdV M a.t a.x u):u=v:=by
 obtain⟨t,x⟩:=a;cases t with
 |int k=>simp only[oW,zad]at h;subst h;simpa[RdV,Rd,hY]using b
 |bool=>simp only[oW,zad]at h;subst h;simpa[RdV,Rd,hY]using b
 |str=>simp only[oW,zad]at h;subst h;simpa[RdV,Rd,hY]using b
 |_=>simp[oW]at h
theorem s5{M:Fr}:∀{l:List Arg} {vs us:List Value},nD l=Td vs->kT M l us->us=vs
 |[],vs,us,h,hd=>by
  simp only[nD,zad]at h;subst h;cases us with
  |nil=>rfl
  |cons _ _=>exact hd.elim
 |a::l,vs,us,h,hd=>by
  simp only[nD]at h;split at h;rename_i v c h1 b;simp only[zad]at h;subst h;cases us with
  |nil=>exact hd.elim
  |cons u us=>rw[XI h1 hd.1,s5 b hd.2]
  cases h
theorem PC.of_scal{args:List Arg}{l:List Ty}{R:iw l->Prop}(j:nD args=Td us){r:iw l}(o:∀M,J4 M l r v)(q:R r)
  (H:∀w:World,AgM gl w.heap->Calls P f us.toArray w λe w'=>e=.returned v/\Below w.heap.size w w'):PC P gl f args l R:=by
 intro h M vs m ag n;rw[s5 j n];refine XC.of_calls λB d=>(H (mk B d h) λb c e=>ag b c (m b c e)).mono ?_;rintro e w' ⟨rfl,i⟩;have k:Keep h.size h w'.heap:=⟨i.size,i.block⟩;exact⟨v,rfl,i.os,i.tape,i.output,k,M,r,Fr.le.refl _,λ_ _=>rfl,ag.keep k,o M,q⟩
theorem PC.of_same{args:List Arg}{c:List Ty}{R:iw c->Prop}(b:nD args=Td us){r:iw c}(i:∀M,J4 M c r v)(k:R r)
  (H:∀w:World,AgM gl w.heap->Calls P f us.toArray w λe w'=>e=.returned v/\w'=w):PC P gl f args c R:=
 PC.of_scal b i k λw h=>(H w h).mono λe w' ⟨h1,j⟩=>⟨h1,j ▸ Below.refl _ _⟩
theorem xM(k:IntKind)(i:Int):J4 M [.int k] i (.int k i):=⟨[_],⟨_,rfl,rfl⟩,rfl⟩
theorem G7(b:Bool):J4 M [.bool] b (.bool b):=⟨[_],⟨_,rfl,rfl⟩,rfl⟩
theorem oO(s:Bt):J4 M [.str] s (.string s):=⟨[_],⟨_,rfl,rfl⟩,rfl⟩
theorem AgM.glob{w:World}(ag:AgM gl w.heap){b o:Nat}{cs:Array Value}(f:gl b=Td cs)(c:cs[o]?=Td v):w.cell? ⟨b,o,Option.none⟩=Td v:=by obtain⟨T,m,e⟩:=ag b cs f;simp[World.cell?,e,c]
theorem Dm{xs:List Bt}{cells:List Value}(H:RowC M .str xs cells):cells=xs.map zaz:=by
 obtain⟨h1,b⟩:=H;simp only[sz,zbm]at h1 b;refine zdw (by simp[h1]) λi hi f=>?_;have c:i<xs.length:=by omega
 have:=b i c;have e:(cells.drop i).take 1=[cells[i]]:=by rw[zbt hi];rfl
 rw[e]at this;have:=show[cells[i]]=[zaz xs[i]]from this;simpa using this
theorem PC.of_ex{args:List Arg}{l:List Ty}{R:iw l->Prop}(j:nD args=Td us)
  (H:∀w:World,AgM gl w.heap->Calls P f us.toArray w λe w'=>∃v r,e=.returned v/\(∀M,J4 M l r v)/\R r/\Below w.heap.size w w'):PC P gl f args l R:=by
 intro h M vs m ag n;rw[s5 j n];refine XC.of_calls λB d=>(H (mk B d h) λb c e=>ag b c (m b c e)).mono ?_;rintro e w' ⟨v,r,rfl,o,q,i⟩;have k:Keep h.size h w'.heap:=⟨i.size,i.block⟩;exact⟨v,rfl,i.os,i.tape,i.output,k,M,r,Fr.le.refl _,λ_ _=>rfl,ag.keep k,o M,q⟩
end
section
variable {P:Program} {gl M:Fr} {f:FuncId} {h h':zc} {vs cs:List Value} {K:Value -> zc -> Prop} {t:Ty} {u v:Value} {i:Int} {k:Nat}
def PX(P:Program)(f:FuncId)(vs:Array Value)(h:zc)(M:Fr)(c:List Ty)(R:iw c->Prop):Prop:=
 XC P f vs h λv h'=>Keep h.size h h'/\∃M' r,Fr.le M M'/\(∀b,b<h.size->M' b=M b)/\AgM M' h'/\J4 M' c r v/\R r
theorem PC.px{args:List Arg}{b:List Ty}{R:iw b->Prop}(H:PC P gl f args b R)(c:Fr.le gl M)(ag:AgM M h)(e:kT M args vs):PX P f vs.toArray h M b R:=H h M vs c ag e
structure Later (h:zc) (M:Fr) (h':zc) (M':Fr):Prop where
 keep:Keep h.size h h'
 le:Fr.le M M'
 old:∀b,b<h.size->M' b=M b
 ag:AgM M' h'
theorem Later.refl(ag:AgM M h):Later h M h M:=⟨Keep.refl _ _,Fr.le.refl _,λ_ _=>rfl,ag⟩
theorem Later.trans{h h' h'':zc}{M M' M'':Fr}(a:Later h M h' M')(b:Later h' M' h'' M''):Later h M h'' M'':= ⟨a.keep.trans b.keep a.keep.size,a.le.trans b.le,λx c=>(b.old x (by have:=a.keep.size;omega)).trans (a.old x c),b.ag⟩
theorem Later.same(ag:AgM M h)(k:Keep h.size h h'):Later h M h' M:=⟨k,Fr.le.refl _,λ_ _=>rfl,ag.keep k⟩
theorem Later.push(ag:AgM M h)(o:Obj):Later h M (h.push o) M:=Later.same ag (Keep.push _ _ (zac _))
theorem PX.go{vs:Array Value}{b:List Ty}{R:iw b->Prop}(H:PX P f vs h M b R)(l:∀v h' M' r,Later h M h' M'->J4 M' b r v->R r->K v h'):XC P f vs h K:= XC.mono H λv h' ⟨k,M',r,e,m,i,j,c⟩=>l v h' M' r ⟨k,e,m,i⟩ j c
theorem PX.of{vs:Array Value}{b:List Ty}{R:iw b->Prop}(H:XC P f vs h λv h'=>∃M' r,Later h M h' M'/\J4 M' b r v/\R r):PX P f vs h M b R:= XC.mono H λv h' ⟨M',r,l,e,c⟩=>⟨l.keep,M',r,l.le,l.old,l.ag,e,c⟩
theorem PC.go{args:List Arg}{b:List Ty}{R:iw b->Prop}(H:PC P gl f args b R)(e:Fr.le gl M)(ag:AgM M h)(c:kT M args vs) (i:∀v h' M' r,Later h M h' M'->J4 M' b r v->R r->K v h'):XC P f vs.toArray h K:=(H.px e ag c).go i
theorem Y9{x:El t}(b:hY t=Tc):RdV M t x u↔Rd M t x [u]:=by unfold RdV;rw[b];simp
theorem Y1{x:El t}:J4 M [t] x v↔RdV M t x v:=by constructor;rintro⟨us,⟨u,rfl,h⟩,rfl⟩;exact h;intro h;exact⟨[v],⟨v,rfl,h⟩,rfl⟩
theorem Xh{b:Bool}(h:J4 M [.bool] b v):v=.bool b:=by have:=Y1.1 h;rw[Y9 rfl]at this;simpa[Rd]using this
theorem xV{k:IntKind}(h:J4 M [.int k] i v):v=.int k i:=by have:=Y1.1 h;rw[Y9 rfl]at this;simpa[Rd]using this
theorem lG{s:Bt}(h:J4 M [.str] s v):v=.string s:=by have:=Y1.1 h;rw[Y9 rfl]at this;simpa[Rd]using this
theorem qj:kT M [] []:=trivial
theorem zr{a:Arg}{l:List Arg}{us:List Value}(h:RdV M a.t a.x u)(b:kT M l us):kT M (a::l) (u::us):=⟨h,b⟩
theorem rdStr(s:Bt):RdV M .str s (.string s):=by rw[Y9 rfl];rfl
theorem Ja(k:IntKind)(i:Int):RdV M (.int k) i (.int k i):=by rw[Y9 rfl];rfl
theorem rdBool(b:Bool):RdV M .bool b (.bool b):=by rw[Y9 rfl];rfl
theorem Ze{s:Bt}(h:RdV M .str s u):u=.string s:=by rw[Y9 rfl]at h;simpa[Rd]using h
theorem rS{k:IntKind}(h:RdV M (.int k) i u):u=.int k i:=by rw[Y9 rfl]at h;simpa[Rd]using h
theorem qp{v:Tr}(h:RdV M .tree v u):∃sk si:Sl,u=.agg #[.int .i64 v.kind,.string v.text,aK sk,aK si]/\Rd M (.row .str) v.keys [aK sk]/\Rd M (.row .tree) v.items [aK si]:=by unfold RdV at h;simp only[hY,if_true]at h;obtain⟨cs,rfl,j⟩:=h;obtain⟨m,n,rfl,h1,e⟩:=TrRd.keys j;have c:=h1;have b:=e;obtain⟨w1,f,a1,c1,k,_⟩:=c;obtain⟨w2,i,a2,c2,l,_⟩:=b;simp only[zc9,and_true]at f i;subst f;subst i;subst k;subst l;exact⟨⟨a1,v.keys.length,c1⟩,⟨a2,v.items.length,c2⟩,rfl,h1,e⟩
theorem qe{v:Tr}{sk si:Sl}(h1:Rd M (.row .str) v.keys [aK sk])(b:Rd M (.row .tree) v.items [aK si]):RdV M .tree v (.agg #[.int .i64 v.kind,.string v.text,aK sk,aK si]):=by unfold RdV;simp only[hY,if_true];exact⟨[.int .i64 v.kind,.string v.text,aK sk,aK si],rfl,by cases v;exact TrRd.of h1 b⟩
theorem Xq{xs:List (El t)}(h:RdV M (.row t) xs u):∃s:Sl,u=aK s/\Rd M (.row t) xs [aK s]:=by rw[Y9 rfl]at h;have h':=h;obtain⟨w,e,a,c,q,_⟩:=h';simp only[zc9,and_true]at e;subst e;subst q;exact⟨⟨a,xs.length,c⟩,rfl,h⟩
theorem rowLen{xs:List (El t)}{s:Sl}(h:Rd M (.row t) xs [aK s]):s.len=xs.length/\xs.length<=140737488355328/\xs.length<=s.cap:=by obtain⟨w,e,a,c,q,b,_⟩:=h;simp only[zc9,and_true]at e;subst e;simp only[aK,zbo]at q;obtain⟨_,f,i⟩:=q;exact⟨f,b.1,by rw[i];exact b.2⟩
theorem rowAt{xs:List (El t)}{s:Sl}(h:Rd M (.row t) xs [aK s])(f:k<xs.length):∃b o cs,s.a=Td ⟨b,o,Te⟩/\M b=Td cs/\Rd M t xs[k] (cut cs (o+k*sz t) (sz t)):=by obtain⟨w,e,a,c,q,u,j⟩:=h;simp only[zc9,and_true]at e;subst e;simp only[aK,zbo]at q;obtain⟨h1,n,r⟩:=q;rcases j with rfl|⟨b,o,cs,l,i,m⟩;simp at f;exact⟨b,o,cs,by rw[h1,l],i,m k f⟩
theorem nP{M:Fr}{h:zc}(ag:AgM M h){b:Nat}{cs:Array Value}(j:M b=Td cs):∀{vs:List Value} {o i:Nat},cut cs (o+i) vs.length=vs->ze h ⟨b,o,Te⟩ i vs
 |[],_,_,_=>trivial
 |v::vs,o,i,e=>by
  unfold cut at e;have c:o+i<cs.toList.length:=by rcases zb0 (o+i) cs.toList.length with f|f;exact f;rw[zce f]at e;simp at e
  rw[zbt c,zaw,zea]at e;injection e with e1 e2;refine⟨?_,nP ag j (i:=i+1) e2⟩;rw[zf];refine ag.cell j ?_;rw[zcl (by simpa using c),<-e1];simp
theorem IQ(ag:AgM M h){b:Nat}{cs:Array Value}(c:M b=Td cs){o:Nat}(e:cut cs o 1=[v]):zd h ⟨b,o,Te⟩=Td v:=by have:=nP (vs:=[v]) (o:=o) (i:=0) ag c (by simpa using e);exact this.1
theorem ic(b o n:Nat):(⟨b,o,Te⟩:Addr).add n=⟨b,o+n,Te⟩:=zf b o n
theorem jP(ag:AgM M h){xs:List Bt}{s:Sl}(H:Rd M (.row .str) xs [aK s])(f:k<xs.length)(hi:i=(k:Int)){L:Nat}(hL:L=s.len){Q:Bt->Prop}(e:Q xs[k]):
  ∃a:Addr,(s.a=Td a/\0<=i/\i<(L:Int))/\∃x:Bt,zd h (a.add (i.toNat*1))=Td (.string x)/\Q x:=by
 obtain⟨b,o,cs,j,c,l⟩:=rowAt H f;have m:=(rowLen H).1;refine⟨_,⟨j,by omega,by omega⟩,xs[k],?_,e⟩;rw[ic,hi,zae];exact IQ ag c l
theorem Jt(ag:AgM M h){xs:List Tr}{s:Sl}(H:Rd M (.row .tree) xs [aK s])(f:k<xs.length):∃(a:Addr) (sk si:Sl),s.a=Td a/\ze h (a.add (k*4)) 0 [.int .i64 xs[k].kind,.string xs[k].text,aK sk,aK si]/\Rd M (.row .str) xs[k].keys [aK sk]/\Rd M (.row .tree) xs[k].items [aK si]:=by
 obtain⟨b,o,cs,j,e,l⟩:=rowAt H f;have m:RdV M .tree xs[k] (.agg (cut cs (o+k*sz .tree) (sz .tree)).toArray):=by unfold RdV;simp only[hY,if_true];exact⟨_,rfl,l⟩
 obtain⟨sk,si,q,h1,c⟩:=qp m;refine⟨_,sk,si,j,?_,h1,c⟩;rw[ic];refine nP ag e (i:=0) ?_;have:(cut cs (o+k*sz .tree) (sz .tree))=[.int .i64 xs[k].kind,.string xs[k].text,aK sk,aK si]:=by injection q with q;exact congrArg zdu q
 exact this
def Mx(M:Fr)(b:Nat)(cs:Array Value):Fr:=λi=>if i=b then Td cs else M i
theorem Later.frz(ag:AgM M h)(cs:Array Value)(T:TypeId):Later h M (h.push (.cells cs T)) (Mx M h.size cs) where
 keep:=Keep.push _ _ (zac _)
 le:=λb c e=>by have:=ag.lt e;unfold Mx;rw[zv (by omega)];exact e
 old:=λb hb=>by unfold Mx;rw[zv (by omega)]
 ag:=λb c e=>by unfold Mx at e;split at e;rename_i hb;subst hb;cases e;exact⟨T,(0,0),yc _ _⟩;obtain⟨T',m,e'⟩:=ag b c e;exact⟨T',m,by rw[(Keep.push h _ (zac _)).get b (ag.lt e)];exact e'⟩
theorem D5(M:Fr)(b:Nat)(cs:Array Value):Mx M b cs b=Td cs:=by unfold Mx;rw[zA rfl]
theorem rP{T:TypeId}(k:Keep (h.size+1) (h.push (.cells cs.toArray T)) h'):ze h' ⟨h.size,0,Te⟩ 0 cs:= ((Blk.new h cs.toArray T).keep (k.get _ (by omega))).ld
theorem KJ{T:TypeId}(k:Keep (h.size+1) (h.push (.cells cs.toArray T)) h'){i:Nat}(b:cs[i]?=Td v):zd h' ((⟨h.size,0,Te⟩:Addr).add i)=Td v:=by have:=((Blk.new h cs.toArray T).keep (k.get _ (by omega)));exact this.cellAdd (o:=0) (by simpa using b)
end
end
section
open Go.ChangeShapes Go.WideShapes Go.RowKit
set_option linter.unusedVariables false
section
variable {a:Addr} {cs:List Value} {fuel:Nat} {t e:TypeId} {P:Program}
def Fz(W:World):Fr:=λb=>match W.heap[b]? with|some (.cells cs _ _)=>some cs|_=>none
theorem Fz.ag(W:World):AgM (Fz W) W.heap:=by intro b c e;unfold Fz at e;split at e;rename_i cs T m f;cases e;exact⟨T,m,f⟩;cases e
theorem Fz.cell{W:World}{v:Value}(h:W.cell? a=some v):∃b o c,a=⟨b,o,none⟩/\Fz W b=some c/\c[o]?=some v:=by
 obtain⟨b,o,sp⟩:=a;unfold World.cell? at h;split at h;rename_i c T m e;cases sp with
 |some x=>simp at h
 |none=>refine⟨b,o,c,rfl,?_,by simpa using h⟩;unfold Fz;change W.heap[b]?=_ at e;rw[e]
 cases h
theorem Fz.cells{W:World}{n:Nat}(h:W.cells? 0 a n=some cs)(u:0<n):∃b o c,a=⟨b,o,none⟩/\Fz W b=some c/\cut c o n=cs:=by
 obtain⟨_,w,m⟩:=World.cells?_some h;have h0:=m 0 u;rw[zai (by omega)]at h0;obtain⟨b,o,c,e,k,_⟩:=Fz.cell h0;obtain⟨r,l,sp⟩:=a;rw[show zab ⟨r,l,sp⟩ 0=⟨r,l,sp⟩from rfl]at e;cases e;refine⟨b,o,c,rfl,k,?_⟩;have f:∀i,i<n->c[o+i]?=cs[i]?:=λi hi=>by have h1:=m i hi;rw[zai (by omega)]at h1 ⊢;obtain⟨b2,x,c2,q,j,t⟩:=Fz.cell h1;rw[zf]at q;cases q;rw[k]at j;cases j;exact t
 unfold cut;apply zbd;intro i;by_cases hi:i<n;rw[zbk,if_pos hi,zb6,<-f i hi];simp;rw[zbk,if_neg hi,zby (by omega)]
theorem Ox{α:Type}{Q:Nat->α->Prop}(n:Nat)(h:∀i,i<n->∃z,Q i z):∃xs:List α,xs.length=n/\∀i (hi:i<xs.length),Q i xs[i]:=by refine⟨List.ofFn λi:Fin n=>Classical.choose (h i i.2),by simp,λi hi=>?_⟩;rw[List.getElem_ofFn];exact Classical.choose_spec (h i (by simpa using hi))
section
variable {H : Type} {enc : TypeId × Value -> H} {P : Program} {W : World} {sp : Nat -> Bool} {held : Bool}
def oC(P:Program)(t:TypeId)(d:DataW H):Prop:=∀n∈d.weights P t,n<=reachBytes
theorem JE{e:TypeId}{y:DataW H}:∀{l:List (DataW H)},y∈l->∀n∈y.weights P e,n∈DataW.weightsAll P e l
 |x::l,b,n,hn=>by unfold DataW.weightsAll;rcases zan.1 b with rfl|b;exact zau _ hn;exact zbf _ (JE b n hn)
theorem Cf{T : Ty}{x : DataW H × List MemPlace}(ht : P.underlying t = some (.slice e))(hz : P.cellsOf e = sz T)(hp : 0 < sz T)(hby : 0 < P.bytesOf e) (hel : ∀ n, n < fuel -> ∀ cs y, DataW.trod enc P W 0 sp held n e cs = some y -> oC P e y.1 -> ∃ z : El T, Rd (Fz W) T z cs)
    (h : DataW.trod enc P W 0 sp held fuel t cs = some x) (hw : oC P t x.1) : ∃ xs : List (El T), Rd (Fz W) (.row T) xs cs := by
  rcases DataW.trod_slice ht h with ⟨rfl, _⟩ | ⟨a, len, cap, elems, rest, n, rfl, rfl, hx, _, hlc, hcap, hlen, hi, _, _⟩;exact ⟨[], _, rfl, none, 0, rfl, ⟨by simp, by simp⟩, .inl rfl⟩
  · have hwt : ∀ m, m = (elems.length + rest.length) * P.bytesOf e \/ m ∈ DataW.weightsAll P e (elems.map (·.1)) -> m <= reachBytes := λm hm => hw m (by rw [hx];unfold DataW.weights;rw [ht];simp only [zan, zaj, zap];rcases hm with hm | hm;exact .inl hm;exact .inr (.inl hm));have hmax : len <= 140737488355328 := by
      have h1 := hwt _ (.inl rfl);have h2 : elems.length + rest.length <= (elems.length + rest.length) * P.bytesOf e := Nat.le_mul_of_pos_right _ hby;have h3 : reachBytes <= 140737488355328 := by decide
      omega
    have key : ∀ i, i < len -> ∃ z : El T, ∃ b o c, a.add (i * sz T) = ⟨b, o, none⟩ /\ Fz W b = some c /\ Rd (Fz W) T z (cut c o (sz T)) := λi hil => by have h1 := hi i hil;rw [zai (by omega), Option.bind_eq_some_iff] at h1;obtain ⟨cc, h2, h3⟩ := h1;rw [hz] at h2;obtain ⟨b, o, c, e1, e2, e3⟩ := Fz.cells h2 hp;obtain ⟨z, hz⟩ := hel n (by omega) _ _ h3 λm hm => hwt m (.inr (JE (zay.2 ⟨elems[i], zak (by omega), rfl⟩) m hm));exact ⟨z, b, o, c, e1, e2, by rw [e3]; exact hz⟩
    obtain ⟨xs, hxl, hxs⟩ := Ox len key;subst hxl;refine ⟨xs, _, rfl, some a, cap, rfl, ⟨by omega, hlc⟩, ?_⟩;by_cases h0 : xs.length = 0;exact .inl (zbb h0);obtain ⟨b, o, c, e1, e2, _⟩ := hxs 0 (by omega);obtain ⟨ab, ao, asp⟩ := a;rw [zeg, show zab ⟨ab, ao, asp⟩ 0 = ⟨ab, ao, asp⟩ from rfl] at e1;cases e1;refine .inr ⟨b, o, c, rfl, e2, λi hil => ?_⟩;obtain ⟨b', o', c', e1', e2', e3'⟩ := hxs i hil;rw [zf] at e1';cases e1';rw [e2] at e2'; cases e2';simpa using e3'
theorem Do{x:DataW H×List MemPlace}(b:P.underlying t=some .string)(h:DataW.trod enc P W 0 sp held fuel t cs=some x):∃s:El .str,Rd (Fz W) .str s cs:=by obtain⟨s,rfl,_,_⟩:=DataW.trod_string b h;exact⟨s,rfl⟩
theorem Sb{k:IntKind}{x:DataW H×List MemPlace}(b:P.underlying t=some (.int k))(h:DataW.trod enc P W 0 sp held fuel t cs=some x):∃s:El (.int k),Rd (Fz W) (.int k) s cs:=by obtain⟨s,rfl,_,_⟩:=DataW.trod_int b h;exact⟨s,rfl⟩
theorem U3{x:DataW H×List MemPlace}(j:P.underlying t=some (.slice e))(f:P.underlying e=some .string)(k:P.cellsOf e=1)(b:0<P.bytesOf e)
  (h:DataW.trod enc P W 0 sp held fuel t cs=some x) (c:oC P t x.1):∃xs:List ByteArray,Rd (Fz W) (.row .str) xs cs:=
 Cf (T:=.str) j k (by decide) b (λn _ cs y i _=>Do f i) h c
theorem four{a b c d:Value}(h:cs.length=4)(h0:(cs.drop 0).take 1=[a])(h1:(cs.drop 1).take 1=[b])(e:(cs.drop 2).take 1=[c])(f:(cs.drop 3).take 1=[d]):cs=[a,b,c,d]:=by
 match cs,h with
 |[w,x,y,z],_=>simp at h0 h1 e f;subst h0;subst h1;subst e;subst f;rfl
theorem KB{c ts tss tvs tk:TypeId}{o q e i:Field}(F:P.underlying c=some (.struct #[o,q,e,i]))(E:P.cellsOf c=4) (Y:o.type=tk/\o.offset=0/\q.type=ts/\q.offset=1/\e.type=tss/\e.offset=2/\i.type=tvs/\i.offset=3) (L:P.underlying tk=some (.int .i64)) (us:P.underlying ts=some .string) (z:P.underlying tss=some (.slice ts)) (w:P.underlying tvs=some (.slice c)) (U:P.cellsOf tk=1) (cs':P.cellsOf ts=1) (r:P.cellsOf tss=1) (A:P.cellsOf tvs=1) (bs:0<P.bytesOf ts) (bv:0<P.bytesOf c):
  ∀(fuel:Nat) (cs:List Value) (x:DataW H×List MemPlace),DataW.trod enc P W 0 sp held fuel c cs=some x->oC P c x.1->∃t:Tr,Rd (Fz W) .tree t cs:=by
 intro fuel;induction fuel using Nat.strongRecOn with
 |_ fuel ih=>intro cs x h Z;obtain⟨xs,n,rfl,hx,hl,u,b⟩:=DataW.trod_struct F h;have l:∀(j:Nat) (f:Field) (I:j<xs.length),(#[o,q,e,i]:Array Field)[j]?=some f->oC P f.type (xs[j]).1:=λj f I hf m G=>Z m (by rw[hx];unfold DataW.weights;rw[F];exact DataW.weights_mem_each (j:=j) (t:=f.type) (d:=(xs[j]).1) (by rw[zcc,zbh,hf];rfl) (by rw[zcc,zai I];rfl) m G);obtain⟨a0,o0,a1,V,a2,Q,D,o3⟩:=Y;have g0:=b 0 o rfl;have g1:=b 1 q rfl;have g2:=b 2 e rfl;have J:=b 3 i rfl;have C:xs.length=4:=u;rw[a0,o0,U,zai (by omega)]at g0;rw[a1,V,cs',zai (by omega)]at g1;rw[a2,Q,r,zai (by omega)]at g2;rw[D,o3,A,zai (by omega)]at J;obtain⟨k,M⟩:=Sb L g0;obtain⟨s,e1⟩:=Do us g1;obtain⟨ks,S⟩:=U3 z us cs' bs g2 (by have:=l 2 e (by omega) rfl;rw[a2]at this;exact this);obtain⟨is,e3⟩:=Cf (T:=.tree) w E (by decide) bv (λm G cs y hy B=>ih m (by omega) cs y hy B) J (by have:=l 3 i (by omega) rfl;rw[D]at this;exact this);obtain⟨vk,q2,N⟩:=S;obtain⟨vi,O,h3⟩:=e3;have:=four (hl.trans E) M e1 q2 O;subst this;exact⟨.mk k s ks is,TrRd.of ⟨vk,rfl,N⟩ ⟨vi,rfl,h3⟩⟩
end
theorem Vq{f:FuncId}{W:World}{args:List Arg}{vs:Array Value}(H:PC P (Fz W) f args [.bool] (λr=>r=true))(i:kT (Fz W) args vs.toList):
  Calls P f vs W λe w'=>e=.returned (.bool true)/\Below W.heap.size W w':=by
 have c:=H W.heap (Fz W) vs.toList (Fr.le.refl _) (Fz.ag W) i;rw[Array.toArray_toList]at c;refine(c W W.drawn).mono ?_;rintro e w' ⟨v,j,h',rfl,rfl,k,M',r,_,_,_,h,b⟩;have b:r=true:=b;subst b;rw[Xh h];exact⟨rfl,rfl,rfl,rfl,k.size,k.get⟩
theorem FA{M:Fr}{t:Tr}{cs:Array Value}(h:Rd M .tree t cs.toList):RdV M .tree t (.agg cs):=by unfold RdV;simp only[hY,if_true];exact⟨cs.toList,by simp,h⟩
theorem Fz.var{W:World}{n:String}{g:Nat}{cs:Array Value}(b:P.globalNamed n=some g)(h:W.var? P n=some cs):Fz W g=some cs:=by unfold World.var? at h;rw[b]at h;exact h
end
end
end Go.X
namespace Go.Proofs
section
theorem Tryz.mixed:zbj.follows .mixedOrders=true:=by kernel_rfl
noncomputable abbrev Tp:= zbj
end
end Go.Proofs
namespace Go.X
section
section
theorem PF{gl:Fr}{args:List Arg}{f:FuncId}{fn:Func}{b:List Ty}{R:iw b->Prop}{F:Prop}(pl:PlanA)(rs:List ResultVar)(n:Nat)(c:zbj.funcs[f]?=Td fn)(H:F)(i:Yd fn=Ta:=by kernel_rfl)(h:fn.results.toList=rs:=by kernel_rfl)(j:fn.ntmps=n:=by kernel_rfl)(hz:Nat.ble args.length n=Ta:=by kernel_rfl)(e:F=WA Tp gl 25 n pl (codeOf fn) [] (x5 Tp rs b R) (oD 0 args) []:=by kernel_rfl):PC Tp gl f args b R:=ZR Tryz.mixed gl 25 pl args c i h j hz H e
theorem YU(gl:Fr)(f:Tr)(e:Int)(R:Bool->Prop) (H:PC Tp gl 53 [Arg.mk .tree (Tr.mk f.kind f.text f.keys f.items),Arg.mk PJ e,Arg.mk PJ 0] [.int .i64] (λa:Int=>∃b:Bool->Prop,(decide (a>=0)=Ta->PC Tp gl 54 [Arg.mk .tree (Tr.mk f.kind f.text f.keys f.items)] [.bool] b)/\∀c:Bool,(decide (a>=0)=Ta->b c)->R (bif (decide (a>=0))then c else Tc))):
  PC Tp gl 12 [Arg.mk .tree f,Arg.mk PJ e] [.bool] R:=
 PF ⟨[],[],[],[]⟩ [.tmp 4] 15 Tryz.func12 H
theorem LO(gl:Fr)(e:Bt)(R:(Int×Bool)->Prop) (H:(((!(bif (e.toList==(⟨#[]⟩:Bt).toList)then Ta else(decide ((e.size:Int)>9))))&&(!(e.toList==(⟨#[48]⟩:Bt).toList)))=Ta->(0<=(0:Int)/\(0:Int)<(e.size:Int)))/\∃a:Bool->Prop,((!(bif (bif (e.toList==(⟨#[]⟩:Bt).toList)then Ta else(decide ((e.size:Int)>9)))then Ta else(bif (!(e.toList==(⟨#[48]⟩:Bt).toList))then((yf e (0:Int).toNat:Int)==48)else Tc)))=Ta->PC Tp gl 365 [Arg.mk .str e,Arg.mk .str (⟨#[43,45,95]⟩:Bt)] [.bool] a)/\∀b:Bool,((!(bif (bif (e.toList==(⟨#[]⟩:Bt).toList)then Ta else(decide ((e.size:Int)>9)))then Ta else(bif (!(e.toList==(⟨#[48]⟩:Bt).toList))then((yf e (0:Int).toNat:Int)==48)else Tc)))=Ta->a b)->((bif (bif (bif (e.toList==(⟨#[]⟩:Bt).toList)then Ta else(decide ((e.size:Int)>9)))then Ta else(bif (!(e.toList==(⟨#[48]⟩:Bt).toList))then((yf e (0:Int).toNat:Int)==48)else Tc))then Ta else b)=Ta->R (0,Tc))/\((bif (bif (bif (e.toList==(⟨#[]⟩:Bt).toList)then Ta else(decide ((e.size:Int)>9)))then Ta else(bif (!(e.toList==(⟨#[48]⟩:Bt).toList))then((yf e (0:Int).toNat:Int)==48)else Tc))then Ta else b)=Tc->PC Tp gl 366 [Arg.mk .str e] [.int .i64,.err] (λc:Int×Bool=>((!c.2)=Ta->R (0,Tc))/\((!c.2)=Tc->R (c.1,Ta))))):
  PC Tp gl 315 [Arg.mk .str e] [.int .i64,.bool] R:=
 PF ⟨[],[],[],[]⟩ [.tmp 2,.tmp 3] 34 Tryz.func315 H
theorem OL(gl:Fr)(b:List Bt)(c:List Tr)(R:Tr->Prop) (H:R (Tr.mk 6 (⟨#[]⟩:Bt) b c)):
  PC Tp gl 47 [Arg.mk (.row .str) b,Arg.mk (.row .tree) c] [.tree] R:=
 PF ⟨[],[],[],[]⟩ [.cell 4 25] 8 Tryz.func47 H
theorem VZ(gl:Fr)(b:List Tr)(R:Tr->Prop) (H:R (Tr.mk 5 (⟨#[]⟩:Bt) [] b)):
  PC Tp gl 52 [Arg.mk (.row .tree) b] [.tree] R:=
 PF ⟨[],[],[],[]⟩ [.cell 2 25] 5 Tryz.func52 H
theorem TX(gl:Fr)(n0:Int)(R:Tr->Prop) (H:PC Tp gl 93 [Arg.mk PJ n0] [.pair .bool (.pair .str (.int .i64))] (λa:Bool×Bt×Int=>PC Tp gl 92 [Arg.mk (.pair .bool (.pair .str (.int .i64))) (a.1,(a.2.1,a.2.2))] [.str] (λb:Bt=>R (Tr.mk 3 b [] [])))):
  PC Tp gl 51 [Arg.mk PJ n0] [.tree] R:=
 PF ⟨[],[],[],[]⟩ [.cell 2 25] 7 Tryz.func51 H
theorem TQ(gl:Fr)(b:Bt)(R:Bool->Prop) (H:PC Tp gl 196 [Arg.mk .str b] [.int .i64,.bool] (λa:Int×Bool=>R a.2)):
  PC Tp gl 137 [Arg.mk .str b] [.bool] R:=
 PF ⟨[],[],[],[]⟩ [.tmp 2] 11 Tryz.func137 H
theorem Rw(gl:Fr)(j:Tr)(i:Int)(h:Int)(R:Int->Prop) (H:(decide (h>60)=Ta->R (-1))/\(decide (h>60)=Tc->∃(a:Int->Int->Prop) (b:Int->Int->Nat),a (w6 ((w6 (i-1))-(j.keys.length:Int))) 0/\∀c d:Int,a c d->(((bif (decide (d<j.items.length))then(decide (c>=0))else Tc)=Ta->∃e,(0<=d/\j.items[d.toNat]?=Td e)/\PC Tp gl 53 [Arg.mk .tree (Tr.mk e.kind e.text e.keys e.items),Arg.mk PJ c,Arg.mk PJ (w6 (h+1))] [.int .i64] (λf:Int=>(a f (w6 (d+1))/\b f (w6 (d+1))<b c d)))/\((bif (decide (d<j.items.length))then(decide (c>=0))else Tc)=Tc->R c)))):
  PC Tp gl 53 [Arg.mk .tree j,Arg.mk PJ i,Arg.mk PJ h] [.int .i64] R:=
 PF ⟨[],[],[(5,⟨[(1,.one (.dat PJ)),(7,.one (.dat PJ))],[],[3],[100064,100448]⟩)],[]⟩ [.tmp 6] 37 Tryz.func53 H
theorem Uy(gl:Fr)(h:Tr)(R:Bool->Prop) (H:(decide ((h.text.size:Int)>2048)=Ta->R Tc)/\(decide ((h.text.size:Int)>2048)=Tc->∃(a:Int->Prop) (b:Int->Nat),a 0/\∀c:Int,a c->((decide (c<h.keys.length)=Ta->∃d,(0<=c/\h.keys[c.toNat]?=Td d)/\(decide ((d.size:Int)>1024)=Ta->R Tc)/\(decide ((d.size:Int)>1024)=Tc->(a (w6 (c+1))/\b (w6 (c+1))<b c)))/\(decide (c<h.keys.length)=Tc->∃(e:Int->Prop) (f:Int->Nat),e 0/\∀g:Int,e g->((decide (g<h.items.length)=Ta->∃i,(0<=g/\h.items[g.toNat]?=Td i)/\PC Tp gl 54 [Arg.mk .tree (Tr.mk i.kind i.text i.keys i.items)] [.bool] (λj:Bool=>((!j)=Ta->R Tc)/\((!j)=Tc->(e (w6 (g+1))/\f (w6 (g+1))<f g))))/\(decide (g<h.items.length)=Tc->R Ta)))))):
  PC Tp gl 54 [Arg.mk .tree h] [.bool] R:=
 PF ⟨[],[],[(4,⟨[(3,.one (.dat PJ))],[],[1],[100192]⟩),(9,⟨[(4,.one (.dat PJ))],[],[1],[100256]⟩)],[]⟩ [.tmp 2] 39 Tryz.func54 H
theorem WE(gl:Fr)(n0:Bool×Bt×Int)(R:Bt->Prop) (H:PC Tp gl 158 [Arg.mk (.pair .bool (.pair .str (.int .i64))) (n0.1,(n0.2.1,n0.2.2))] [.bool] (λa:Bool=>((!a)=Ta->R (⟨#[]⟩:Bt))/\((!a)=Tc->((n0.2.1.toList==(⟨#[]⟩:Bt).toList)=Ta->R (⟨#[48]⟩:Bt))/\((n0.2.1.toList==(⟨#[]⟩:Bt).toList)=Tc->∀b:Bt->Prop,(∀c:Bt,(((n0.2.2 != 0)=Ta->PC Tp gl 159 [Arg.mk PJ n0.2.2] [.str] (λd:Bt=>j6 (((⟨#[101]⟩:Bt)).size+d.size)/\j6 (c.size+((⟨#[101]⟩:Bt)++d).size)/\R (c++((⟨#[101]⟩:Bt)++d))))/\((n0.2.2 != 0)=Tc->R c))->b c)->(n0.1=Ta->j6 (((⟨#[45]⟩:Bt)).size+n0.2.1.size)/\b ((⟨#[45]⟩:Bt)++n0.2.1))/\(n0.1=Tc->b n0.2.1))))):
  PC Tp gl 92 [Arg.mk (.pair .bool (.pair .str (.int .i64))) n0] [.str] R:=
 PF ⟨[],[],[],[(8,⟨[(3,.one (.dat .str))],[],[1],[100192]⟩)]⟩ [.tmp 2] 26 Tryz.func92 H
theorem Mp(gl:Fr)(n0:Int)(R:(Bool×Bt×Int)->Prop) (H:PC Tp gl 159 [Arg.mk PJ n0] [.str] (λa:Bt=>PC Tp gl 160 [Arg.mk .str a] [.pair .bool (.pair .str (.int .i64)),.int .i64] (λb:(Bool×Bt×Int)×Int=>R (b.1.1,(b.1.2.1,b.1.2.2))))):
  PC Tp gl 93 [Arg.mk PJ n0] [.pair .bool (.pair .str (.int .i64))] R:=
 PF ⟨[],[],[],[]⟩ [.cell 2 110] 12 Tryz.func93 H
theorem TG(gl:Fr)(f:Bt)(R:(Int×Bool)->Prop) (H:PC Tp gl 246 [Arg.mk .str f] [.bool] (λa:Bool=>(a=Ta->R ((f.size:Int),Ta))/\(a=Tc->∃(b:(Bt×Nat)->Prop) (c:(Bt×Nat)->Nat),b (f,0)/\∀e:Bt×Nat,b e->(((iD e.1 e.2)=Ta->(iD e.1 e.2)=Ta/\(iD e.1 e.2)=Ta/\(((jC e.1 e.2:Int) != 65533)=Ta->(b (e.1,iH e.1 e.2)/\c (e.1,iH e.1 e.2)<c e))/\(((jC e.1 e.2:Int) != 65533)=Tc->(0<=(e.2:Int)/\(e.2:Int)<=(f.size:Int)/\(f.size:Int)<=(f.size:Int))/\PC Tp gl 247 [Arg.mk .str (f.extract (e.2:Int).toNat (f.size:Int).toNat)] [.int .i32,.int .i64] (λd:Int×Int=>((d.2==1)=Ta->R ((e.2:Int),Tc))/\((d.2==1)=Tc->(b (e.1,iH e.1 e.2)/\c (e.1,iH e.1 e.2)<c e)))))/\((iD e.1 e.2)=Tc->R ((f.size:Int),Ta)))))):
  PC Tp gl 196 [Arg.mk .str f] [.int .i64,.bool] R:=
 PF ⟨[],[],[(4,⟨[],[(13,[.dat .iter])],[],[1000832]⟩)],[]⟩ [.tmp 2,.tmp 3] 32 Tryz.func196 H
theorem ZW(gl:Fr)(e:Tr)(R:Bool->Prop) (H:PC Tp gl 43 [Arg.mk .tree (Tr.mk e.kind e.text e.keys e.items)] [.int .i64] (λa:Int=>∃b:Int->Prop,(decide (a<=4096)=Ta->PC Tp gl 144 [Arg.mk .tree (Tr.mk e.kind e.text e.keys e.items)] [.int .i64] b)/\∀c:Int,(decide (a<=4096)=Ta->b c)->R (bif (decide (a<=4096))then(decide (c<=32))else Tc))):
  PC Tp gl 86 [Arg.mk .tree e] [.bool] R:=
 PF ⟨[],[],[],[]⟩ [.tmp 2] 11 Tryz.func86 H
theorem Uu(gl:Fr)(e:Tr)(R:Bool->Prop) (H:((e.kind==5)=Ta->R (bif (!(decide ((e.keys.length:Int)>0)))then(e.text.toList==(⟨#[]⟩:Bt).toList)else Tc))/\((e.kind==5)=Tc->((e.kind==6)=Ta->PC Tp gl 147 [Arg.mk (.row .str) e.keys,Arg.mk PJ (e.items.length:Int)] [.bool] (λa:Bool=>R (bif a then(e.text.toList==(⟨#[]⟩:Bt).toList)else Tc)))/\((e.kind==6)=Tc->((bif (decide ((e.keys.length:Int)>0))then Ta else(decide ((e.items.length:Int)>0)))=Ta->R Tc)/\((bif (decide ((e.keys.length:Int)>0))then Ta else(decide ((e.items.length:Int)>0)))=Tc->((e.kind==1)=Ta->R (e.text.toList==(⟨#[]⟩:Bt).toList))/\((e.kind==1)=Tc->((e.kind==2)=Ta->R (bif (e.text.toList==(⟨#[116,114,117,101]⟩:Bt).toList)then Ta else(e.text.toList==(⟨#[102,97,108,115,101]⟩:Bt).toList)))/\((e.kind==2)=Tc->((e.kind==3)=Ta->PC Tp gl 148 [Arg.mk .str e.text] [.pair .bool (.pair .str (.int .i64)),.bool] (λb:(Bool×Bt×Int)×Bool=>R b.2))/\((e.kind==3)=Tc->((e.kind==4)=Ta->PC Tp gl 149 [Arg.mk .str e.text] [.bool] (λc:Bool=>R c))/\((e.kind==4)=Tc->((e.kind==7)=Ta->PC Tp gl 150 [Arg.mk .str e.text] [.bool] (λd:Bool=>R d))/\((e.kind==7)=Tc->R Tc))))))))):
  PC Tp gl 89 [Arg.mk .tree e] [.bool] R:=
 PF ⟨[],[],[],[]⟩ [.tmp 2] 79 Tryz.func89 H
theorem TP(gl:Fr)(n0:Bool×Bt×Int)(R:Bool->Prop) (H:(((n0.1==Tc)&&((n0.2.1.toList==(⟨#[]⟩:Bt).toList)&&((n0.2.2==0)&&Ta)))=Ta->R Ta)/\(((n0.1==Tc)&&((n0.2.1.toList==(⟨#[]⟩:Bt).toList)&&((n0.2.2==0)&&Ta)))=Tc->PC Tp gl 215 [Arg.mk .str n0.2.1] [.bool] (λa:Bool=>((!a)=Ta->((!a)=Ta->R Tc)/\((!a)=Tc->R (bif (decide (n0.2.2>=(-1000000)))then(decide (n0.2.2<=1000000))else Tc)))/\((!a)=Tc->(decide ((n0.2.1.size:Int)>1000)=Ta->(decide ((n0.2.1.size:Int)>1000)=Ta->R Tc)/\(decide ((n0.2.1.size:Int)>1000)=Tc->R (bif (decide (n0.2.2>=(-1000000)))then(decide (n0.2.2<=1000000))else Tc)))/\(decide ((n0.2.1.size:Int)>1000)=Tc->(0<=(0:Int)/\(0:Int)<(n0.2.1.size:Int))/\(((yf n0.2.1 (0:Int).toNat:Int)==48)=Ta->(((yf n0.2.1 (0:Int).toNat:Int)==48)=Ta->R Tc)/\(((yf n0.2.1 (0:Int).toNat:Int)==48)=Tc->R (bif (decide (n0.2.2>=(-1000000)))then(decide (n0.2.2<=1000000))else Tc)))/\(((yf n0.2.1 (0:Int).toNat:Int)==48)=Tc->(0<=(w6 ((n0.2.1.size:Int)-1))/\(w6 ((n0.2.1.size:Int)-1))<(n0.2.1.size:Int))/\(((yf n0.2.1 (w6 ((n0.2.1.size:Int)-1)).toNat:Int)==48)=Ta->R Tc)/\(((yf n0.2.1 (w6 ((n0.2.1.size:Int)-1)).toNat:Int)==48)=Tc->R (bif (decide (n0.2.2>=(-1000000)))then(decide (n0.2.2<=1000000))else Tc)))))))):
  PC Tp gl 158 [Arg.mk (.pair .bool (.pair .str (.int .i64))) n0] [.bool] R:=
 PF ⟨[],[],[],[]⟩ [.tmp 2] 34 Tryz.func158 H
theorem ZJ(gl:Fr)(t:Bt)(R:((Bool×Bt×Int)×Int)->Prop) (H:PC Tp gl 217 [Arg.mk .str t] [.pair .bool (.pair .bool (.pair .str (.pair .str .str))),.bool] (λa:(Bool×Bool×Bt×Bt×Bt)×Bool=>PC Tp gl 218 [Arg.mk .str a.1.2.2.2.2,Arg.mk .str (⟨#[48]⟩:Bt)] [.str] (λb:Bt=>((!a.2)=Ta->R ((Tc,((⟨#[]⟩:Bt),0)),2))/\((!a.2)=Tc->((decide ((w6 ((a.1.2.2.1.size:Int)+(a.1.2.2.2.1.size:Int)))>1000))=Ta->R ((Tc,((⟨#[]⟩:Bt),0)),3))/\((decide ((w6 ((a.1.2.2.1.size:Int)+(a.1.2.2.2.1.size:Int)))>1000))=Tc->(decide ((b.size:Int)>9)=Ta->R ((Tc,((⟨#[]⟩:Bt),0)),4))/\(decide ((b.size:Int)>9)=Tc->∃(c:Int->Bool->Bt->Int->(Bt×Nat)->Prop) (d:Int->Bool->Bt->Int->(Bt×Nat)->Nat),c 0 Tc (⟨#[]⟩:Bt) 0 (b,0)/\∀e:Int,∀m:Bool,∀l:Bt,∀n:Int,∀h:Bt×Nat,c e m l n h->(((iD h.1 h.2)=Ta->(iD h.1 h.2)=Ta/\(c (w6 ((w6 (10*e))+(w6 (zaa .i32 ((jC h.1 h.2)-48))))) m l n (h.1,iH h.1 h.2)/\d (w6 ((w6 (10*e))+(w6 (zaa .i32 ((jC h.1 h.2)-48))))) m l n (h.1,iH h.1 h.2)<d e m l n h))/\((iD h.1 h.2)=Tc->∀f:Int->Bool->Bt->Int->Prop,(∀g:Int,∀o:Bool,∀r:Bt,∀q:Int,(j6 (a.1.2.2.1.size+a.1.2.2.2.1.size)/\PC Tp gl 218 [Arg.mk .str (a.1.2.2.1++a.1.2.2.2.1),Arg.mk .str (⟨#[48]⟩:Bt)] [.str] (λi:Bt=>((i.toList==(⟨#[]⟩:Bt).toList)=Ta->R ((Tc,((⟨#[]⟩:Bt),0)),0))/\((i.toList==(⟨#[]⟩:Bt).toList)=Tc->PC Tp gl 219 [Arg.mk .str i,Arg.mk .str (⟨#[48]⟩:Bt)] [.str] (λj:Bt=>PC Tp gl 158 [Arg.mk (.pair .bool (.pair .str (.int .i64))) (a.1.1,(j,w6 ((w6 ((w6 (g-(a.1.2.2.2.1.size:Int)))+(i.size:Int)))-(j.size:Int))))] [.bool] (λk:Bool=>((!k)=Ta->R ((Tc,((⟨#[]⟩:Bt),0)),4))/\((!k)=Tc->R ((a.1.1,(j,w6 ((w6 ((w6 (g-(a.1.2.2.2.1.size:Int)))+(i.size:Int)))-(j.size:Int)))),0)))))))->f g o r q)->(a.1.2.1=Ta->f (w6 (0-e)) m l n)/\(a.1.2.1=Tc->f e m l n))))))))):
  PC Tp gl 160 [Arg.mk .str t] [.pair .bool (.pair .str (.int .i64)),.int .i64] R:=
 PF ⟨[],[],[(11,⟨[(7,.one (.dat PJ))],[(2,[.dat .bool,.dat .str,.dat PJ]),(41,[.dat .iter])],[4],[100448,1000128,1000129,1000130,1002624]⟩)],[(16,⟨[(7,.one (.dat PJ))],[(2,[.dat .bool,.dat .str,.dat PJ])],[4],[100448,1000128,1000129,1000130]⟩)]⟩ [.cell 2 110,.tmp 3] 86 Tryz.func160 H
theorem MW(gl:Fr)(h:Tr)(R:Int->Prop) (H:∃(a:Int->Int->Prop) (b:Int->Int->Nat),a 1 0/\∀c d:Int,a c d->((decide (d<h.items.length)=Ta->∃e,(0<=d/\h.items[d.toNat]?=Td e)/\PC Tp gl 43 [Arg.mk .tree (Tr.mk e.kind e.text e.keys e.items)] [.int .i64] (λf:Int=>(a (w6 (c+f)) (w6 (d+1))/\b (w6 (c+f)) (w6 (d+1))<b c d)))/\(decide (d<h.items.length)=Tc->R c))):
  PC Tp gl 43 [Arg.mk .tree h] [.int .i64] R:=
 PF ⟨[],[],[(3,⟨[(3,.one (.dat PJ)),(9,.one (.dat PJ))],[],[],[100192,100576]⟩)],[]⟩ [.tmp 2] 19 Tryz.func43 H
theorem RV(gl:Fr)(h:Tr)(R:Int->Prop) (H:∃(a:Int->Int->Prop) (b:Int->Int->Nat),a 0 0/\∀c d:Int,a c d->((decide (d<h.items.length)=Ta->∃e,(0<=d/\h.items[d.toNat]?=Td e)/\PC Tp gl 144 [Arg.mk .tree (Tr.mk e.kind e.text e.keys e.items)] [.int .i64] (λf:Int=>(a (if c<f then f else c) (w6 (d+1))/\b (if c<f then f else c) (w6 (d+1))<b c d)))/\(decide (d<h.items.length)=Tc->R (w6 (c+1))))):
  PC Tp gl 144 [Arg.mk .tree h] [.int .i64] R:=
 PF ⟨[],[],[(3,⟨[(3,.one (.dat PJ)),(9,.one (.dat PJ))],[],[],[100192,100576]⟩)],[]⟩ [.tmp 2] 20 Tryz.func144 H
theorem MU(gl:Fr)(b:Bt)(R:Bool->Prop) (H:PC Tp gl 196 [Arg.mk .str b] [.int .i64,.bool] (λa:Int×Bool=>R a.2)):
  PC Tp gl 149 [Arg.mk .str b] [.bool] R:=
 PF ⟨[],[],[],[]⟩ [.tmp 2] 11 Tryz.func149 H
theorem Um(gl:Fr)(c:Bt)(R:Bool->Prop) (H:PC Tp gl 148 [Arg.mk .str c] [.pair .bool (.pair .str (.int .i64)),.bool] (λa:(Bool×Bt×Int)×Bool=>PC Tp gl 209 [Arg.mk (.pair .bool (.pair .str (.int .i64))) (a.1.1,(a.1.2.1,a.1.2.2))] [.int .i64,.bool] (λb:Int×Bool=>R (bif (bif a.2 then b.2 else Tc)then(decide (b.1>=0))else Tc)))):
  PC Tp gl 150 [Arg.mk .str c] [.bool] R:=
 PF ⟨[],[],[],[]⟩ [.tmp 2] 25 Tryz.func150 H
theorem ZT(gl:Fr)(e:Bt)(R:Bool->Prop) (H:∃(a:(Bt×Nat)->Prop) (b:(Bt×Nat)->Nat),a (e,0)/\∀c:Bt×Nat,a c->(((iD c.1 c.2)=Ta->(iD c.1 c.2)=Ta/\((bif (decide ((jC c.1 c.2:Int)<48))then Ta else(decide ((jC c.1 c.2:Int)>57)))=Ta->R Tc)/\((bif (decide ((jC c.1 c.2:Int)<48))then Ta else(decide ((jC c.1 c.2:Int)>57)))=Tc->(a (c.1,iH c.1 c.2)/\b (c.1,iH c.1 c.2)<b c)))/\((iD c.1 c.2)=Tc->R (!(e.toList==(⟨#[]⟩:Bt).toList))))):
  PC Tp gl 215 [Arg.mk .str e] [.bool] R:=
 PF ⟨[],[],[(2,⟨[],[(6,[.dat .iter])],[],[1000384]⟩)],[]⟩ [.tmp 2] 18 Tryz.func215 H
theorem UF(gl:Fr)(e:Bt)(f:Bt)(R:(Bt×Bt×Bool)->Prop) (H:∃(a:Int->Prop) (b:Int->Nat),a 0/\∀c:Int,a c->((decide (c<e.size)=Ta->(0<=c/\c<e.size)/\PC Tp gl 319 [Arg.mk .str f,Arg.mk (.int .u8) (yf e c.toNat)] [.int .i64] (λd:Int=>(decide (d>=0)=Ta->(0<=(0:Int)/\(0:Int)<=c/\c<=e.size)/\(0<=(w6 (c+1))/\(w6 (c+1))<=(e.size:Int)/\(e.size:Int)<=(e.size:Int))/\R (e.extract (0:Int).toNat c.toNat,e.extract (w6 (c+1)).toNat (e.size:Int).toNat,Ta))/\(decide (d>=0)=Tc->(a (w6 (c+1))/\b (w6 (c+1))<b c))))/\(decide (c<e.size)=Tc->R (e,(⟨#[]⟩:Bt),Tc)))):
  PC Tp gl 268 [Arg.mk .str e,Arg.mk .str f] [.str,.str,.bool] R:=
 PF ⟨[],[],[(2,⟨[(10,.one (.dat PJ))],[],[],[100640]⟩)],[]⟩ [.tmp 4,.tmp 5,.tmp 6] 28 Tryz.func268 H
theorem NF(gl:Fr)(b:List Bt)(b1:List Bt)(R:Bool->Prop) (H:PC Tp gl 74 [Arg.mk (.row .str) b,Arg.mk (.row .str) b1] [.int .i64] (λa:Int=>R (a==0))):
  PC Tp gl 40 [Arg.mk (.row .str) b,Arg.mk (.row .str) b1] [.bool] R:=
 PF ⟨[],[],[],[]⟩ [.tmp 4] 9 Tryz.func40 H
theorem Sj(gl:Fr)(h:List Bt)(b1:List Bt)(R:Int->Prop) (H:∃(a:Int->Prop) (b:Int->Nat),a 0/\∀c:Int,a c->(((bif (decide (c<h.length))then(decide (c<b1.length))else Tc)=Ta->∃d,(0<=c/\h[c.toNat]?=Td d)/\∃e,(0<=c/\b1[c.toNat]?=Td e)/\((zdv d.toList e.toList)=Ta->R (-1))/\((zdv d.toList e.toList)=Tc->∃f,(0<=c/\h[c.toNat]?=Td f)/\∃g,(0<=c/\b1[c.toNat]?=Td g)/\((!(zdv f.toList g.toList||(f.toList==g.toList)))=Ta->R 1)/\((!(zdv f.toList g.toList||(f.toList==g.toList)))=Tc->(a (w6 (c+1))/\b (w6 (c+1))<b c))))/\((bif (decide (c<h.length))then(decide (c<b1.length))else Tc)=Tc->(decide ((h.length:Int)<(b1.length:Int))=Ta->R (-1))/\(decide ((h.length:Int)<(b1.length:Int))=Tc->(decide ((h.length:Int)>(b1.length:Int))=Ta->R 1)/\(decide ((h.length:Int)>(b1.length:Int))=Tc->R 0))))):
  PC Tp gl 74 [Arg.mk (.row .str) h,Arg.mk (.row .str) b1] [.int .i64] R:=
 PF ⟨[],[],[(2,⟨[(5,.one (.dat PJ))],[],[],[100320]⟩)],[]⟩ [.tmp 4] 46 Tryz.func74 H

end
section
abbrev bl(l:List UInt8):Bt:=⟨l.toArray⟩
abbrev lb(s:Bt):List UInt8:=s.data.toList
@[simp] theorem yo(l:List UInt8):lb (bl l)=l:=by simp[lb]
@[simp] theorem jp(s:Bt):bl (lb s)=s:=by cases s;simp[lb,bl]
theorem oN{s t:Bt}:lb s=lb t↔s=t:=⟨λh=>by rw[<-jp s,h,jp],λh=>by rw[h]⟩
theorem nv(s:Bt):(lb s).length=s.size:=by cases s;simp[lb,ByteArray.size]
theorem z4b(s t:Bt):lb (s++t)=lb s++lb t:=by cases s;cases t;simp[lb]
theorem ZL(s:Bt)(a b:Nat):lb (s.extract a b)=((lb s).drop a).take (b-a):=by cases s;simp[lb,ByteArray.data_extract,List.extract_eq_take_drop]
theorem Kz(s:Bt)(i:Nat):yf s i=((((lb s)[i]?).getD 0).toNat:Int):=by cases s;simp[lb,yf]
theorem KY(s:Bt)(i:Nat):s.get! i=((lb s)[i]?).getD 0:=by
 cases s with
 |mk d=>simp[lb,ByteArray.get!,Array.getElem!_eq_getD];rfl
def dec(l:List UInt8):Nat×Nat:=Go.Lib.decodeN l.length (l.getD 0 0).toNat (l.getD 1 0).toNat (l.getD 2 0).toNat (l.getD 3 0).toNat
theorem BX(s:Bt)(i:Nat):zfk s i=dec ((lb s).drop i):=by rw[Go.Lib.decode_at,dec];simp only[KY,zar,zb6,zb8,nv,zew]
theorem Qa(l:List UInt8):1<=(dec l).2/\(dec l).2<=4:=by
 unfold dec Go.Lib.decodeN;repeat' split
 all_goals simp
theorem zP{l:List UInt8}(h:l≠[]):(dec l).2<=l.length:=by
 have:0<l.length:=zb9.2 h;unfold dec Go.Lib.decodeN;repeat' split
 all_goals simp only
 all_goals omega
def jO(d:Nat×Nat):Bool:=d.1==65533&&d.2==1
def Qq(l:List UInt8):Bool:=if h:l=[]then Ta else if jO (dec l)then Tc else Qq (l.drop (dec l).2)
termination_by l.length
decreasing_by
 have h1:=Qa l;have h2:0<l.length:=zb9.2 h;simp only[zb8];omega
theorem y6:Qq []=Ta:=by unfold Qq;simp
theorem Ju{l:List UInt8}(h:l≠[]):Qq l=if jO (dec l)then Tc else Qq (l.drop (dec l).2):=by rw[Qq];simp[h]
theorem Jw{c:UInt8}{l:List UInt8}(h:c.toNat<128):dec (c::l)=(c.toNat,1):=by simp[dec,Go.Lib.decodeN,h]
theorem RG{c:UInt8}{l:List UInt8}(h:c.toNat<128):jO (dec (c::l))=Tc:=by
 rw[Jw h,jO];have:(c.toNat==65533)=Tc:=by simp;omega
 simp[this]
theorem KL{c:UInt8}{l:List UInt8}(h:c.toNat<128):Qq (c::l)=Qq l:=by rw[Ju (by simp),RG h,Jw h];simp
end
end
section
open Go.Lib
variable {i:Nat}
abbrev Bs:=List UInt8
theorem Sd{sub:Bs}{b:UInt8}{l:Bs}(h:sub.isPrefixOf (b::l)=Ta):index (b::l) sub=0:=by unfold index;rw[zA h]
theorem UR{sub:Bs}{b:UInt8}{l:Bs}(h:sub.isPrefixOf (b::l)=Tc)(h':index l sub=-1):index (b::l) sub=-1:=by unfold index;rw[zv (by simp[h]),zA (by simp[h'])]
theorem TC{sub:Bs}{b:UInt8}{l:Bs}(h:sub.isPrefixOf (b::l)=Tc)(h':index l sub=i):index (b::l) sub=((i+1:Nat):Int):=by
 unfold index;have:((i:Int)==-1)=Tc:=by rw[beq_eq_false_iff_ne];omega
 rw[zv (by simp[h]),h',zv (by simp[this])];omega
theorem uM(l sub:Bs):index l sub=-1\/∃i:Nat,index l sub=i:=by have:=index_ge l sub;by_cases h:index l sub=-1;exact .inl h;exact .inr ⟨(index l sub).toNat,by omega⟩
theorem XW{sub:Bs}(h:sub≠[]):index [] sub=-1:=by
 unfold index;cases sub with
 |nil=>exact absurd rfl h
 |cons a t=>rfl
theorem IB{l sub:Bs}(h:index l sub=i):i+sub.length<=l.length:=by have:=index_room l sub (by omega);omega
def kc(old new:Bs)(s:Bs):Bs:=
 if h:old=[]\/index s old=-1 then s else s.take (index s old).toNat++new++kc old new (s.drop ((index s old).toNat+old.length))
termination_by s.length
decreasing_by
 have h1:old≠[]:=λe=>h (.inl e);have h2:0<old.length:=zb9.2 h1;have h3:=index_ge s old;have h4:index s old≠-1:=λe=>h (.inr e);have h5:=index_room s old (by omega);simp only[zb8];omega
theorem rC{old new s:Bs}(h:index s old=-1):kc old new s=s:=by rw[kc,dif_pos (.inr h)]
theorem vy{old new s:Bs}(b:old≠[])(h:index s old=i):kc old new s=s.take i++new++kc old new (s.drop (i+old.length)):=by rw[kc,dif_neg (λe=>e.elim b λe=>by omega),h];simp
theorem countFrom_fuel{sub:Bs}(b:sub≠[]):∀(f:Nat) (s:Bs),s.length<f->∀g,s.length<g->countFrom sub f s=countFrom sub g s
 |0,_,h,_,_=>absurd h (zc5 _)
 |f+1,s,hf,0,hg=>absurd hg (zc5 _)
 |f+1,s,hf,g+1,hg=>by
  unfold countFrom;rcases uM s sub with e|⟨i,e⟩;simp[e];have c:((i:Int)==-1)=Tc:=by rw[beq_eq_false_iff_ne];omega
  rw[e,zv (by simp[c]),zv (by simp[c])];have h1:=IB e;have j:0<sub.length:=zb9.2 b;rw[countFrom_fuel b f _ (by simp only[zb8,zae];omega) g (by simp only[zb8,zae];omega)]
theorem count_hit{sub s:Bs}(b:sub≠[])(e:index s sub=i):count s sub=1+count (s.drop (i+sub.length)) sub:=by
 have c:((i:Int)==-1)=Tc:=by rw[beq_eq_false_iff_ne];omega
 have h1:=IB e;have f:0<sub.length:=zb9.2 b;rw[count,countFrom,e,zv (by simp[c]),count,zae,countFrom_fuel b s.length _ (by simp only[zb8];omega) ((s.drop (i+sub.length)).length+1) (by omega)]
theorem Il{old new:Bs}(b:old≠[]):∀(k:Nat) (s:Bs),count s old<=k->replaceK old new k s=kc old new s
 |0,s,h=>by rcases uM s old with e|⟨i,e⟩;rw[rC e];rfl;rw[count_hit b e]at h;omega
 |k+1,s,h=>by rcases uM s old with e|⟨i,e⟩;rw[rC e,replaceK,zA (by simp[e])];rw[vy b e,replaceK_hit _ _ _ _ _ e,Il b k];rw[count_hit b e]at h;omega
theorem yH{old new s:Bs}(b:old≠[])(c:old≠new):replaceAll s old new=kc old new s:=by unfold replaceAll replace;rw[zv (by simpa using c),replaceNum,zA (.inl (by omega))];exact Il b _ _ (zac _)
theorem XZ{old new:Bs}(b:old≠[]):kc old new []=[]:=rC (XW b)
theorem RF{old new:Bs}(c:old≠[])(b:UInt8)(l:Bs):kc old new (b::l)=if old.isPrefixOf (b::l)then new++kc old new ((b::l).drop old.length)else b::kc old new l:=by
 cases hp:old.isPrefixOf (b::l)with
 |true=>rw[vy (i:=0) c (Sd hp)];simp
 |false=>simp only[zcj,if_false];rcases uM l old with e|⟨i,e⟩;rw[rC (UR hp e),rC e];rw[vy c (TC hp e),vy c e,show i+1+old.length=(i+old.length)+1 by omega];simp
theorem uJ(c:UInt8)(new:Bs):∀l:Bs,kc [c] new l=l.flatMap λx=>if x=c then new else [x]
 |[]=>XZ (by simp)
 |b::l=>by rw[RF (by simp),zcd];simp only[List.isPrefixOf,zfe,beq_iff_eq,zcu,List.drop_succ_cons,zcm];rw[uJ c new l];by_cases h:c=b;subst h;simp;rw[zv h,zv (λe=>h e.symm)];simp
end
section
theorem XM{n:Int}(h1:-2147483648<=n)(f:n<=2147483647):zaa .i32 n=n:=by
 ((try unfold w6);unfold zaa);have e:(2:Int) ^ zb1 .i32=4294967296:=by decide
 have b:(2:Int) ^ (zb1 .i32-1)=2147483648:=by decide
 simp only[e,b];have c:zfi .i32=Ta:=rfl;grind
end
section
open Go.Shelf Go.RowKit
def Kv:Go.Shelf.Ren:=⟨fun|161=>218|231=>270|227=>271|233=>272|235=>273|228=>321|197=>247|151=>322|260=>298|152=>369|137=>319|119=>394|224=>358|225=>357|217=>356|266=>385|n=>n,fun|9=>9|4=>4|3=>3|5=>5|117=>281|116=>280|0=>0|124=>284|105=>256|21=>21|119=>305|46=>123|139=>308|138=>307|n=>n,fun|3=>0|4=>1|n=>n⟩
theorem Ph:Go.Proofs.Lays.n161 Tp Kv:=by constructor <;> intros <;> kernel_rfl
theorem Xr(s:Bt)(c:UInt8)(b:c.toNat<128)(w:World): Calls Tp 218 #[.string s,.string ⟨#[c]⟩] w λe w'=>e=.returned (.string ⟨(Lib.trimLeftB s.data.toList c).toArray⟩)/\w'=w:=Any.strings_TrimLeft_one Ph s c b w
def N2:Go.Shelf.Ren:=⟨fun|162=>219|232=>274|227=>271|234=>275|236=>276|228=>321|271=>323|151=>322|120=>370|197=>247|152=>369|260=>298|137=>319|119=>394|224=>358|225=>357|217=>356|266=>385|n=>n,fun|9=>9|4=>4|3=>3|5=>5|117=>281|116=>280|0=>0|124=>284|21=>21|105=>256|46=>123|119=>305|139=>308|138=>307|n=>n,fun|3=>0|4=>1|n=>n⟩
theorem VA:Go.Proofs.Lays.n162 Tp N2:=by constructor <;> intros <;> kernel_rfl
theorem Wo(s:Bt)(c:UInt8)(b:c.toNat<128)(w:World)(f:s.size<=9223372036854775807): Calls Tp 219 #[.string s,.string ⟨#[c]⟩] w λe w'=>e=.returned (.string ⟨(Lib.trimRightB s.data.toList c).toArray⟩)/\w'=w:=Any.strings_TrimRight_one VA s c b w f
def OA:Go.Shelf.Ren:=⟨fun|137=>319|217=>356|266=>385|n=>n,fun|9=>9|5=>5|3=>3|n=>n,fun|n=>n⟩
theorem KS:Go.Proofs.Lays.n137 Tp OA:=by constructor <;> intros <;> kernel_rfl
theorem xq(s:Bt)(c:Int)(w:World): Calls Tp 319 #[.string s,.int .u8 c] w λe w'=>e=.returned (.int .i64 (Lib.indexByte s.data.toList c.toNat.toUInt8))/\w'=w:=Any.strings_IndexByte KS s c w
def NE:Go.Shelf.Ren:=⟨fun|103=>267|210=>318|206=>306|n=>n,fun|9=>9|4=>4|24=>274|3=>3|n=>n,fun|n=>n⟩
theorem XA:Go.Proofs.Lays.n103 Tp NE:=by constructor <;> intros <;> kernel_rfl
theorem YI(s p:Bt)(w:World): Calls Tp 267 #[.string s,.string p] w λe w'=>e=.returned (.tuple #[.string ⟨(Lib.trimPrefix s.data.toList p.data.toList).toArray⟩,.bool (Lib.hasPrefix s.data.toList p.data.toList)])/\w'=w:=Any.strings_CutPrefix XA s p w
def S2:Go.Shelf.Ren:=⟨fun|242=>248|278=>299|n=>n,fun|37=>87|21=>21|51=>176|4=>4|5=>5|46=>123|n=>n,fun|n=>n⟩
theorem MK:Go.Proofs.Lays.n242 Tp S2:=by constructor <;> intros <;> kernel_rfl
theorem Wp(B:Nat)(v:Value)(n:Nat)(xs:List Value)(r:Int)(f:-2147483648<=r)(i:r<=2147483647)(w:World)(b:w.ownsRow B 5 1 v n xs)(c:n+4<=140737488355328)(h:B<=w.heap.size): Calls Tp 248 #[v,.int .i32 r] w λe w'=>∃j,e=.returned j/\w'.ownsRow B 5 1 j (n+(Lib.runeCells r).length) (xs++Lib.runeCells r)/\∃o,(w.alloc o).grownBy w' v.ownBlock:=Any.utf8_AppendRune_plain MK (by kernel_rfl) B v n xs r f i w b c h
def Tl:Go.Shelf.Ren:=⟨fun|171=>159|243=>216|246=>249|283=>300|284=>301|285=>302|286=>303|129=>178|317=>352|318=>353|319=>354|320=>355|337=>383|338=>384|n=>n,fun|3=>3|9=>9|2=>2|4=>4|171=>309|0=>0|53=>178|37=>87|5=>5|173=>311|212=>349|51=>176|20=>20|213=>350|46=>123|232=>384|233=>385|n=>n,fun|17=>2|18=>6|19=>7|n=>n⟩
theorem KM:Go.Proofs.LaysM.n171 Tp Tl:=by repeat' first|(intros;kernel_rfl)|constructor
open Go.RowKit Go.Sort Go.Lib in
theorem RS(n : Int)(h0 : -9223372036854775808 ≤ n)(h1 : n ≤ 9223372036854775807)(w : World)(htab : Lib.TabIs Tp w "internal/strconv.uint64pow10" .u64 Lib.pow10Tab): Calls Tp 159 #[.int .i64 n] w λe w'=>e=.returned (.string ⟨(Lib.itoa n).toArray⟩)/\∃k os,w'=grow (w.drewN k) os:=Any.strconv_Itoa KM n h0 h1 w htab
def ZY:Go.Shelf.Ren:=⟨fun|172=>366|244=>392|245=>314|247=>313|279=>361|280=>362|281=>363|282=>364|287=>360|316=>389|171=>159|205=>390|321=>387|322=>388|243=>216|246=>249|283=>300|284=>301|285=>302|286=>303|129=>178|317=>352|318=>353|319=>354|320=>355|337=>383|338=>384|n=>n,fun|9=>9|3=>3|75=>91|76=>92|4=>4|5=>5|167=>351|37=>87|0=>0|85=>269|2=>2|168=>354|53=>178|175=>352|46=>123|210=>376|127=>133|145=>388|143=>386|21=>21|171=>309|173=>311|212=>349|51=>176|20=>20|213=>350|232=>384|233=>385|80=>95|n=>n,fun|15=>4|16=>5|17=>2|18=>6|19=>7|n=>n⟩
theorem v6:Go.Proofs.LaysC.n172 Tp ZY:=by repeat' first|(intros;kernel_rfl)|constructor
theorem XG(s:Bt)(b:s.size<=9223372036854775806)(v:Int)(h:Lib.atoiAll s.data.toList=.ok v)(w:World): Calls Tp 366 #[.string s] w λe w'=>e=.returned (.tuple #[.int .i64 v,.nilIface])/\(w'=w\/∃t,w'=Lib.bytesWorld w 5 t):=Any.strconv_Atoi_ok v6 s b v h w
theorem V5(s:Bt)(c:s.size<=281474976710656)(h:Lib.atoiAll s.data.toList=Lib.atoiAll [])(b:Value)(w:World)(j:w.cell? ⟨4,0,Te⟩=Td b)(f:b=.nilIface\/∃i k,b=.iface i k): Calls Tp 366 #[.string s] w λe w'=>∃N,e=.returned (.tuple #[.int .i64 (0),.iface 354 (.pointer (Td ⟨N,0,Te⟩))])/\w.heap.size<=N/\w'.heap[N]?=Td (.cells #[.string ⟨#[65,116,111,105]⟩,.string s,b] 376 (0,0))/\Below w.heap.size w w':=Any.strconv_Atoi_syntax v6 s c h b w j f
theorem YL(s:Bt)(c:s.size<=281474976710656)(h:Lib.atoiAll s.data.toList=.range)(b:Value)(w:World)(j:w.cell? ⟨5,0,Te⟩=Td b)(f:b=.nilIface\/∃i k,b=.iface i k): Calls Tp 366 #[.string s] w λe w'=>∃N,e=.returned (.tuple #[.int .i64 (Lib.atoiSat s.data.toList),.iface 354 (.pointer (Td ⟨N,0,Te⟩))])/\w.heap.size<=N/\w'.heap[N]?=Td (.cells #[.string ⟨#[65,116,111,105]⟩,.string s,b] 376 (0,0))/\Below w.heap.size w w':=Any.strconv_Atoi_range v6 s c h b w j f
def Ls:Go.Shelf.Ren:=⟨fun|174=>262|247=>313|245=>314|287=>360|279=>361|280=>362|281=>363|282=>364|321=>387|322=>388|316=>389|171=>159|205=>390|243=>216|246=>249|283=>300|284=>301|285=>302|286=>303|129=>178|317=>352|318=>353|319=>354|320=>355|337=>383|338=>384|n=>n,fun|9=>9|3=>3|2=>2|75=>91|85=>269|4=>4|167=>351|5=>5|53=>178|175=>352|46=>123|168=>354|37=>87|0=>0|210=>376|21=>21|127=>133|145=>388|143=>386|171=>309|173=>311|212=>349|51=>176|20=>20|213=>350|232=>384|233=>385|80=>95|n=>n,fun|15=>4|16=>5|17=>2|18=>6|19=>7|n=>n⟩
theorem Bb:Go.Proofs.LaysC.n174 Tp Ls:=by repeat' first|(intros;kernel_rfl)|constructor
theorem Qj(s:Bt)(b:s.size<=9223372036854775806)(v:Int)(h:Lib.parseIntB 64 s.data.toList=.ok v)(w:World): Calls Tp 262 #[.string s,.int .i64 10,.int .i64 64] w λe w'=>e=.returned (.tuple #[.int .i64 v,.nilIface])/\(w'=w\/∃t,w'=Lib.bytesWorld w 5 t):=Any.strconv_ParseInt_10_at64_ok Bb s b v h w
theorem Zf(s:Bt)(c:s.size<=281474976710656)(h:Lib.parseIntB 64 s.data.toList=Lib.parseIntB 64 [])(b:Value)(w:World)(j:w.cell? ⟨4,0,Te⟩=Td b)(f:b=.nilIface\/∃i k,b=.iface i k): Calls Tp 262 #[.string s,.int .i64 10,.int .i64 64] w λe w'=>∃N,e=.returned (.tuple #[.int .i64 (0),.iface 354 (.pointer (Td ⟨N,0,Te⟩))])/\w.heap.size<=N/\w'.heap[N]?=Td (.cells #[.string ⟨#[80,97,114,115,101,73,110,116]⟩,.string s,b] 376 (0,0))/\Below w.heap.size w w':=Any.strconv_ParseInt_10_at64_syntax Bb s c h b w j f
theorem Zq(s:Bt)(c:s.size<=281474976710656)(h:Lib.parseIntB 64 s.data.toList=.range)(b:Value)(w:World)(j:w.cell? ⟨5,0,Te⟩=Td b)(f:b=.nilIface\/∃i k,b=.iface i k): Calls Tp 262 #[.string s,.int .i64 10,.int .i64 64] w λe w'=>∃N,e=.returned (.tuple #[.int .i64 (Lib.intSat 64 s.data.toList),.iface 354 (.pointer (Td ⟨N,0,Te⟩))])/\w.heap.size<=N/\w'.heap[N]?=Td (.cells #[.string ⟨#[80,97,114,115,101,73,110,116]⟩,.string s,b] 376 (0,0))/\Below w.heap.size w w':=Any.strconv_ParseInt_10_at64_range Bb s c h b w j f
def NX:Go.Shelf.Ren:=⟨fun|101=>269|208=>320|206=>306|n=>n,fun|9=>9|4=>4|3=>3|n=>n,fun|n=>n⟩
theorem U8:Go.Proofs.Lays.n101 Tp NX:=by constructor <;> intros <;> kernel_rfl
open Go.RowKit Go.Lib in
theorem LM(s p:Bt)(w:World): Calls Tp 269 #[.string s,.string p] w λe w'=>e=.returned (.string ⟨(Lib.trimPrefix s.data.toList p.data.toList).toArray⟩)/\w'=w:=Any.strings_TrimPrefix U8 s p w
def E0:Go.Shelf.Ren:=⟨fun|155=>134|154=>205|138=>260|165=>202|143=>261|166=>68|197=>247|169=>70|195=>310|218=>311|240=>123|241=>257|219=>312|260=>298|276=>195|277=>308|217=>356|225=>357|224=>358|267=>359|266=>385|314=>386|n=>n,fun|9=>9|3=>3|4=>4|72=>89|0=>0|76=>92|105=>256|21=>21|5=>5|70=>86|20=>20|37=>87|75=>91|127=>133|164=>199|46=>123|119=>305|139=>308|138=>307|146=>313|51=>176|80=>95|n=>n,fun|1=>3|3=>0|4=>1|n=>n⟩
theorem TV:Go.Proofs.Lays.n155 Tp E0:=by constructor <;> intros <;> kernel_rfl
theorem Ku:Builder.Extra Tp E0:={
 sizeBuilder:=by kernel_rfl
 liesBuilder:=by kernel_rfl
 t5:=zex
 a5:=Tryz.isAgg5
 z5:=Tryz.sizeOf5
 v5:=Tryz.zeroValue5
 infoByte:=by kernel_rfl
 cellsByte:=by kernel_rfl
 sizeByte:=by kernel_rfl
 neB5:=by decide }
open Go.RowKit Go.Lib in
theorem N0(s old new:Bt)(m:Int)(w:World)(f:s.size<4294967281)(c:w.cell? ⟨3,0,Te⟩=Td (.int .i64 m))(h1:1<=old.size)(b:s.size+Lib.countB s old*new.size<=140737488355328):
  Calls Tp 134 #[.string s,.string old,.string new] w λe w'=>
   e=.returned (.string ⟨(Lib.replaceAll s.data.toList old.data.toList new.data.toList).toArray⟩)/\Below w.heap.size w w':=Any.strings_ReplaceAll TV Ku s old new m w f c h1 b
def V6:Go.Shelf.Ren:=⟨fun|197=>247|260=>298|n=>n,fun|9=>9|21=>21|3=>3|4=>4|5=>5|105=>256|119=>305|0=>0|46=>123|139=>308|138=>307|n=>n,fun|3=>0|4=>1|n=>n⟩
theorem Tf:Go.Proofs.Lays.n197 Tp V6:=by constructor <;> intros <;> kernel_rfl
def U0:Go.Shelf.Ren:=⟨fun|150=>365|153=>391|152=>369|226=>404|227=>271|228=>321|137=>319|119=>394|224=>358|225=>357|217=>356|266=>385|n=>n,fun|9=>9|4=>4|3=>3|5=>5|21=>21|117=>281|116=>280|0=>0|46=>123|124=>284|n=>n,fun|n=>n⟩
theorem Oy:Go.Proofs.Lays.n150 Tp U0:=by constructor <;> intros <;> kernel_rfl
open Go.RowKit Go.Lib in
theorem Yt(s c:Bt)(w:World)(k:s.size<4294967281)(i:c.size<4294967281)(h:∀(j:Nat) b,s.data.toList[j]?=Td b->b.toNat<128)(f:∀(j:Nat) b,c.data.toList[j]?=Td b->b.toNat<128): Calls Tp 365 #[.string s,.string c] w λe w'=>e=.returned (.bool (Lib.containsAny s.data.toList c.data.toList))/\Below w.heap.size w w':=Any.strings_ContainsAny_laid Oy (by kernel_rfl) s c w k i h f
def Hm:Go.Shelf.Ren:=⟨fun|105=>200|212=>250|99=>251|165=>202|166=>68|170=>252|169=>70|263=>304|264=>305|206=>306|240=>123|241=>257|276=>195|277=>308|n=>n,fun|9=>9|3=>3|4=>4|20=>20|0=>0|46=>123|109=>259|5=>5|72=>89|76=>92|51=>176|146=>313|53=>178|148=>315|70=>86|37=>87|75=>91|127=>133|164=>199|80=>95|n=>n,fun|n=>n⟩
theorem PY:Go.Proofs.Lays.n105 Tp Hm:=by constructor <;> intros <;> kernel_rfl
theorem WR:Builder.Extra Tp Hm:={
 sizeBuilder:=by kernel_rfl
 liesBuilder:=by kernel_rfl
 t5:=zex
 a5:=Tryz.isAgg5
 z5:=Tryz.sizeOf5
 v5:=Tryz.zeroValue5
 infoByte:=by kernel_rfl
 cellsByte:=by kernel_rfl
 sizeByte:=by kernel_rfl
 neB5:=by decide }
open Go.RowKit Go.Lib in
theorem NR(s:Bt)(c:Nat)(w:World)(f:c<=9223372036854775807)(b:s.size*c<=140737488355328): Calls Tp 200 #[.string s,.int .i64 c] w λe w'=>e=.returned (.string ⟨(Lib.repeatL s.data.toList c).toArray⟩)/\Below w.heap.size w w':=Any.strings_Repeat PY WR s c w f b
open Go.RowKit Go.Lib in
theorem Jb(s:Bt)(w:World)(b:Lib.Utf8Tabs 0 1 w): Calls Tp 247 #[.string s] w λe w'=>e=.returned (.tuple #[.int .i32 (Lib.decodeGo s).1,.int .i64 (Lib.decodeGo s).2])/\Below w.heap.size w w':=Any.utf8_DecodeRuneInString Tf s w b
def OW:Go.Shelf.Ren:=⟨fun|109=>317|n=>n,fun|31=>22|9=>9|3=>3|0=>0|4=>4|n=>n,fun|n=>n⟩
theorem GO:Go.Proofs.Lays.n109 Tp OW:=by constructor <;> intros <;> kernel_rfl
open Go.Lib in
theorem LY(b off n c:Nat)(f:List Bt)(x:Bt)(w:World)(hz:n<=f.length)(h:n<=9223372036854775807)(i:∀j,j<f.length->w.cell? ⟨b,off+j,Te⟩=Td (.string (f.getD j ByteArray.empty))): Calls Tp 317 #[.slice (Td ⟨b,off,Te⟩) n c,.string x] w λe w'=>e=.returned (.int .i64 (Lib.idxOfS (f.take n) x))/\w'=w:=Any.slices_Index_string GO b off n c f x w hz h i
open Go.Lib in
theorem Yi(a:Option Addr)(c:Nat)(x:Bt)(w:World): Calls Tp 317 #[.slice a 0 c,.string x] w λe w'=>e=.returned (.int .i64 (Lib.idxOfS [] x))/\w'=w:=Any.slices_Index_string_empty GO a c x w
end
section
open Go.RowKit
variable {gl M:Fr} {R:Int -> Prop}
theorem Bu{s:Bt}{c:Int}(h:R (Lib.indexByte (lb s) c.toNat.toUInt8)):PC Tp gl 319 [Arg.mk .str s,Arg.mk (.int .u8) c] [.int .i64] R:= PC.of_same rfl (λ_=>xM _ _) h λw _=>xq s c w
theorem UU{s p:Bt}{R:Bt×Bool->Prop}(h:R (bl (Lib.trimPrefix (lb s) (lb p)),Lib.hasPrefix (lb s) (lb p))):PC Tp gl 267 [Arg.mk .str s,Arg.mk .str p] [.str,.bool] R:= PC.of_same rfl (λM=>⟨[_,_],⟨_,_,rfl,rfl,_,rfl,rfl⟩,rfl⟩) h λw _=>YI s p w
theorem Uj{s p:Bt}{R:Bt->Prop}(h:R (bl (Lib.trimPrefix (lb s) (lb p)))):PC Tp gl 269 [Arg.mk .str s,Arg.mk .str p] [.str] R:= PC.of_same rfl (λ_=>oO _) h λw _=>LM s p w
theorem Nk{s:Bt}{c:UInt8}(b:c.toNat<128){R:Bt->Prop}(h:R (bl (Lib.trimLeftB (lb s) c))):PC Tp gl 218 [Arg.mk .str s,Arg.mk .str ⟨#[c]⟩] [.str] R:= PC.of_same rfl (λ_=>oO _) h λw _=>Xr s c b w
theorem Lk{s:Bt}{c:UInt8}(e:c.toNat<128)(b:s.size<=9223372036854775807){R:Bt->Prop}(h:R (bl (Lib.trimRightB (lb s) c))):PC Tp gl 219 [Arg.mk .str s,Arg.mk .str ⟨#[c]⟩] [.str] R:= PC.of_same rfl (λ_=>oO _) h λw _=>Wo s c e w b
def yX(gl:Fr):Prop:=∃(cs:Array Value) (m:Int),gl 3=Td cs/\cs[0]?=Td (.int .i64 m)
theorem D6(w:World)(n:Nat):Below w.heap.size w (w.drewN n):=⟨rfl,rfl,rfl,zac _,λ_ _=>rfl⟩
theorem U1(j:yX gl){s old new:Bt}(i:s.size<4294967281)(c:1<=old.size)(b:s.size+Lib.countB s old*new.size<=140737488355328){R:Bt->Prop}(h:R (bl (Lib.replaceAll (lb s) (lb old) (lb new)))):
  PC Tp gl 134 [Arg.mk .str s,Arg.mk .str old,Arg.mk .str new] [.str] R:=by
 obtain⟨cs,m,h1,f⟩:=j;exact PC.of_scal rfl (λ_=>oO _) h λw e=>N0 s old new m w i (e.glob h1 f) c b
theorem y4{s:Bt}{c:Nat}(e:c<=9223372036854775807)(b:s.size*c<=140737488355328){R:Bt->Prop}(h:R (bl (Lib.repeatL (lb s) c))):PC Tp gl 200 [Arg.mk .str s,Arg.mk PJ (c:Int)] [.str] R:= PC.of_scal rfl (λ_=>oO _) h λw f=>NR s c w e b
def Tabs(gl:Fr):Prop:=(∃cs:Array Value,gl 0=Td cs/\∀c,c<256->cs[c]?=Td (.int .u8 (Lib.firstT c)))/\∃cs:Array Value,gl 1=Td cs/\∀i,i<16->cs[2*i]?=Td (.int .u8 (Lib.accLo i))/\cs[2*i+1]?=Td (.int .u8 (Lib.accHi i))
theorem Tabs.at(h:Tabs gl){w:World}(b:AgM gl w.heap):Lib.Utf8Tabs 0 1 w:=by obtain⟨⟨c1,a1,b1⟩,c2,a2,b2⟩:=h;exact⟨λc e=>b.glob a1 (b1 c e),λi hi=>⟨b.glob a2 (b2 i hi).1,b.glob a2 (b2 i hi).2⟩⟩
theorem ZS(c:Tabs gl){s:Bt}{R:Int×Int->Prop}(h:R ((Lib.decodeGo s).1,(Lib.decodeGo s).2)):PC Tp gl 247 [Arg.mk .str s] [.int .i32,.int .i64] R:= PC.of_scal rfl (λM=>⟨[_,_],⟨_,_,rfl,rfl,_,rfl,rfl⟩,rfl⟩) h λw b=>Jb s w (c.at b)
theorem YS(w:World)(k:Nat)(os:Array Obj):Below w.heap.size w (Go.Sort.grow (w.drewN k) os):=⟨rfl,rfl,rfl,by simp[Go.Sort.grow,World.drewN],λi hi=>by show((w.drewN k).heap++os)[i]?=_;exact zdg hi⟩
def rZ(gl : Fr): Prop := ∃ b cs, Tryz.prog.globalNamed "internal/strconv.uint64pow10" = some b ∧ gl b = some cs ∧ cs = (Lib.pow10Tab.map λz => Value.int .u64 z).toArray
theorem zU(i:rZ gl){n:Int}(h0:-9223372036854775808<=n)(h1:n<=9223372036854775807){R:Bt->Prop}(h:R (bl (Lib.itoa n))):PC Tp gl 159 [Arg.mk PJ n] [.str] R:=by obtain⟨b,cs,j,r,l⟩:=i;refine PC.of_scal rfl (λ_=>oO _) h λw f=>(RS n h0 h1 w ?_).mono λe w' ⟨o,k,os,c⟩=>⟨o,c ▸ YS w k os⟩;obtain⟨T,m,q⟩:=f b cs r;unfold Lib.TabIs World.var?;rw[j];simp only[zcr,q,l]
def wS(l:List UInt8):Int×Bool:=match Lib.atoiAll l with
 |.ok v=>(v,Ta)
 |.range=>(Lib.atoiSat l,Tc)
 |_=>(0,Tc)
def A0(gl:Fr):Prop:=(∃(cs:Array Value) (e:Value),gl 4=Td cs/\cs[0]?=Td e/\(e=.nilIface\/∃b c,e=.iface b c))/\∃(cs:Array Value) (e:Value),gl 5=Td cs/\cs[0]?=Td e/\(e=.nilIface\/∃b c,e=.iface b c)
theorem te(k:IntKind)(i:Int)(t:TypeId)(u:Value):J4 M [.int k,.err] (i,Tc) (.tuple #[.int k i,.iface t u]):=⟨[_,_],⟨_,_,rfl,rfl,.iface t u,rfl,⟨_,rfl,.inr ⟨rfl,_,_,rfl⟩⟩⟩,rfl⟩
theorem G5(k:IntKind)(i:Int):J4 M [.int k,.err] (i,Ta) (.tuple #[.int k i,.nilIface]):=⟨[_,_],⟨_,_,rfl,rfl,.nilIface,rfl,⟨_,rfl,.inl ⟨rfl,rfl⟩⟩⟩,rfl⟩
theorem OK(o:A0 gl){s:Bt}(n:s.size<=281474976710656){R:Int×Bool->Prop}(h:R (wS (lb s))):PC Tp gl 366 [Arg.mk .str s] [.int .i64,.err] R:=by
 unfold wS at h;cases hx:Lib.atoiAll (lb s)with
 |ok v=>rw[hx]at h;refine PC.of_ex rfl λw f=>(XG s (by omega) v hx w).mono λe w' ⟨c,i⟩=>⟨_,(v,Ta),c,λM=>G5 _ _,h,?_⟩;rcases i with rfl|⟨t,rfl⟩;exact Below.refl _ _;exact Lib.bytesWorld_below _ _ _
 |range=>rw[hx]at h;obtain⟨_,⟨cs,j,k,m,l⟩⟩:=o;exact PC.of_ex rfl λw f=>(YL s n hx j w (f.glob k m) l).mono λe w' ⟨N,c,_,_,b⟩=>⟨_,(Lib.atoiSat (lb s),Tc),c,λM=>te _ _ _ _,h,b⟩
 |_=>rw[hx]at h;obtain⟨⟨cs,j,k,m,l⟩,_⟩:=o;exact PC.of_ex rfl λw f=>(V5 s n hx j w (f.glob k m) l).mono λe w' ⟨N,c,_,_,b⟩=>⟨_,(0,Tc),c,λM=>te _ _ _ _,h,b⟩
def AI(l:List UInt8):Int×Bool:=match Lib.parseIntB 64 l with
 |.ok v=>(v,Ta)
 |.range=>(Lib.intSat 64 l,Tc)
 |_=>(0,Tc)
theorem Mf(o:A0 gl){s:Bt}(n:s.size<=281474976710656){R:Int×Bool->Prop}(h:R (AI (lb s))):PC Tp gl 262 [Arg.mk .str s,Arg.mk PJ 10,Arg.mk PJ 64] [.int .i64,.err] R:=by
 unfold AI at h;cases hx:Lib.parseIntB 64 (lb s)with
 |ok v=>rw[hx]at h;refine PC.of_ex rfl λw f=>(Qj s (by omega) v hx w).mono λe w' ⟨c,i⟩=>⟨_,(v,Ta),c,λM=>G5 _ _,h,?_⟩;rcases i with rfl|⟨t,rfl⟩;exact Below.refl _ _;exact Lib.bytesWorld_below _ _ _
 |range=>rw[hx]at h;obtain⟨_,⟨cs,j,k,m,l⟩⟩:=o;exact PC.of_ex rfl λw f=>(Zq s n hx j w (f.glob k m) l).mono λe w' ⟨N,c,_,_,b⟩=>⟨_,(Lib.intSat 64 (lb s),Tc),c,λM=>te _ _ _ _,h,b⟩
 |_=>rw[hx]at h;obtain⟨⟨cs,j,k,m,l⟩,_⟩:=o;exact PC.of_ex rfl λw f=>(Zf s n hx j w (f.glob k m) l).mono λe w' ⟨N,c,_,_,b⟩=>⟨_,(0,Tc),c,λM=>te _ _ _ _,h,b⟩
theorem ZH{s c:Bt}(i:s.size<4294967281)(k:c.size<4294967281)(f:∀(j:Nat) b,(lb s)[j]?=Td b->b.toNat<128)(e:∀(j:Nat) b,(lb c)[j]?=Td b->b.toNat<128){R:Bool->Prop}(h:R (Lib.containsAny (lb s) (lb c))):
  PC Tp gl 365 [Arg.mk .str s,Arg.mk .str c] [.bool] R:=
 PC.of_scal rfl (λ_=>G7 _) h λw l=>Yt s c w i k f e
theorem RL{xs:List Bt}{x:Bt}(h:R (Lib.idxOfS xs x)):PC Tp gl 317 [Arg.mk (.row .str) xs,Arg.mk .str x] [.int .i64] R:=by
 intro l M vs z ag k
 match vs,k with
 |[u,v],⟨h1,h2,_⟩=>
  have i:Rd M (.row .str) xs [u]:=by simpa[RdV,hY]using h1
  have c:v=.string x:=by simpa[RdV,hY,Rd]using h2
  subst c;obtain⟨s,rfl,f,C,cells,y,k⟩:=Rd.rowC ag i;have:=Dm y;subst this;have key:∀w:World,w.heap=l->Calls Tp 317 #[aK s,.string x] w λe w'=>e=.returned (.int .i64 (Lib.idxOfS xs x))/\w'=w:=by
   intro w n;rcases k with h0|⟨b,o,r,A,t⟩;have q:xs=[]:=by simpa using h0
   subst q;have:=Yi s.a s.cap x w;simp only[aK,f];exact this;have:=LY b o s.len s.cap xs x w (by omega) (by omega) (λj m=>by have:=t j (.string (xs.getD j ByteArray.empty)) (by rw[zcc,zai m,zar,zai m];rfl);rw[<-n]at this;exact this);rw[f,zba]at this;simp only[aK,r,f];exact this
  refine XC.of_calls λB d=>(key (mk B d l) rfl).mono ?_;rintro e w' ⟨rfl,rfl⟩;exact⟨_,rfl,rfl,rfl,rfl,Keep.refl _ _,M,_,Fr.le.refl _,λ_ _=>rfl,ag,xM _ _,h⟩
end
section
open Go.Lib
theorem zu(l:Bs):(bl l).size=l.length:=by rw[<-nv,yo]
theorem CK(l:Bs)(a b:Nat):(bl l).extract a b=bl ((l.drop a).take (b-a)):=by rw[<-oN,ZL,yo,yo]
theorem wj(a b:Bs):bl a++bl b=bl (a++b):=by rw[<-oN,z4b,yo,yo,yo]
theorem Yj(l:Bs)(i:Nat):yf (bl l) i=((l[i]?.getD 0).toNat:Int):=by rw[Kz,yo]
theorem Qb(s:Bt):s.toList=lb s:=by
 cases s with
 |mk d=>exact Go.Lib.toList_data ⟨d⟩
theorem lK(a b:Bs):((bl a).toList==(bl b).toList)=decide (a=b):=by rw[Qb,Qb,yo,yo];rw[zbe];simp
theorem rU(l:Bs)(p:Nat):iD (bl l) p=decide (p<l.length):=by rw[zbe];simp[iD,zu]
theorem qO(l:Bs)(p:Nat):jC (bl l) p=((dec (l.drop p)).1:Int):=by rw[jC,BX,yo]
theorem nK(l:Bs)(p:Nat)(h:p<l.length):iH (bl l) p=p+(dec (l.drop p)).2:=by
 rw[iH,BX,yo];have:Nat.blt p (bl l).size=Ta:=by simp[zu,h]
 rw[this];rfl
theorem Km{l:Bs}{i:Nat}(h:i<l.length):l[i]?.getD 0=l[i]:=by rw[zai h];rfl
def ya(c:UInt8):Bool:=decide (48<=c.toNat)&&decide (c.toNat<=57)
def ij(l:Bs):Bool:=l.all ya && !l.isEmpty
abbrev Nm:=Bool×Bs×Int
abbrev om(n:Nm):Bool×Bt×Int:=(n.1,(bl n.2.1,n.2.2))
def mJ(n:Nm):Bool:=!n.1&&(n.2.1.isEmpty&&n.2.2==0)
def j5(n:Nm):Bool:=mJ n||(ij n.2.1&&decide (n.2.1.length<=1000)&&n.2.1.head? != Td 48&&n.2.1.getLast? != Td 48&&decide (-1000000<=n.2.2)&&decide (n.2.2<=1000000))
def Xi(n:Nm):Bs:=if j5 n then(if n.2.1=[]then [48]else(if n.1 then [45]else [])++n.2.1++(if n.2.2=0 then []else 101::Go.Lib.itoa n.2.2))else []
theorem MA{n:Nm}(h:j5 n=Ta)(e:n.2.1=[]):mJ n=Ta:=by unfold j5 at h;rcases zeh _ _ ▸ h with h|h;exact h;simp[ij,e]at h
theorem E9{n:Nm}(h:j5 n=Ta):n.2.1.length<=1000/\-1000000<=n.2.2/\n.2.2<=1000000:=by unfold j5 mJ at h;obtain⟨a,d,e⟩:=n;simp at h;rcases h with⟨_,h,h'⟩|h;subst h;subst h';simp;simp only;omega
def cutAt(p:UInt8->Bool):Bs->Bs×Bs×Bool
 |[]=>([],[],Tc)
 |c::l=>if p c then([],l,Ta)else(c::(cutAt p l).1,(cutAt p l).2)
theorem Hi{p:UInt8->Bool}:∀{l},(∀c∈l,p c=Tc)->cutAt p l=(l,[],Tc)
 |[],_=>rfl
 |c::l,h=>by unfold cutAt;rw[zv (by simp[h c (by simp)]),Hi λc b=>h c (by simp[b])]
theorem DT{p:UInt8->Bool}:∀{l:Bs} {k:Nat} (b:k<l.length),(∀i (hi:i<k),p (l[i]'(by omega))=Tc)->p l[k]=Ta->cutAt p l=(l.take k,l.drop (k+1),Ta)
 |c::l,0,_,_,h=>by unfold cutAt;rw[zA (by simpa using h)];simp
 |c::l,k+1,b,h0,h=>by unfold cutAt;have h1:p c=Tc:=h0 0 (by omega);rw[zv (by simp[h1]),DT (k:=k) (by simpa using b) (λi hi=>by simpa using h0 (i+1) (by omega)) (by simpa using h)];simp
structure Lit where
 neg:Bool
 whole:Bs
 rest:Bs
 low:Bool
 exp:Bs
def mr(s:Bs):Bs:=if s.head?==Td 45 then s.tail else s
def su(c:UInt8):Bool:=c==101||c==69
def sV(c:UInt8):Bool:=c==46
def ig(s:Bs):Bs×Bs×Bool:=cutAt su (mr s)
def mN(s:Bs):Bool:=(ig s).2.2&&(ig s).2.1.head?==Td 45
def jS(s:Bs):Bs:=if mN s then(ig s).2.1.tail else if(ig s).2.1.head?==Td 43 then(ig s).2.1.tail else(ig s).2.1
def Yk(s:Bs):Bs×Bs×Bool:=cutAt sV (ig s).1
def mt(s:Bs):Bool:=(!(ig s).2.2||ij (jS s))&&ij (Yk s).1&&(!(Yk s).2.2||ij (Yk s).2.1)&&((Yk s).1==[48]||(Yk s).1.head? != Td 48)
def lO(s:Bs):Lit:=⟨s.head?==Td 45,(Yk s).1,(Yk s).2.1,mN s,if(ig s).2.2 then jS s else []⟩
def mw(s:Bs):Option Lit:=if mt s then Td (lO s)else Te
theorem F9{s:Bs}{x:Lit}(h:mw s=Td x):mt s=Ta/\x=lO s:=by unfold mw at h;split at h;rename_i e;exact⟨e,(zbi h).symm⟩;exact absurd h (by simp)
theorem AR{p:UInt8->Bool}:∀{l:Bs},(cutAt p l).2.2=Tc->(cutAt p l).1=l/\(cutAt p l).2.1=[]
 |[],_=>⟨rfl,rfl⟩
 |c::l,h=>by unfold cutAt at h ⊢;split;rename_i e;rw[zA e]at h;exact absurd h (by simp);rename_i e;rw[zv e]at h;have:=AR h;exact⟨by simp[this.1],this.2⟩
def jr(l:Bs):Bs:=((l.dropWhile (· == 48)).reverse.dropWhile (· == 48)).reverse
def zn(l:Bs):Nat:=l.foldl (λn c=>10*n+(c.toNat-48)) 0
def ye(s:Bs):Nm×Int:=match mw s with
 |none=>((Tc,[],0),2)
 |some x=>
  if x.whole.length+x.rest.length>1000 then((Tc,[],0),3)
  else if(x.exp.dropWhile (· == 48)).length>9 then((Tc,[],0),4)
  else
   let e:Int:=if x.low then-(zn (x.exp.dropWhile (· == 48)):Int)else zn (x.exp.dropWhile (· == 48))
   let d:=(x.whole++x.rest).dropWhile (· == 48)
   let b:=jr (x.whole++x.rest)
   if d=[]then((Tc,[],0),0)
   else if -1000000<=e-x.rest.length+d.length-b.length/\e-x.rest.length+d.length-b.length<=1000000 then((x.neg,b,e-x.rest.length+d.length-b.length),0)
   else((Tc,[],0),4)
def vh(n:Nm):Int×Bool:=
 if j5 n&&decide (0<=n.2.2)&&decide ((n.2.1.length:Int)+n.2.2<=19)then
  let v:Int:=if n.1 then-((zn n.2.1*10 ^ n.2.2.toNat:Nat):Int)else(zn n.2.1*10 ^ n.2.2.toNat:Nat)
  if -9223372036854775808<=v/\v<=9223372036854775807 then(v,Ta)else(0,Tc)
 else(0,Tc)
end
section
section
variable {n:Nat} {l:Bs} {gl:Fr} {R:Bool -> Prop}
theorem je{k n:Nat}(h:k<n)(b:n<=4611686018427387904):w6 ((k:Int)+1)=((k+1:Nat):Int):=zx (by omega)
theorem VX(h:l≠[]):(48<=(dec l).1/\(dec l).1<=57)->(dec l).2=1/\∃c t,l=c::t/\ya c=Ta/\(dec l).1=c.toNat:=by obtain⟨c,t,rfl⟩:=zcw h;intro b;by_cases e:c.toNat<128;rw[Jw e]at b ⊢;exact⟨rfl,c,t,rfl,by simp[ya];simpa using b,rfl⟩;exfalso;unfold dec at b;have b0:((c::t).getD 0 0).toNat=c.toNat:=rfl;rw[b0]at b;have:=c.toNat_lt;have b1:=((c::t).getD 1 0).toNat_lt;have b2:=((c::t).getD 2 0).toNat_lt;have b3:=((c::t).getD 3 0).toNat_lt;generalize ((c::t).getD 1 0).toNat=x1 at *;generalize ((c::t).getD 2 0).toNat=x2 at *;generalize ((c::t).getD 3 0).toNat=x3 at *;generalize c.toNat=x0 at *;unfold Lib.decodeN at b;rw[zv e]at b;split at b;split at b <;> simp only at b <;> omega;split at b;split at b <;> simp only at b <;> omega;split at b;split at b <;> simp only at b <;> omega;simp only at b;omega
theorem uP(h:R (ij l)):PC Tp gl 215 [Arg.mk .str (bl l)] [.bool] R:=by
 apply ZT;refine⟨λp=>p.1=bl l/\p.2<=l.length/\(l.drop p.2).all ya=l.all ya,λp=>l.length-p.2,⟨rfl,by omega,by simp⟩,?_⟩;rintro⟨_,p⟩ ⟨rfl,o,j⟩;simp only at o j ⊢;rw[rU,qO];refine⟨λm=>⟨m,λf=>?_,λf=>?_⟩,λm=>?_⟩;all_goals first
  |have k:p<l.length:=by simpa using m
  |have k:¬p<l.length:=by simpa using m
 have i:l.drop p≠[]:=λe=>by have:=congrArg zcf e;simp at this;omega
 have n:¬(48<=(dec (l.drop p)).1/\(dec (l.drop p)).1<=57):=by rw[Bool.cond_true_left]at f;rcases zeh _ _ ▸ f with f|f <;> simp at f <;> omega
 have q:l.all ya=Tc:=by
  rw[<-j];obtain⟨c,t,e⟩:=zcw i;rw[e];cases b:ya c with
  |false=>simp[b]
  |true=>
   exfalso;apply n;have:c.toNat<128:=by simp[ya]at b;omega
   rw[e,Jw this];simpa[ya]using b
 have:ij l=Tc:=by simp[ij,q]
 rw[this]at h;exact h;have i:l.drop p≠[]:=λe=>by have:=congrArg zcf e;simp at this;omega
 have n:48<=(dec (l.drop p)).1/\(dec (l.drop p)).1<=57:=by rw[Bool.cond_true_left]at f;have:=Bool.or_eq_false_iff.1 f;simp at this;omega
 obtain⟨h1,c,t,e,b,_⟩:=VX i n;rw[nK l p k,h1];refine⟨⟨trivial,by omega,?_⟩,by omega⟩;have r:l.drop (p+1)=t:=by rw[<-zdh,e];rfl
 rw[r,<-j,e];simp[b];have:l.drop p=[]:=zce (by omega);rw[this]at j;have e:ij l=!(decide (l=[])):=by rw[ij,<-j];cases l <;> simp
 have:=lK l [];rw[show(⟨#[]⟩:Bt)=bl []from rfl,this,<-e];exact h
abbrev tN:Ty:=.pair .bool (.pair .str (.int .i64))
theorem Fu(h:0<l.length):(((l[0]?.getD 0).toNat:Int) != 48)=(l.head? != Td 48):=by
 cases l with
 |nil=>simp at h
 |cons c t=>rw[zbe];simp;constructor;intro h1 b;exact h1 (by rw[b];rfl);intro h1 b;exact h1 (zd3.1 (by(have:c.toNat=48:=by omega);rw[this];rfl))
theorem U5(h:0<l.length):(((l[l.length-1]?.getD 0).toNat:Int) != 48)=(l.getLast? != Td 48):=by rw[List.getLast?_eq_getElem?];rw[zai (by omega)];rw[zbe];simp;constructor;intro h1 b;exact h1 (by rw[b];rfl);intro h1 b;exact h1 (zd3.1 (by(have:l[l.length-1].toNat=48:=by omega);rw[this];rfl))
theorem DO(h:ij l=Ta):0<l.length:=by
 cases l with
 |nil=>simp[ij]at h
 |cons=>simp
theorem BM(h:0<n)(b:n<=4611686018427387904):w6 ((n:Int)-1)=((n-1:Nat):Int):=by rw[wrap64 (by omega) (by omega)];omega
theorem A9{n:Nm}(l:n.2.1.length<=4611686018427387904)(h:R (j5 n)):PC Tp gl 158 [Arg.mk tN (om n)] [.bool] R:=by
 apply TP;simp only[show(⟨#[]⟩:Bt)=bl []from rfl,lK,zu,Yj];have e:((n.1==Tc)&&(decide (n.2.1=[])&&((n.2.2==0)&&Ta)))=mJ n:=by unfold mJ;rcases n with⟨_|_,_|⟨_,_⟩,e⟩ <;> simp
 rw[e];refine⟨λh1=>?_,λh1=>?_⟩;have:j5 n=Ta:=by simp[j5,h1]
 rw[this]at h;exact h
 ·unfold j5 at h;rw[h1,Bool.false_or]at h;refine uP ⟨λj=>⟨λ_=>?_,λf=>?_⟩,λj=>⟨λf=>⟨λ_=>?_,λc=>?_⟩,λf=>⟨?_,λc=>⟨λ_=>?_,λb=>?_⟩,λc=>⟨?_,λb=>?_,λb=>?_⟩⟩⟩⟩;have:ij n.2.1=Tc:=by simpa using j
  rw[this]at h;simpa using h;rw[j]at f;cases f;have:decide (n.2.1.length<=1000)=Tc:=by simp at f ⊢;omega
  rw[this]at h;simpa using h;rw[f]at c;cases c;all_goals
   have m:ij n.2.1=Ta:=by simpa using j
   have i:=DO m;have k:decide (n.2.1.length<=1000)=Ta:=by simp at f ⊢;omega
   have o:=Fu i;have el:=U5 i
  omega;have:(n.2.1.head? != Td 48)=Tc:=by rw[<-o];simp at c ⊢;exact c
  rw[this]at h;simpa using h;rw[c]at b;cases b;rw[BM i l];omega;have:(n.2.1.getLast? != Td 48)=Tc:=by rw[<-el];rw[BM i l]at b;simp at b ⊢;exact b
  rw[this]at h;simpa using h;have q:(n.2.1.head? != Td 48)=Ta:=by rw[<-o];simp at c ⊢;exact c
  have r:(n.2.1.getLast? != Td 48)=Ta:=by rw[<-el];rw[BM i l]at b;simp at b ⊢;exact b
  rw[m,k,q,r]at h;simp only[zct]at h;rw[zem];exact h
end
section
theorem XF{vs:List Value}{f:FuncId}{fn:Func}{h:zc}{R:Value->zc->Prop}{F:Prop}(pl:Plan)(rs:List ResultVar)(n:Nat)(b:zbj.funcs[f]?=Td fn)(H:F)(i:Yd fn=Ta:=by kernel_rfl)(c:fn.results.toList=rs:=by kernel_rfl)(j:fn.ntmps=n:=by kernel_rfl)(hz:Nat.ble vs.length n=Ta:=by kernel_rfl)(e:F=W Tp n pl (codeOf fn) (uQ Tp rs R) (lj 0 vs) h:=by kernel_rfl):XC Tp f vs.toArray h R:=QT Tryz.mixed pl vs b i c j hz (Eq.mp e H)
theorem Ow(s0:Bt)(h:zc)(R:Value->zc->Prop) (H:let a:=h.push (.cells #[.bool Tc,.bool Tc,.string (⟨#[]⟩:Bt),.string (⟨#[]⟩:Bt),.string (⟨#[]⟩:Bt)] 221);XC Tp 267 #[.string s0,.string (⟨#[45]⟩:Bt)] a (λb c=>∃d e,b=.tuple #[.string d,.bool e]/\XRunU Tp (zag 4 (.pointer (Td (zab ⟨h.size,0,Te⟩ 0))) (.bool e)) c (λf=>XC Tp 268 #[.string d,.string (⟨#[101,69]⟩:Bt)] f (λg i=>∃j k l,g=.tuple #[.string j,.string k,.bool l]/\∀m:Bt->zc->Prop,(∀n:Bt,∀o:zc,(XRunU Tp (zag 9 (.pointer (Td (zab ⟨h.size,0,Te⟩ 4))) (.string n)) o (λp=>XC Tp 268 #[.string j,.string (⟨#[46]⟩:Bt)] p (λq r=>∃s t u,q=.tuple #[.string s,.string t,.bool u]/\XRunU Tp (zag 9 (.pointer (Td (zab ⟨h.size,0,Te⟩ 2))) (.string s)) r (λv=>XRunU Tp (zag 9 (.pointer (Td (zab ⟨h.size,0,Te⟩ 3))) (.string t)) v (λw=>XC Tp 215 #[.string s] w (λx y=>∃z,x=.bool z/\∃A:Value->zc->Prop,(((!(!z))&&u)=Ta->XC Tp 215 #[.string t] y (λB C=>∃D,B=.bool D/\A (.bool D) C))/\(((!(!z))&&u)=Tc->∃E,A (.bool E) y)/\(((!(!z))&&u)=Ta->∀F G,A F G->∃I,F=.bool I)/\∀J:Bool,∀L,A (.bool J) L->((bif (!z)then Ta else(bif u then(!J)else Tc))=Ta->∃M N O P Q,ze L ⟨h.size,0,Te⟩ 0 [.bool M,.bool N,.string O,.string P,.string Q]/\XRunU Tp (zag 221 (.pointer (Td ⟨h.size,0,Te⟩)) (.agg #[.bool M,.bool N,.string O,.string P,.string Q])) L (λS=>∃T U V W X,ze S ⟨h.size,0,Te⟩ 0 [.bool T,.bool U,.string V,.string W,.string X]/\R (.tuple #[.agg #[.bool T,.bool U,.string V,.string W,.string X],.bool Tc]) S))/\((bif (!z)then Ta else(bif u then(!J)else Tc))=Tc->∃Y Z aa ab ac,ze L ⟨h.size,0,Te⟩ 0 [.bool Y,.bool Z,.string aa,.string ab,.string ac]/\let ad:zc->Prop:=λ(ae:zc)=>(∃af ag ah ai aj,ze ae ⟨h.size,0,Te⟩ 0 [.bool af,.bool ag,.string ah,.string ai,.string aj]/\R (.tuple #[.agg #[.bool af,.bool ag,.string ah,.string ai,.string aj],.bool (bif (s.toList==(⟨#[48]⟩:Bt).toList)then Ta else((yf s (0:Int).toNat:Int) != 48))]) ae);let ak:zc->Prop:=λ(al:zc)=>(ad al);let am:zc->Prop:=λ(an:zc)=>(ak an);let ao:zc->Prop:=λ(ap:zc)=>(((!(s.toList==(⟨#[48]⟩:Bt).toList))=Ta->(0<=(0:Int)/\(0:Int)<(s.size:Int)))/\am ap);(hZ L L ⟨h.size,0,Te⟩/\(((!(s.toList==(⟨#[48]⟩:Bt).toList))=Ta->(0<=(0:Int)/\(0:Int)<(s.size:Int)))/\hZ L L ⟨h.size,0,Te⟩/\(hZ L L ⟨h.size,0,Te⟩/\(hZ L L ⟨h.size,0,Te⟩/\XRunU Tp (zag 221 (.pointer (Td ⟨h.size,0,Te⟩)) (.agg #[.bool Y,.bool Z,.string aa,.string ab,.string ac])) L (λaq=>ad aq))/\(XRunU Tp (zag 221 (.pointer (Td ⟨h.size,0,Te⟩)) (.agg #[.bool Y,.bool Z,.string aa,.string ab,.string ac])) L (λar=>ak ar)))/\(XRunU Tp (zag 221 (.pointer (Td ⟨h.size,0,Te⟩)) (.agg #[.bool Y,.bool Z,.string aa,.string ab,.string ac])) L (λau=>am au)))/\(XRunU Tp (zag 221 (.pointer (Td ⟨h.size,0,Te⟩)) (.agg #[.bool Y,.bool Z,.string aa,.string ab,.string ac])) L (λav=>ao av)))/\(XRunU Tp (zag 221 (.pointer (Td ⟨h.size,0,Te⟩)) (.agg #[.bool Y,.bool Z,.string aa,.string ab,.string ac])) L (λaw=>ao aw)))))))))->m n o)->(l=Ta->XC Tp 267 #[.string k,.string (⟨#[45]⟩:Bt)] i (λax ay=>∃az aA,ax=.tuple #[.string az,.bool aA]/\XRunU Tp (zag 4 (.pointer (Td (zab ⟨h.size,0,Te⟩ 1))) (.bool aA)) ay (λaB=>∀aC:Bt->zc->Prop,(∀aD:Bt,∀aE:zc,(XC Tp 215 #[.string aD] aE (λaF aG=>∃aH,aF=.bool aH/\((!aH)=Ta->∃aI aJ aL aM aN,ze aG ⟨h.size,0,Te⟩ 0 [.bool aI,.bool aJ,.string aL,.string aM,.string aN]/\XRunU Tp (zag 221 (.pointer (Td ⟨h.size,0,Te⟩)) (.agg #[.bool aI,.bool aJ,.string aL,.string aM,.string aN])) aG (λaO=>∃aP aQ aS aT aU,ze aO ⟨h.size,0,Te⟩ 0 [.bool aP,.bool aQ,.string aS,.string aT,.string aU]/\R (.tuple #[.agg #[.bool aP,.bool aQ,.string aS,.string aT,.string aU],.bool Tc]) aO))/\((!aH)=Tc->m aD aG)))->aC aD aE)->∃aV,zd aB (zab ⟨h.size,0,Te⟩ 1)=Td (.bool aV)/\((!aV)=Ta->XC Tp 269 #[.string az,.string (⟨#[43]⟩:Bt)] aB (λaW aX=>∃aY,aW=.string aY/\aC aY aX))/\((!aV)=Tc->aC az aB))))/\(l=Tc->m k i))))):
  XC Tp 217 #[.string s0] h R:=
 XF ⟨[(14,8000)],[],[(9,[(4,.one (.str))]),(7,[(4,.one (.str))])]⟩ [.cell 2 221,.tmp 3] 69 Tryz.func217 H
theorem Ks(s0:Bt)(h:zc)(R:Value->zc->Prop) (H:let a:=h.push (.cells #[.bool Tc,.string (⟨#[]⟩:Bt),iV 0] 110);XC Tp 160 #[.string s0] a (λb c=>∃d e f g,b=.tuple #[.agg #[.bool d,.string e,iV f],iV g]/\let i:=c.push (.cells #[.bool Tc,.string (⟨#[]⟩:Bt),iV 0] 110);XRunU Tp (zag 110 (.pointer (Td ⟨c.size,0,Te⟩)) (.agg #[.bool d,.string e,iV f])) i (λj=>∃k l m,ze j ⟨c.size,0,Te⟩ 0 [.bool k,.string l,iV m]/\let n:Bool->zc->Prop:=λo (p:zc)=>(∃q r s,ze p ⟨h.size,0,Te⟩ 0 [.bool q,.string r,iV s]/\R (.tuple #[.agg #[.bool q,.string r,iV s],.bool o]) p);let t:Bool->zc->Prop:=λu (v:zc)=>(n (bif (g==0)then u else Tc) v);let w:Bt->zc->Prop:=λx (y:zc)=>(t (x.toList==s0.toList) y);let z:Bt->zc->Prop:=λA (B:zc)=>((hZ B j ⟨c.size,0,Te⟩/\(hZ B j ⟨c.size,0,Te⟩/\XRunU Tp (zag 110 (.pointer (Td ⟨h.size,0,Te⟩)) (.agg #[.bool k,.string l,iV m])) B (λC=>n (bif (g==0)then(A.toList==s0.toList)else Tc) C))/\(XRunU Tp (zag 110 (.pointer (Td ⟨h.size,0,Te⟩)) (.agg #[.bool k,.string l,iV m])) B (λD=>t (A.toList==s0.toList) D)))/\(XRunU Tp (zag 110 (.pointer (Td ⟨h.size,0,Te⟩)) (.agg #[.bool k,.string l,iV m])) B (λE=>w A E)));let F:Bool->Bt->Int->zc->Prop:=λG I J (L:zc)=>(∃M:Value->zc->Prop,((g==0)=Ta->XC Tp 92 #[.agg #[.bool G,.string I,iV J]] L (λN O=>∃P,N=.string P/\M (.string P) O))/\((g==0)=Tc->∃Q,M (.string Q) L)/\((g==0)=Ta->∀S T,M S T->∃U,S=.string U)/\∀V:Bt,∀W,M (.string V) W->hZ W j ⟨c.size,0,Te⟩/\z V W);(∃X Y Z,((g==0)=Ta->ze j ⟨c.size,0,Te⟩ 0 [.bool X,.string Y,iV Z])/\hZ j j ⟨c.size,0,Te⟩/\(∃aa:Value->zc->Prop,((g==0)=Ta->XC Tp 92 #[.agg #[.bool X,.string Y,iV Z]] j (λab ac=>∃ad,ab=.string ad/\aa (.string ad) ac))/\((g==0)=Tc->∃ae,aa (.string ae) j)/\((g==0)=Ta->∀af ag,aa af ag->∃ah,af=.string ah)/\∀ai:Bt,∀aj,aa (.string ai) aj->hZ aj j ⟨c.size,0,Te⟩/\(hZ aj j ⟨c.size,0,Te⟩/\z ai aj)/\(XRunU Tp (zag 110 (.pointer (Td ⟨h.size,0,Te⟩)) (.agg #[.bool k,.string l,iV m])) aj (λak=>w ai ak)))/\(hZ j j ⟨c.size,0,Te⟩/\F X Y Z j))/\(hZ j j ⟨c.size,0,Te⟩/\∃al am an,((g==0)=Ta->ze j ⟨c.size,0,Te⟩ 0 [.bool al,.string am,iV an])/\hZ j j ⟨c.size,0,Te⟩/\F al am an j)))):
  XC Tp 148 #[.string s0] h R:=
 XF ⟨[(2,8000)],[],[]⟩ [.cell 2 110,.tmp 3] 20 Tryz.func148 H
theorem Rs(a:Bool)(b:Bt)(c:Int)(h:zc)(R:Value->zc->Prop) (H:let d:=h.push (.cells #[.bool a,.string b,iV c] 110);∃e f g,ze d ⟨h.size,0,Te⟩ 0 [.bool e,.string f,iV g]/\XC Tp 158 #[.agg #[.bool e,.string f,iV g]] d (λi j=>∃k,i=.bool k/\∃l,((!(!k))=Ta->zd j (zab ⟨h.size,0,Te⟩ 2)=Td (iV l))/\∃m,((!(bif (!k)then Ta else(decide (l<0))))=Ta->zd j (zab ⟨h.size,0,Te⟩ 1)=Td (.string m))/\∃n,((!(bif (!k)then Ta else(decide (l<0))))=Ta->zd j (zab ⟨h.size,0,Te⟩ 2)=Td (iV n))/\((bif (bif (!k)then Ta else(decide (l<0)))then Ta else(decide ((w6 ((m.size:Int)+n))>19)))=Ta->R (.tuple #[iV 0,.bool Tc]) j)/\((bif (bif (!k)then Ta else(decide (l<0)))then Ta else(decide ((w6 ((m.size:Int)+n))>19)))=Tc->∃o,zd j (zab ⟨h.size,0,Te⟩ 1)=Td (.string o)/\∃p,zd j (zab ⟨h.size,0,Te⟩ 2)=Td (iV p)/\XC Tp 200 #[.string (⟨#[48]⟩:Bt),iV p] j (λq r=>∃s,q=.string s/\j6 (o.size+s.size)/\hZ r j (zab ⟨h.size,0,Te⟩ 1)/\∀t:Bt->zc->Prop,(∀u:Bt,∀v:zc,(((u.toList==(⟨#[]⟩:Bt).toList)=Ta->R (.tuple #[iV 0,.bool Ta]) v)/\((u.toList==(⟨#[]⟩:Bt).toList)=Tc->XC Tp 262 #[.string u,iV 10,iV 64] v (λw x=>∃y,∃z:Value,w=.tuple #[iV y,z]/\nX z=Ta/\((!pG z)=Ta->R (.tuple #[iV 0,.bool Tc]) x)/\((!pG z)=Tc->R (.tuple #[iV y,.bool Ta]) x))))->t u v)->∃A,zd r (zab ⟨h.size,0,Te⟩ 0)=Td (.bool A)/\(A=Ta->j6 (((⟨#[45]⟩:Bt)).size+(o++s).size)/\t ((⟨#[45]⟩:Bt)++(o++s)) r)/\(A=Tc->t (o++s) r))))):
  XC Tp 209 #[.agg #[.bool a,.string b,.int .i64 c]] h R:=
 XF ⟨[(3,8000)],[],[(6,[(4,.one (.str))])]⟩ [.tmp 2,.tmp 3] 44 Tryz.func209 H
end
end
section
open Go.RowKit
variable {h h':zc} {bs:List Nat} {v:Tr} {M:Fr} {b o n:Nat} {cs:Array Value} {vs:List Value}
def OKeys(h:zc)(ks:List Bt)(bs:List Nat)(s:Sl):Prop:=
 s.len=ks.length/\ks.length<=140737488355328/\ks.length<=s.cap/\((ks=[]/\bs=[]/\s.cap=0)\/∃b cs,bs=[b]/\s.a=Td ⟨b,0,Te⟩/\Blk h b cs/\s.cap<=cs.size/\cut cs 0 ks.length=ks.map zaz)
inductive OT (h:zc):Tr->List Nat->List Value->Prop where
 |mk {k:Int} {s:Bt} {ks:List Bt} {xs:List Tr} {sk si:Sl} {bk bb:List Nat} {b:Nat} {cs:Array Value} {bf:Nat->List Nat}
  (hk:OKeys h ks bk sk) (hn:si.len=xs.length/\xs.length<=140737488355328/\xs.length<=si.cap)
  (hz:(xs=[]/\bb=[]/\si.cap=0)\/(bb=[b]/\si.a=Td ⟨b,0,Te⟩/\Blk h b cs/\si.cap*4<=cs.size))
  (hi:∀i (hx:i<xs.length),OT h xs[i] (bf i) (cut cs (i*4) 4))
  (hd:(bk++(bb++(zaq xs.length).flatMap bf)).Nodup):
  OT h (.mk k s ks xs) (bk++(bb++(zaq xs.length).flatMap bf)) [.int .i64 k,.string s,aK sk,aK si]
theorem OKeys.frame{ks:List Bt}{s:Sl}(H:OKeys h ks bs s)(c:∀b∈bs,h'[b]?=h[b]?):OKeys h' ks bs s:=by obtain⟨h1,i,k,j⟩:=H;refine⟨h1,i,k,j.imp id ?_⟩;rintro⟨b,cs,rfl,e,l,f⟩;exact⟨b,cs,rfl,e,l.keep (c b (by simp)),f⟩
theorem OT.frame{cells:List Value}(H:OT h v bs cells):(∀b∈bs,h'[b]?=h[b]?)->OT h' v bs cells:=by
 induction H with
 | @mk k s ks xs sk si bk bb b cs bf hk hn hz hi hd ih=>intro f;refine OT.mk (b:=b) (cs:=cs) (hk.frame λx c=>f x (by simp[c])) hn (hz.imp id ?_) (λi c=>ih i c λx e=>f x ?_) hd;rintro⟨rfl,j,m,l⟩;exact⟨rfl,j,m.keep (f b (by simp)),l⟩;simp only[zaj,zbw,zbn];exact .inr (.inr ⟨i,c,e⟩)
theorem OT.nodup{cells:List Value}(H:OT h v bs cells):bs.Nodup:=by cases H with|mk _ _ _ _ b=>exact b
theorem OT.lt{cells:List Value}(H:OT h v bs cells):∀b∈bs,b<h.size:=by
 induction H with
 | @mk k s ks xs sk si bk bb b cs bf hk hn hz hi hd ih=>intro x c;simp only[zaj,zbw,zbn]at c;rcases c with c|c|⟨i,h1,f⟩;obtain⟨_,_,_,j⟩:=hk;rcases j with⟨_,rfl,_⟩|⟨b',cs',rfl,_,e,_⟩;cases c;simp at c;subst c;exact e.lt;rcases hz with⟨_,rfl,_⟩|⟨rfl,_,e,_⟩;cases c;simp at c;subst c;exact e.lt;exact ih i h1 x f
theorem OT.len{cells:List Value}(H:OT h v bs cells):cells.length=4:=by cases H;rfl
theorem OT.one{cells:List Value}(H:OT h v bs cells):∀c∈cells,c.oneCell'=Ta:=by
 cases H with
 |mk _ _ _ _ _=>intro c b;simp at b;rcases b with rfl|rfl|rfl|rfl <;> simp[Value.oneCell',aK]
theorem OT.cells{h:zc}{v:Tr}{bs:List Nat}{cells:List Value}(H:OT h v bs cells):∃sk si:Sl,cells=[.int .i64 v.kind,.string v.text,aK sk,aK si]:=by cases H with|mk _ _ _ _ _=>exact⟨_,_,rfl⟩
theorem OT.rd{cells:List Value}(H:OT h v bs cells)(m:∀b∈bs,∀cs,Blk h b cs->M b=Td cs):TrRd M v cells:=by
 induction H with
 | @mk k s ks xs sk si bk bb b cs bf hk hn hz hi hd ih=>
  obtain⟨t,k2,u,y⟩:=hk;have n:RowAt M (λs cs=>cs=[.string s]) 1 ks (aK sk):=by
   refine⟨sk.a,sk.cap,by rw[aK,t],⟨k2,u⟩,?_⟩;rcases y with⟨h0,_⟩|⟨b',cs',rfl,q,r,_,w⟩;exact .inl h0;refine .inr ⟨b',0,cs',q,m b' (by simp) cs' r,λi f=>?_⟩;have:(cut cs' 0 ks.length)[i]?=Td (zaz ks[i]):=by rw[w,zcc,zai f];rfl
   unfold cut at this ⊢;rw[zbk,zA f,zcm]at this;have c:=(za5.1 this).1;rw[zas,zbm,zbt c,zea,zeu];rw[zai c]at this;rw[zbi this]
  have l:aK si=.slice si.a xs.length si.cap:=by rw[aK,hn.1]
  rw[l];refine TrRd.mk (b:=b) (o:=0) (cs:=cs) n hn.2 (hz.imp (·.1) ?_) λi f=>?_;rintro⟨rfl,q,r,_⟩;exact⟨q,m b (by simp) cs r⟩;rw[zas];exact ih i f λx j cs' e=>m x (by simp only[zaj,zbw,zbn];exact .inr (.inr ⟨i,f,j⟩)) cs' e
def MxL(M:Fr)(h:zc)(bs:List Nat):Fr:=λi=>if i∈bs then(match h[i]? with
 |some (.cells cs _ _)=>Td cs
 |_=>Te)else M i
theorem MxL.ag{M:Fr}{h:zc}(ag:AgM M h)(bs:List Nat):AgM (MxL M h bs) h:=by intro b c e;unfold MxL at e;split at e;split at e;rename_i cs T m f;cases e;exact⟨T,m,f⟩;cases e;exact ag b c e
theorem MxL.later{h0 h:zc}(ag:AgM M h0)(k:Keep h0.size h0 h)(hb:∀b∈bs,h0.size<=b):Later h0 M h (MxL M h bs) where
 keep:=k
 le:=λb c e=>by have:=ag.lt e;unfold MxL;rw[zv (λhm=>by have:=hb b hm;omega)];exact e
 old:=λb hlt=>by unfold MxL;rw[zv (λhm=>by have:=hb b hm;omega)]
 ag:=MxL.ag (ag.keep k) bs
theorem MxL.at(c:b∈bs)(e:Blk h b cs):MxL M h bs b=Td cs:=by obtain⟨T,e⟩:=e;unfold MxL;rw[zA c,e]
theorem OT.rdv{cells:List Value}(H:OT h v bs cells):RdV (MxL M h bs) .tree v (.agg cells.toArray):=by unfold RdV;simp only[hY,if_true];exact⟨cells,rfl,H.rd λb c cs e=>MxL.at c e⟩
def fR(cs:Array Value)(o:Nat)(vs:List Value):Array Value:=(cs.toList.take o++vs++cs.toList.drop (o+vs.length)).toArray
theorem yv(h:o+vs.length<=cs.size):(fR cs o vs).size=cs.size:=by unfold fR;simp;omega
theorem jg(h:o+vs.length<=cs.size)(q:Nat):(fR cs o vs).toList[q]?=if q<o then cs.toList[q]? else if q<o+vs.length then vs[q-o]? else cs.toList[q]?:=by unfold fR;exact Q4 (by simpa using h) q
theorem zk{o n i:Nat}:(cut cs o n)[i]?=if i<n then cs.toList[o+i]? else Te:=by unfold cut;rw[zbk];split;rw[zb6];rfl
theorem sW(h:o+vs.length<=cs.size):cut (fR cs o vs) o vs.length=vs:=by apply zbd;intro i;rw[zk];split;rw[jg h,zv (by omega),zA (by omega)];congr 1;omega;rw[zby (by omega)]
theorem BL{o p n:Nat}(h:o+vs.length<=cs.size)(b:p+n<=o\/o+vs.length<=p):cut (fR cs o vs) p n=cut cs p n:=by apply zbd;intro i;rw[zk,zk];split;rw[jg h];split;rfl;rw[zv (by omega)];rfl
theorem Zg{P:Program}{t:TypeId}(hi:yb P t=Ta)(H:Blk h b cs){v:Value}(c:v.cells.toList=vs)(m:j4 P t=vs.length)(k:o+vs.length<=cs.size)(h1:∀u∈vs,u.oneCell'=Ta){K:zc->Prop}
  (r:∀h':zc,Blk h' b (fR cs o vs)->h'.size=h.size->(∀j,j≠b->h'[j]?=h[j]?)->K h'):XRunU P (zag t (.pointer (Td ⟨b,o,Te⟩)) v) h K:=by
 intro B d;obtain⟨T,e⟩:=H;have f:v.cells.size=vs.length:=by rw[<-c];simp
 obtain⟨h',l,n,i,q⟩:=Yf (P:=P) hi m e f k (by rw[c];exact h1) B d;refine⟨d,h',l,r h' ⟨T,?_⟩ i q⟩;rw[n];unfold fR;rw[c]
theorem Blk.ofKeep(H:Blk h b cs)(k:Keep h.size h h'):Blk h' b cs:=H.keepN k H.lt
theorem Jx(ag:AgM M h)(bs:List Nat):Fr.le M (MxL M h bs):=by intro b c e;unfold MxL;split;obtain⟨T,m,f⟩:=ag b c e;rw[f];exact e
end
section
open Go.Lib
variable {cs:Array Value} {M Mg:Fr} {v:Value} {g h g':zc}
theorem DR{vs:List Value}(h:cs.size=vs.length):fR cs 0 vs=vs.toArray:=by unfold fR;simp_all
theorem F4{n:Bool×Bt×Int}{u:Value}(h:RdV M (.pair .bool (.pair .str (.int .i64))) n u):u=.agg #[.bool n.1,.string n.2.1,.int .i64 n.2.2]:=by
 unfold RdV at h;simp only[hY,if_true]at h;obtain⟨cs,e,c1,c2,rfl,h1,f,i,rfl,b,c⟩:=h;have h1:c1=[.bool n.1]:=by simpa[Rd]using h1
 have b:f=[.string n.2.1]:=by simpa[Rd]using b
 have c:i=[.int .i64 n.2.2]:=by simpa[Rd]using c
 simp_all
theorem BN(a:Bool)(s:Bt)(i:Int):RdV M (.pair .bool (.pair .str (.int .i64))) (a,s,i) (.agg #[.bool a,.string s,.int .i64 i]):=by unfold RdV;simp only[hY,if_true];exact⟨[.bool a,.string s,.int .i64 i],rfl,[_],[_,_],rfl,rfl,[_],[_],rfl,rfl,rfl⟩
theorem vB(n:Int)(b:Bool):J4 M [.int .i64,.bool] (n,b) (.tuple #[.int .i64 n,.bool b]):=⟨[_,_],⟨_,_,rfl,Ja .i64 n,_,rfl,rdBool _⟩,rfl⟩
theorem Ld{r:Int×Bool}(h:J4 M [.int .i64,.err] r v):∃e:Value,v=.tuple #[.int .i64 r.1,e]/\nX e=Ta/\pG e=r.2:=by
 obtain⟨us,⟨m,l,rfl,f,i,rfl,b⟩,rfl⟩:=h;rw[Y9 rfl]at f b;have j:m=.int .i64 r.1:=by simpa[Rd]using f
 subst j;have b:∃v,[i]=[v]/\((r.2=Ta/\v=.nilIface)\/(r.2=Tc/\∃t u,v=.iface t u)):=b;obtain⟨v,c,k⟩:=b;have c:i=v:=by simpa using c
 subst c;rcases k with⟨e,rfl⟩|⟨e,t,u,rfl⟩;exact⟨_,rfl,rfl,e.symm⟩;exact⟨_,rfl,rfl,e.symm⟩
theorem MH(gl:Fr)(n0:Bool×Bt×Int)(R:(Int×Bool)->Prop) (H:PC Tp gl 158 [Arg.mk (.pair .bool (.pair .str (.int .i64))) (n0.1,(n0.2.1,n0.2.2))] [.bool] (λB:Bool=>((bif (bif (!B)then Ta else(decide ((n0.2.2:Int)<0)))then Ta else(decide ((w6 (((n0.2.1).size:Int)+n0.2.2):Int)>19)))=Ta->R (0,Tc)) /\ ((bif (bif (!B)then Ta else(decide ((n0.2.2:Int)<0)))then Ta else(decide ((w6 (((n0.2.1).size:Int)+n0.2.2):Int)>19)))=Tc->PC Tp gl 200 [Arg.mk .str (⟨#[48]⟩:Bt),Arg.mk PJ n0.2.2] [.str] (λi:Bt=>j6 ((n0.2.1).size+(i).size) /\ ∀l:Bt->Prop,(∀f:Bt,((((f:Bt).toList==((⟨#[]⟩:Bt):Bt).toList)=Ta->R (0,Ta)) /\ (((f:Bt).toList==((⟨#[]⟩:Bt):Bt).toList)=Tc->PC Tp gl 262 [Arg.mk .str f,Arg.mk PJ 10,Arg.mk PJ 64] [.int .i64,.err] (λj:Int×Bool=>((!j.2)=Ta->R (0,Tc)) /\ ((!j.2)=Tc->R (j.1,Ta)))))->l f)->(n0.1=Ta->j6 (((⟨#[45]⟩:Bt)).size+(n0.2.1++i).size) /\ l ((⟨#[45]⟩:Bt)++(n0.2.1++i))) /\ (n0.1=Tc->l (n0.2.1++i)))))):
    PC Tp gl 209 [Arg.mk (.pair .bool (.pair .str (.int .i64))) n0] [.int .i64,.bool] R:=by
  intro h M vs E ag ha
  match vs,ha with
  |[u],⟨J,_⟩=>
  have J:RdV M (.pair .bool (.pair .str (.int .i64))) n0 u:=J;rw[F4 J];apply PX.of;apply Rs n0.1 n0.2.1 n0.2.2;intro h1;have Q:Keep h.size h h1:=Keep.push _ _ (zac _);have b1:Blk h1 h.size #[.bool n0.1,.string n0.2.1,.int .i64 n0.2.2]:=Blk.new _ _ _;clear_value h1;refine⟨_,_,_,b1.ld (cs:=[.bool n0.1,.string n0.2.1,.int .i64 n0.2.2]),?_⟩;refine H.go (vs:=[.agg #[.bool n0.1,.string n0.2.1,.int .i64 n0.2.2]]) E (ag.keep Q) (zr (a:=Arg.mk (.pair .bool (.pair .str (.int .i64))) (n0.1,(n0.2.1,n0.2.2))) (BN _ _ _) qj) λw h6 S r q b hr=>?_;obtain⟨N,D⟩:=hr;have n:=b1.ofKeep q.keep;have C:Later h M h6 S:=(Later.same ag Q).trans q;refine⟨r,Xh b,n0.2.2,λ_=>n.cellAdd (o:=0) (k:=2) rfl,n0.2.1,λ_=>n.cellAdd (o:=0) (k:=1) rfl,n0.2.2,λ_=>n.cellAdd (o:=0) (k:=2) rfl,λL=>⟨S,(0,Tc),C,vB _ _,N L⟩,λL=>?_⟩;refine⟨_,n.cellAdd (o:=0) (k:=1) rfl,_,n.cellAdd (o:=0) (k:=2) rfl,?_⟩;refine(D L).go (vs:=[.string ⟨#[48]⟩,.int .i64 n0.2.2]) (E.trans q.le) q.ag (zr (a:=Arg.mk .str (⟨#[48]⟩:Bt)) (rdStr _) (zr (a:=Arg.mk PJ n0.2.2) (Ja _ _) qj)) λw y O r2 m b P=>?_;obtain⟨hf,V⟩:=P;refine⟨r2,lG b,hf,m.keep.get _ n.lt,?_⟩;intro G z;have c:=C.trans m;obtain⟨I,F⟩:=V (λs=>G s y) λs ⟨a1,a2⟩=>z s y ⟨λe=>⟨O,(0,Ta),c,vB _ _,a1 e⟩,λe=>by refine(a2 e).go (vs:=[.string s,.int .i64 10,.int .i64 64]) (E.trans c.le) c.ag (zr (a:=Arg.mk .str s) (rdStr _) (zr (a:=Arg.mk PJ 10) (Ja _ _) (zr (a:=Arg.mk PJ 64) (Ja _ _) qj))) λw Z A Y t b x=>?_;obtain⟨T,rfl,hi,hn⟩:=Ld b;refine⟨_,T,rfl,hi,λU=>⟨A,(0,Tc),c.trans t,vB _ _,x.1 (by grind)⟩,λU=>⟨A,(Y.1,Ta),c.trans t,vB _ _,x.2 (by grind)⟩⟩⟩;exact⟨n0.1,((b1.ofKeep q.keep).ofKeep m.keep).cellAdd (o:=0) (k:=0) rfl,I,F⟩
theorem YY{r:(Bool×Bt×Int)×Int}(h:J4 M [.pair .bool (.pair .str (.int .i64)),.int .i64] r v):v=.tuple #[.agg #[.bool r.1.1,.string r.1.2.1,.int .i64 r.1.2.2],.int .i64 r.2]:=by
 obtain⟨us,⟨j,f,rfl,e,c,rfl,b⟩,rfl⟩:=h;rw[F4 e];rw[Y9 rfl]at b;have i:c=.int .i64 r.2:=by simpa[Rd]using b
 rw[i];rfl
theorem UE(a:Bool)(s:Bt)(i:Int)(b:Bool):J4 M [.pair .bool (.pair .str (.int .i64)),.bool] ((a,s,i),b) (.tuple #[.agg #[.bool a,.string s,.int .i64 i],.bool b]):=⟨[_,_],⟨_,_,rfl,BN a s i,_,rfl,rdBool _⟩,rfl⟩
theorem FW{b:Nat}(B:Blk g b cs)(m:cs.size=3){x:Bool}{s:Bt}{i:Int}{t:TypeId}(e:yb Tp t=Ta)(hz:j4 Tp t=3){K:zc->Prop}(f:∀g',(∀j,j≠b->g'[j]?=g[j]?)->g'.size=g.size->Blk g' b #[.bool x,.string s,.int .i64 i]->K g'):
  XRunU Tp (zag t (.pointer (Td ⟨b,0,Te⟩)) (.agg #[.bool x,.string s,.int .i64 i])) g K:=by
 refine Zg (vs:=[.bool x,.string s,.int .i64 i]) e B rfl hz (by simp_all) (λu c=>?_) λg' l k h=>f g' h k (by simp_all[DR]);simp at c;rcases c with rfl|rfl|rfl <;> rfl
set_option maxHeartbeats 1000000 in
theorem SV(gl:Fr)(n:Bt)(R:((Bool×Bt×Int)×Bool)->Prop) (H:PC Tp gl 160 [Arg.mk .str n] [.pair .bool (.pair .str (.int .i64)),.int .i64] (λb:(Bool×Bt×Int)×Int=>∃E:Bt->Prop,(((b.2:Int)==0)=Ta->PC Tp gl 92 [Arg.mk (.pair .bool (.pair .str (.int .i64))) (b.1.1,(b.1.2.1,b.1.2.2))] [.str] E) /\ ∀F:Bt,(((b.2:Int)==0)=Ta->E F)->R ((b.1.1,(b.1.2.1,b.1.2.2)),bif ((b.2:Int)==0)then((F:Bt).toList==(n:Bt).toList)else Tc))):
    PC Tp gl 148 [Arg.mk .str n] [.pair .bool (.pair .str (.int .i64)),.bool] R:=by
  intro h M vs hM ag ha
  match vs,ha with
  |[u],⟨Q,_⟩=>
  have Q:RdV M .str n u:=Q;rw[Ze Q];apply PX.of;apply Ks n;intro h1;have k1:Keep h.size h h1:=Keep.push _ _ (zac _);have z1:h1.size=h.size+1:=zaf _;have b1:Blk h1 h.size #[.bool Tc,.string ⟨#[]⟩,.int .i64 0]:=Blk.new _ _ _;clear_value h1;have L1:Later h M h1 M:=Later.same ag k1;refine H.go (vs:=[.string n]) hM L1.ag (zr (a:=Arg.mk .str n) (rdStr _) qj) λw t Y r C l hr=>?_;obtain⟨O,hJ,hR⟩:=hr;rw[YY l];refine⟨_,_,_,_,rfl,?_⟩;have z3:=C.keep.size;refine FW (cs:=#[.bool Tc,.string ⟨#[]⟩,.int .i64 0]) (Blk.new _ _ _) rfl (by kernel_rfl) (by kernel_rfl) λq f9 z9 I=>?_;rw[zaf]at z9;have k9:Keep t.size t q:=⟨by omega,λj U=>(f9 j (by omega)).trans ((Keep.push t _ (zac _)).get j U)⟩;have J:Later h M q Y:=(L1.trans C).trans (Later.same C.ag k9);have D:Y h.size=Te:=by
    rw[C.old h.size (by omega)];cases e:M h.size with
    |none=>rfl
    |some c=>have:=ag.lt e;omega
  have Z:Blk q h.size #[.bool Tc,.string ⟨#[]⟩,.int .i64 0]:=(b1.ofKeep C.keep).ofKeep k9;refine⟨r.1.1,r.1.2.1,r.1.2.2,I.ld (cs:=[.bool r.1.1,.string r.1.2.1,.int .i64 r.1.2.2]),?_⟩;intro aa ac ab P V;have fin:∀(g:zc) (Mg:Fr) (x:Bt),Later h M g Mg->Mg h.size=Te->(∃cs,Blk g h.size cs/\cs.size=3)->(((r.2:Int)==0)=Ta->O x) ->
      XRunU Tp (zag 110 (.pointer (Td ⟨zax h,0,Te⟩)) (.agg #[.bool r.1.1,.string r.1.2.1,.int .i64 r.1.2.2])) g (λg'=>aa (bif ((r.2:Int)==0)then((x:Bt).toList==(n:Bt).toList)else Tc) g'):=λg Mg x L o ⟨cs,B,hc⟩ k=>
    FW B hc (by kernel_rfl) (by kernel_rfl) λg' f z B'=>⟨_,_,_,B'.ld (cs:=[.bool r.1.1,.string r.1.2.1,.int .i64 r.1.2.2]),Mg,((r.1.1,(r.1.2.1,r.1.2.2)),_),⟨⟨by have:=L.keep.size;omega,λj U=>(f j (by omega)).trans (L.keep.get j U)⟩,L.le,L.old,λc cc e=>by obtain⟨T,m,e2⟩:=L.ag c cc e;grind⟩,UE _ _ _ _,hR x k⟩
  have S:∀(g:zc) (Mg:Fr) (x:Bt),Later h M g Mg->Mg h.size=Te->(∃cs,Blk g h.size cs/\cs.size=3)->(((r.2:Int)==0)=Ta->O x)->g[t.size]?=q[t.size]?->P x g:=λg Mg x L o B k y=>⟨⟨y,⟨y,fin g Mg x L o B k⟩,fin g Mg x L o B k⟩,fin g Mg x L o B k⟩;let G:Value->zc->Prop:=λv g=>∃x:Bt,v=.string x/\(∃Mg,Later h M g Mg/\Mg h.size=Te/\(∃cs,Blk g h.size cs/\cs.size=3)/\g[t.size]?=q[t.size]?)/\(((r.2:Int)==0)=Ta->O x);have call:((r.2:Int)==0)=Ta->XC Tp 92 #[.agg #[.bool r.1.1,.string r.1.2.1,.int .i64 r.1.2.2]] q (λv g=>∃x:Bt,v=.string x/\G (.string x) g):=λe=>
    (hJ e).go (vs:=[.agg #[.bool r.1.1,.string r.1.2.1,.int .i64 r.1.2.2]]) (hM.trans J.le) J.ag (zr (a:=Arg.mk (.pair .bool (.pair .str (.int .i64))) (r.1.1,(r.1.2.1,r.1.2.2))) (BN _ _ _) qj) λw g Mg x N l k=>
      ⟨x,lG l,x,rfl,⟨Mg,J.trans N,by rw[N.old h.size Z.lt];exact D,⟨_,Z.ofKeep N.keep,rfl⟩,N.keep.get _ I.lt⟩,λ_=>k⟩
  have i:((r.2:Int)==0)=Tc->∃x:Bt,G (.string x) q:=λe=>⟨⟨#[]⟩,⟨#[]⟩,rfl,⟨Y,J,D,⟨_,Z,rfl⟩,rfl⟩,λe'=>by simp_all⟩;have A:V r.1.1 r.1.2.1 r.1.2.2 q:=⟨G,call,i,λ_ v g ⟨x,e,_⟩=>⟨x,e⟩,λx g ⟨x',e,⟨Mg,L,o,B,y⟩,k⟩=>by injection e with e;subst e;grind⟩;refine⟨⟨_,_,_,λ_=>I.ld (cs:=[.bool r.1.1,.string r.1.2.1,.int .i64 r.1.2.2]),rfl,⟨G,call,i,λ_ v g ⟨x,e,_⟩=>⟨x,e⟩,λx g ⟨x',e,⟨Mg,L,o,B,y⟩,k⟩=>?_⟩,rfl,A⟩,rfl,_,_,_,λ_=>I.ld (cs:=[.bool r.1.1,.string r.1.2.1,.int .i64 r.1.2.2]),rfl,A⟩;injection e with e;subst e;exact⟨y,⟨y,S g Mg x L o B k y⟩,fin g Mg x L o B k⟩
theorem JH{r:Bt×Bool}(h:J4 M [.str,.bool] r v):v=.tuple #[.string r.1,.bool r.2]:=by
 obtain⟨us,⟨j,f,rfl,e,c,rfl,b⟩,rfl⟩:=h;rw[Ze e];rw[Y9 rfl]at b;have i:c=.bool r.2:=by simpa[Rd]using b
 rw[i];rfl
theorem Gj{r:Bt×Bt×Bool}(h:J4 M [.str,.str,.bool] r v):v=.tuple #[.string r.1,.string r.2.1,.bool r.2.2]:=by
 obtain⟨us,⟨l,j,rfl,i,m,e,rfl,c,k,rfl,b⟩,rfl⟩:=h;rw[Ze i,Ze c];rw[Y9 rfl]at b;have f:k=.bool r.2.2:=by simpa[Rd]using b
 rw[f];rfl
abbrev N5:=Bool×Bool×Bt×Bt×Bt
def wc(g:zc)(b:Nat)(n:N5):Prop:=Blk g b #[.bool n.1,.bool n.2.1,.string n.2.2.1,.string n.2.2.2.1,.string n.2.2.2.2]
structure St5 (h:zc) (M:Fr) (g:zc) (Mg:Fr) (n:N5):Prop where
 L:Later h M g Mg
 no:Mg h.size=Te
 B:wc g h.size n
theorem St5.call{M Mg b:Fr}{n:N5}(S:St5 h M g Mg n)(L:Later g Mg g' b):St5 h M g' b n:=⟨S.L.trans L,by rw[L.old h.size (Blk.lt S.B)];exact S.no,Blk.ofKeep S.B L.keep⟩
theorem St5.put{n b:N5}(S:St5 h M g Mg n)(f:∀j,j≠h.size->g'[j]?=g[j]?)(z:g'.size=g.size)(B:wc g' h.size b):St5 h M g' Mg b:= ⟨⟨⟨by have:=S.L.keep.size;omega,λj i=>(f j (by omega)).trans (S.L.keep.get j i)⟩,S.L.le,S.L.old,λc k e=>by obtain⟨T,m,l⟩:=S.L.ag c k e;grind [no]⟩,S.no,B⟩
theorem Si(n:N5)(b:Bool):J4 M [.pair .bool (.pair .bool (.pair .str (.pair .str .str))),.bool] (n,b) (.tuple #[.agg #[.bool n.1,.bool n.2.1,.string n.2.2.1,.string n.2.2.2.1,.string n.2.2.2.2],.bool b]):=by refine⟨[_,_],⟨_,_,rfl,?_,_,rfl,rdBool _⟩,rfl⟩;unfold RdV;simp only[hY,if_true];exact⟨[_,_,_,_,_],rfl,[_],[_,_,_,_],rfl,rfl,[_],[_,_,_],rfl,rfl,[_],[_,_],rfl,rfl,[_],[_],rfl,rfl,rfl⟩
set_option maxHeartbeats 1000000 in
theorem Re(gl:Fr)(s0:Bt)(R:((Bool×Bool×Bt×Bt×Bt)×Bool)->Prop) (H:PC Tp gl 267 [Arg.mk .str s0,Arg.mk .str (⟨#[45]⟩:Bt)] [.str,.bool] (λY:Bt×Bool=>PC Tp gl 268 [Arg.mk .str Y.1,Arg.mk .str (⟨#[101,69]⟩:Bt)] [.str,.str,.bool] (λV:Bt×Bt×Bool=>∀ay:Bt->Bool->Bool->Bt->Bt->Bt->Prop,(∀x:Bt,∀E:Bool,∀D:Bool,∀an:Bt,∀ar:Bt,∀az:Bt,(PC Tp gl 268 [Arg.mk .str V.1,Arg.mk .str (⟨#[46]⟩:Bt)] [.str,.str,.bool] (λj:Bt×Bt×Bool=>PC Tp gl 215 [Arg.mk .str j.1] [.bool] (λN:Bool=>∃ai:Bool->Prop,(((!(!N))&&j.2.2)=Ta->PC Tp gl 215 [Arg.mk .str j.2.1] [.bool] ai)/\∀T:Bool,(((!(!N))&&j.2.2)=Ta->ai T)->((bif (!N)then Ta else(bif j.2.2 then(!T)else Tc))=Ta->R ((E,(D,(j.1,(j.2.1,x)))),Tc))/\((bif (!N)then Ta else(bif j.2.2 then(!T)else Tc))=Tc->((!((j.1:Bt).toList==((⟨#[48]⟩:Bt):Bt).toList))=Ta->(0<=(0:Int)/\(0:Int)<((j.1).size:Int)))/\R ((E,(D,(j.1,(j.2.1,x)))),bif ((j.1:Bt).toList==((⟨#[48]⟩:Bt):Bt).toList)then Ta else((yf j.1 (0:Int).toNat:Int) != 48))))))->ay x E D an ar az)->(V.2.2=Ta->PC Tp gl 267 [Arg.mk .str V.2.1,Arg.mk .str (⟨#[45]⟩:Bt)] [.str,.bool] (λm:Bt×Bool=>∀U:Bt->Bool->Bool->Bt->Bt->Bt->Prop,(∀l:Bt,∀y:Bool,∀A:Bool,∀t:Bt,∀z:Bt,∀C:Bt,(PC Tp gl 215 [Arg.mk .str l] [.bool] (λac:Bool=>((!ac)=Ta->R ((y,(A,(t,(z,C)))),Tc))/\((!ac)=Tc->ay l y A t z C)))->U l y A t z C)->((!m.2)=Ta->PC Tp gl 269 [Arg.mk .str m.1,Arg.mk .str (⟨#[43]⟩:Bt)] [.str] (λaI:Bt=>U aI Y.2 m.2 (⟨#[]⟩:Bt) (⟨#[]⟩:Bt) (⟨#[]⟩:Bt)))/\((!m.2)=Tc->U m.1 Y.2 m.2 (⟨#[]⟩:Bt) (⟨#[]⟩:Bt) (⟨#[]⟩:Bt))))/\(V.2.2=Tc->ay V.2.1 Y.2 Tc (⟨#[]⟩:Bt) (⟨#[]⟩:Bt) (⟨#[]⟩:Bt))))):
  PC Tp gl 217 [Arg.mk .str s0] [.pair .bool (.pair .bool (.pair .str (.pair .str .str))),.bool] R:=by
 intro h M vs hM ag ha
 match vs,ha with
 |[u],⟨hu,_⟩=>
 have hu:RdV M .str s0 u:=hu;rw[Ze hu];apply PX.of;apply Ow s0;intro h1;have k1:Keep h.size h h1:=Keep.push _ _ (zac _);have b1:wc h1 h.size (Tc,Tc,⟨#[]⟩,⟨#[]⟩,⟨#[]⟩):=Blk.new _ _ _;have L1:Later h M h1 M:=Later.same ag k1;have bG:M h.size=Te:=by
  cases e:M h.size with
  |none=>rfl
  |some c=>have:=ag.lt e;omega
 clear_value h1;have s1:St5 h M h1 M (Tc,Tc,⟨#[]⟩,⟨#[]⟩,⟨#[]⟩):=⟨L1,bG,b1⟩;refine H.go (vs:=[.string s0,.string ⟨#[45]⟩]) hM L1.ag (zr (a:=Arg.mk .str s0) (rdStr _) (zr (a:=Arg.mk .str (⟨#[45]⟩:Bt)) (rdStr _) qj)) λw h3 M3 r1 L3 i H2=>?_;rw[JH i];refine⟨_,_,rfl,?_⟩;have S3:=s1.call L3;have fin:∀(g:zc) (Mg:Fr) (n:N5) (b:Bool),St5 h M g Mg n->R (n,b)->XRunU Tp (zag 221 (.pointer (Td ⟨zax h,0,Te⟩)) (.agg #[.bool n.1,.bool n.2.1,.string n.2.2.1,.string n.2.2.2.1,.string n.2.2.2.2])) g (λaj=>∃ah:Bool,∃ae:Bool,∃al:Bt,∃ak:Bt,∃af:Bt,ze aj ⟨zax h,0,Te⟩ 0 [.bool ah,.bool ae,.string al,.string ak,.string af]/\∃(M':Fr) (r:iw [.pair .bool (.pair .bool (.pair .str (.pair .str .str))),.bool]),Later h M aj M'/\J4 M' [.pair .bool (.pair .bool (.pair .str (.pair .str .str))),.bool] r (.tuple #[.agg #[.bool ah,.bool ae,.string al,.string ak,.string af],.bool b])/\R r):=λg Mg n b S hR=>
  Zg (o:=0) (vs:=[.bool n.1,.bool n.2.1,.string n.2.2.1,.string n.2.2.2.1,.string n.2.2.2.2]) (by kernel_rfl) S.B rfl (by kernel_rfl) (zac _) (λu hu=>by simp at hu;rcases hu with rfl|rfl|rfl|rfl|rfl <;> rfl) λg' q1 q2 q3=>
   have S':St5 h M g' Mg n:=S.put q3 q2 (by rw[DR (by rfl)]at q1;exact q1)
   ⟨_,_,_,_,_,Blk.ld (cs:=[.bool n.1,.bool n.2.1,.string n.2.2.1,.string n.2.2.2.1,.string n.2.2.2.2]) S'.B,Mg,(n,b),S'.L,Si n b,hR⟩
 rw[show zab ⟨zax h,0,Te⟩ 0=⟨h.size,0,Te⟩from rfl];refine xu (by kernel_rfl) (by kernel_rfl) S3.B (o:=0) (by simp) rfl λh6 B6 z6 f6=>?_;have S6:St5 h M h6 M3 (r1.2,Tc,⟨#[]⟩,⟨#[]⟩,⟨#[]⟩):=S3.put f6 z6 B6;refine H2.go (vs:=[.string r1.1,.string ⟨#[101,69]⟩]) (hM.trans L3.le) S6.L.ag (zr (a:=Arg.mk .str r1.1) (rdStr _) (zr (a:=Arg.mk .str (⟨#[101,69]⟩:Bt)) (rdStr _) qj)) λw h8 M8 r2 L8 i H3=>?_;rw[Gj i];refine⟨_,_,_,rfl,?_⟩;have S8:=S6.call L8;intro bg aM;have aQ:Fr.le gl M8:=hM.trans S8.L.le;have O:∀{g:zc} {Mg:Fr} {n:N5},St5 h M g Mg n->Fr.le gl Mg:=λS=>hM.trans S.L.le;have aS:∀{Mg:Fr} (s:Bt),RdV Mg .str s (.string s):=λs=>rdStr s;obtain⟨c1,c2⟩:=H3 (λf G I x2 x3 x4=>∀g Mg,St5 h M g Mg (G,I,x2,x3,x4)->bg f g) λf G I x2 x3 x4 P g Mg S=>aM f g (by rw[show zab ⟨zax h,0,Te⟩ 4=⟨h.size,4,Te⟩from rfl];refine xu (by kernel_rfl) (by kernel_rfl) S.B (o:=4) (by simp) rfl λaO bI bB aT=>?_;have am:St5 h M aO Mg (G,I,x2,x3,f):=S.put aT bB bI;refine P.go (vs:=[.string r2.1,.string ⟨#[46]⟩]) (O am) am.L.ag (zr (a:=Arg.mk .str r2.1) (rdStr _) (zr (a:=Arg.mk .str (⟨#[46]⟩:Bt)) (rdStr _) qj)) λw bS aE k bi i P2=>?_;rw[Gj i];refine⟨_,_,_,rfl,?_⟩;have aL:=am.call bi;rw[show zab ⟨zax h,0,Te⟩ 2=⟨h.size,2,Te⟩from rfl,show zab ⟨zax h,0,Te⟩ 3=⟨h.size,3,Te⟩from rfl];refine xu (by kernel_rfl) (by kernel_rfl) aL.B (o:=2) (by simp) rfl λaZ aU br aN=>?_;have aC:St5 h M aZ aE (G,I,k.1,x3,f):=aL.put aN br aU;refine xu (by kernel_rfl) (by kernel_rfl) aC.B (o:=3) (by simp) rfl λbH aP aV bC=>?_;have au:St5 h M bH aE (G,I,k.1,k.2.1,f):=aC.put bC aV aP;refine P2.go (vs:=[.string k.1]) (O au) au.L.ag (zr (a:=Arg.mk .str k.1) (rdStr _) qj) λw bL a6 aB a8 i P3=>?_;obtain⟨bD,hJ,hE⟩:=P3;have Z:=au.call a8;refine⟨aB,Xh i,λv g'=>∃b,v=.bool b/\(∃ab,St5 h M g' ab (G,I,k.1,k.2.1,f))/\(((!(!aB))&&k.2.2)=Ta->bD b),λJ=>(hJ J).go (vs:=[.string k.2.1]) (O Z) Z.L.ag (zr (a:=Arg.mk .str k.2.1) (rdStr _) qj) λw bN be b a7 i hb=>⟨b,Xh i,b,rfl,⟨be,Z.call a7⟩,λ_=>hb⟩,λJ=>⟨Tc,Tc,rfl,⟨a6,Z⟩,λe=>by rw[J]at e;exact nomatch e⟩,λ_ v g' ⟨b,e,_⟩=>⟨b,e⟩,λb g' ⟨b',e,⟨ab,S'⟩,hb⟩=>?_⟩;injection e with e;subst e;obtain⟨e1,e2⟩:=hE b hb;refine⟨λJ=>⟨_,_,_,_,_,Blk.ld (cs:=[.bool G,.bool I,.string k.1,.string k.2.1,.string f]) S'.B,fin g' ab (G,I,k.1,k.2.1,f) Tc S' (e1 J)⟩,λJ=>?_⟩;obtain⟨e3,e4⟩:=e2 J;refine⟨_,_,_,_,_,Blk.ld (cs:=[.bool G,.bool I,.string k.1,.string k.2.1,.string f]) S'.B,?_⟩;intro bP bQ bO bu;have F:=fin g' ab (G,I,k.1,k.2.1,f) _ S' e4;have bq:=XRunU.mono F λh' q=>(⟨e3,q⟩:bu h');repeat' first|exact rfl|exact e3|exact F|exact bq|refine⟨?_,?_⟩);refine⟨λhx=>?_,λhx=>c2 hx h8 M8 S8⟩;refine(c1 hx).go (vs:=[.string r2.2.1,.string ⟨#[45]⟩]) aQ S8.L.ag (zr (a:=Arg.mk .str r2.2.1) (rdStr _) (zr (a:=Arg.mk .str (⟨#[45]⟩:Bt)) (rdStr _) qj)) λw bM aG aa bJ i H4=>?_;rw[JH i];refine⟨_,_,rfl,?_⟩;have aD:=S8.call bJ;rw[show zab ⟨zax h,0,Te⟩ 1=⟨h.size,1,Te⟩from rfl];refine xu (by kernel_rfl) (by kernel_rfl) aD.B (o:=1) (by simp) rfl λaJ bA bF ba=>?_;have Q:St5 h M aJ aG (r1.2,aa.2,⟨#[]⟩,⟨#[]⟩,⟨#[]⟩):=aD.put ba bF bA;intro aY aH;obtain⟨d1,d2⟩:=H4 (λf G I x2 x3 x4=>∀g Mg,St5 h M g Mg (G,I,x2,x3,x4)->aY f g) λf G I x2 x3 x4 P g Mg S=>aH f g (P.go (vs:=[.string f]) (O S) S.L.ag (zr (a:=Arg.mk .str f) (rdStr _) qj) λw aF aA bE ax i he=>⟨bE,Xh i,λJ=>⟨_,_,_,_,_,Blk.ld (cs:=[.bool G,.bool I,.string x2,.string x3,.string x4]) (S.call ax).B,fin aF aA (G,I,x2,x3,x4) Tc (S.call ax) (he.1 J)⟩,λJ=>he.2 J aF aA (S.call ax)⟩);refine⟨aa.2,Blk.cell Q.B (o:=1) rfl,λJ=>(d1 J).go (vs:=[.string aa.1,.string ⟨#[43]⟩]) (O Q) Q.L.ag (zr (a:=Arg.mk .str aa.1) (rdStr _) (zr (a:=Arg.mk .str (⟨#[43]⟩:Bt)) (rdStr _) qj)) λw bm bj bn bz i hk=>⟨bn,lG i,hk bm bj (Q.call bz)⟩,λJ=>d2 J aJ aG Q⟩
end
section
open Go.Lib
variable {l:Bs} {k:Nat}
theorem F6(c:UInt8):∀l:Bs,-1<=indexByte l c/\(0<=indexByte l c↔c∈l)
 |[]=>by simp[indexByte]
 |b::l=>by have i:=F6 c l;unfold indexByte;by_cases h:b=c;simp[h];have h':¬c=b:=λe=>h e.symm;simp only[beq_iff_eq,h,if_false,zan,h',false_or];obtain⟨j,f⟩:=i;split;rename_i e;rw[e]at f;exact⟨by omega,by rw[<-f]⟩;rename_i e;refine⟨by omega,?_⟩;rw[<-f];omega
theorem Wq(u:Nat):(decDigits u).length<=u+1:=by rw[decDigits];split;simp;rename_i h;have:=Wq (u / 10);simp;omega
theorem itoa_len(n:Int):(itoa n).length<=n.natAbs+2:=by unfold itoa;split;have:=Wq n.natAbs;simp;omega;have:=Wq n.toNat;omega
theorem Io(l:Bs)(c:UInt8):hasPrefix l [c]=(l.head?==Td c):=by
 cases l with
 |nil=>rfl
 |cons b t=>simp[hasPrefix,List.isPrefixOf];rw[zbe];simp;exact eq_comm
theorem JX(l:Bs)(c:UInt8):trimPrefix l [c]=if l.head?==Td c then l.tail else l:=by unfold trimPrefix;rw[Io];split <;> simp
theorem CC(l:Bs)(c:UInt8):zn (l++[c])=10*zn l+(c.toNat-48):=by simp[zn,List.foldl_append]
theorem He(b:k<l.length):zn (l.take (k+1))=10*zn (l.take k)+(l[k].toNat-48):=by rw[zal b,CC]
theorem II{p:UInt8->Bool}(h:l.all p=Ta)(k:Nat):(l.take k).all p=Ta:=by rw[za7]at h ⊢;exact λx b=>h x (zcq b)
theorem Gu(h:l.all ya=Ta)(b:k<l.length):48<=l[k].toNat/\l[k].toNat<=57:=by have:=za7.1 h _ (zak b);simpa[ya]using this
theorem Dh:∀(n:Nat) (l:Bs),l.length=n->l.all ya=Ta->zn l<10 ^ n
 |0,l,h,_=>by have:l=[]:=zbb h;subst this;simp[zn]
 |n+1,l,h,hd=>by
  have b:l=l.take (n+1):=by rw[<-h,zba]
  rw[b,He (by omega)];have h1:=Dh n (l.take n) (by simp;omega) (II hd n);have c:=Gu hd (k:=n) (by omega);rw[ze8];omega
theorem r9{n:Nat}(b:l.length<=n)(h:l.all ya=Ta):zn l<10 ^ n:= zdb (Dh _ l rfl h) (Nat.pow_le_pow_right (by omega) b)
theorem tS(h:ij l=Ta):l.all ya=Ta:=by unfold ij at h;exact(Bool.and_eq_true_iff.1 h).1
theorem Wr{p q:UInt8->Bool}(h:l.all p=Ta):(l.dropWhile q).all p=Ta:=by rw[za7]at h ⊢;exact λx b=>h x ((List.dropWhile_sublist q).mem b)
theorem Zh(l:Bs)(q:UInt8->Bool):(l.dropWhile q).length<=l.length:=(List.dropWhile_sublist q).length_le
theorem F0{q:UInt8->Bool}:∀c,(l.dropWhile q).head?=Td c->q c=Tc:=by
 induction l with
 |nil=>simp
 |cons b t e=>intro c h;rw[List.dropWhile_cons]at h;split at h;exact e c h;rename_i f;simp at h;subst h;exact zen.2 f
theorem Ge(h:l.all ya=Ta)(i:l.dropWhile (· == 48)≠[]):ij (jr l)=Ta/\(jr l).length<=(l.dropWhile (· == 48)).length/\((jr l).head? != Td 48)=Ta/\((jr l).getLast? != Td 48)=Ta:=by
 unfold jr;obtain⟨c,t,f⟩:=zcw i;have j:(c==48)=Tc:=by have:=F0 (l:=l) (q:=(· == 48)) c (by rw[f];rfl);simpa using this
 have key:∀(t:Bs),∃u,((c::t).reverse.dropWhile (· == 48)).reverse=c::u:=by
  intro t;rw[List.reverse_cons];have k:∀(r:Bs),∃u,(r++[c]).dropWhile (· == 48)=u++[c]:=by
   intro r;induction r with
   |nil=>exact⟨[],by simp[j]⟩
   |cons b r m=>rw[zbz,List.dropWhile_cons];split;exact m;exact⟨b::r,rfl⟩
  obtain⟨u,e⟩:=k t.reverse;exact⟨u.reverse,by rw[e];simp⟩
 rw[f];obtain⟨u,e⟩:=key t;refine⟨?_,?_,?_,?_⟩;rw[ij,Bool.and_eq_true_iff];refine⟨?_,by rw[e];rfl⟩;rw[List.all_reverse];apply Wr;rw[List.all_reverse,<-f];exact Wr h;rw[List.length_reverse];refine zch (Zh _ _) ?_;simp;rw[e];simp;simpa using j;rw[List.getLast?_reverse];cases hh:((c::t).reverse.dropWhile (· == 48)).head? with
 |none=>rfl
 |some x=>have:=F0 (l:=(c::t).reverse) (q:=(· == 48)) x hh;simpa using this
theorem UQ(h:l.all ya=Ta)(b:l.dropWhile (· == 48)≠[])(k:l.length<=1000)(neg:Bool)(e:Int):j5 (neg,jr l,e)=(decide (-1000000<=e)&&decide (e<=1000000)):=by
 obtain⟨h1,j,i,f⟩:=Ge h b;have m:=Zh l (· == 48);have c:(jr l).isEmpty=Tc:=by rw[ij]at h1;have:=(Bool.and_eq_true_iff.1 h1).2;simpa using this
 unfold j5 mJ;simp only[h1,i,f,c,Bool.and_false,Bool.false_and,Bool.false_or,zct];have:decide ((jr l).length<=1000)=Ta:=by simp;omega
 rw[this];simp
theorem ZF{s:Bs}{x:Lit}(h:mw s=Td x):ij x.whole=Ta/\x.rest.all ya=Ta/\x.exp.all ya=Ta:=by
 obtain⟨b,rfl⟩:=F9 h;unfold mt at b;simp only[zam]at b;obtain⟨⟨⟨h1,e⟩,c⟩,f⟩:=b;refine⟨e,?_,?_⟩;show(Yk s).2.1.all ya=Ta;cases hp:(Yk s).2.2 with
 |true=>rw[hp]at c;exact tS (by simpa using c)
 |false=>rw[show(Yk s).2.1=[]from(AR hp).2];rfl
 show(if(ig s).2.2 then jS s else []).all ya=Ta;cases hm:(ig s).2.2 with
 |true=>rw[hm]at h1;simpa using tS (by simpa using h1)
 |false=>rfl
theorem BR(p:UInt8->Bool)(l:Bs):(cutAt p l).1.length+(cutAt p l).2.1.length<=l.length:=by
 induction l with
 |nil=>simp[cutAt]
 |cons c t b=>unfold cutAt;split <;> simp <;> omega
theorem EJ{s:Bs}{x:Lit}(h:mw s=Td x):x.whole.length+x.rest.length+x.exp.length<=s.length:=by
 obtain⟨b,rfl⟩:=F9 h;have h1:(mr s).length<=s.length:=by unfold mr;split <;> simp
 have e:=BR su (mr s);have i:=BR sV (ig s).1;have c:(jS s).length<=(ig s).2.1.length:=by unfold jS;split;simp;split <;> simp
 have f:(if(ig s).2.2 then jS s else []).length<=(ig s).2.1.length:=by split;exact c;simp
 show(Yk s).1.length+(Yk s).2.1.length+(if(ig s).2.2 then jS s else []).length<=s.length;unfold Yk;unfold ig at *;omega
end
section
section
variable {gl:Fr} {l:Bs}
theorem Sy(c:UInt8):(((c.toNat:Int)).toNat).toUInt8=c:=by simp
theorem Ha{l sep:Bs}{p:UInt8->Bool}(t:∀c,p c=Ta↔c∈sep)(w:l.length<=4611686018427387904){R:Bt×Bt×Bool->Prop}(h:R (bl (cutAt p l).1,bl (cutAt p l).2.1,(cutAt p l).2.2)):
  PC Tp gl 268 [Arg.mk .str (bl l),Arg.mk .str (bl sep)] [.str,.str,.bool] R:=by
 apply UF;simp only[zu,Yj,CK];refine⟨λi=>∃k:Nat,i=k/\k<=l.length/\∀j (f:j<l.length),j<k->p l[j]=Tc,λi=>l.length-i.toNat,⟨0,rfl,by omega,λj _ h=>by omega⟩,?_⟩;rintro i ⟨k,rfl,y,m⟩;refine⟨λr=>?_,λr=>?_⟩;have b:k<l.length:=by simpa using r
 simp only[zae,Km b];refine⟨by omega,Bu ?_⟩;rw[Sy,yo];have u:=(F6 l[k] sep).2;rw[je b w];refine⟨λq=>⟨by omega,by omega,?_⟩,λq=>⟨⟨k+1,rfl,by omega,λj f x=>?_⟩,by simp;omega⟩⟩;have n:p l[k]=Ta:=(t _).2 (u.1 (by simpa using q));rw[DT b (λj f=>m j (by omega) f) n]at h;simp only[zae,zdz,zcm,zdo];rw[zbu (l:=l.drop (k+1)) (by simp)];exact h;by_cases e:j=k;subst e;cases hpj:p l[j]with
 |false=>rfl
 |true=>exact absurd (u.2 ((t _).1 hpj)) (by simpa using q)
 exact m j f (by omega);have b:¬k<l.length:=by simpa using r
 rw[Hi (λc o=>by obtain⟨j,f,rfl⟩:=zdj o;exact m j f (by omega))]at h;exact h
theorem JP{c:UInt8}{R:Bt×Bool->Prop}(h:R (bl (if l.head?==Td c then l.tail else l),l.head?==Td c)):PC Tp gl 267 [Arg.mk .str (bl l),Arg.mk .str (bl [c])] [.str,.bool] R:=by refine UU ?_;rw[yo,yo,JX,Io];exact h
theorem KE{c:UInt8}{R:Bt->Prop}(h:R (bl (if l.head?==Td c then l.tail else l))):PC Tp gl 269 [Arg.mk .str (bl l),Arg.mk .str (bl [c])] [.str] R:=by refine Uj ?_;rw[yo,yo,JX];exact h
theorem xW{R:Bt->Prop}(h:R (bl (l.dropWhile (· == 48)))):PC Tp gl 218 [Arg.mk .str (bl l),Arg.mk .str (bl [48])] [.str] R:=by refine Nk (c:=48) (by decide) ?_;rw[yo];exact h
theorem Oj(b:l.length<=4611686018427387904){R:Bt->Prop}(h:R (bl (l.reverse.dropWhile (· == 48)).reverse)):PC Tp gl 219 [Arg.mk .str (bl l),Arg.mk .str (bl [48])] [.str] R:=by refine Lk (c:=48) (by decide) (by rw[zu];omega) ?_;rw[yo];exact h
theorem Np{s:Bs}(Q:s.length<=4611686018427387904){R:(Bool×Bool×Bt×Bt×Bt)×Bool->Prop} (h1:mt s=Ta->R (((lO s).neg,(lO s).low,bl (lO s).whole,bl (lO s).rest,bl (lO s).exp),Ta)) (C:mt s=Tc->∀a b c d e,R ((a,b,bl c,bl d,bl e),Tc)):
  PC Tp gl 217 [Arg.mk .str (bl s)] [.pair .bool (.pair .bool (.pair .str (.pair .str .str))),.bool] R:=by
 apply Re;refine JP (c:=45) ?_;dsimp only;have S:(mr s).length<=s.length:=by unfold mr;split <;> simp
 have H:=BR su (mr s);refine Ha (l:=mr s) (sep:=[101,69]) (p:=su) (λc=>by simp[su]) (by omega) ?_;dsimp only;have L:(ig s).1.length+(ig s).2.1.length<=(mr s).length:=H;have r:∀(e:Bs) (low:Bool),((ig s).2.2=Ta->ij (jS s)=Ta/\low=mN s/\e=jS s)->((ig s).2.2=Tc->low=Tc/\e=[]) ->
   PC Tp gl 268 [Arg.mk .str (bl (ig s).1),Arg.mk .str (bl [46])] [.str,.str,.bool] (λf:Bt×Bt×Bool=>PC Tp gl 215 [Arg.mk .str f.1] [.bool] (λm:Bool=>∃u:Bool->Prop,(((!(!m))&&f.2.2)=Ta->PC Tp gl 215 [Arg.mk .str f.2.1] [.bool] u) /\ ∀o:Bool,(((!(!m))&&f.2.2)=Ta->u o)->((bif (!m)then Ta else(bif f.2.2 then(!o)else Tc))=Ta->R ((s.head?==Td 45,(low,(f.1,(f.2.1,bl e)))),Tc)) /\ ((bif (!m)then Ta else(bif f.2.2 then(!o)else Tc))=Tc->((!((f.1:Bt).toList==((⟨#[48]⟩:Bt):Bt).toList))=Ta->(0<=(0:Int)/\(0:Int)<((f.1).size:Int))) /\ R ((s.head?==Td 45,(low,(f.1,(f.2.1,bl e)))),bif ((f.1:Bt).toList==((⟨#[48]⟩:Bt):Bt).toList)then Ta else((yf f.1 (0:Int).toNat:Int) != 48))))):=by
  intro e low O k2;have w:(!(ig s).2.2||ij (jS s))=Ta/\mN s=low/\(if(ig s).2.2 then jS s else [])=e:=by
   cases A:(ig s).2.2 with
   |true=>obtain⟨a,b,c⟩:=O A;exact⟨by simp[a],b.symm,by simp[c]⟩
   |false=>obtain⟨a,b⟩:=k2 A;exact⟨rfl,by unfold mN;rw[A,a];rfl,by simp[b]⟩
  refine Ha (l:=(ig s).1) (sep:=[46]) (p:=sV) (λc=>by simp[sV]) (by omega) ?_;refine uP ⟨λx=>ij (Yk s).2.1=x,λ_=>uP rfl,λy G=>?_⟩;dsimp only;simp only[show(⟨#[48]⟩:Bt)=bl [48]from rfl,lK,zu,Yj];change (_->ij (Yk s).2.1=y)at G;show((bif (!ij (Yk s).1)then Ta else(bif (Yk s).2.2 then(!y)else Tc))=Ta->R ((s.head?==Td 45,(low,(bl (Yk s).1,(bl (Yk s).2.1,bl e)))),Tc)) /\ ((bif (!ij (Yk s).1)then Ta else(bif (Yk s).2.2 then(!y)else Tc))=Tc->((!decide ((Yk s).1=[48]))=Ta->(0<=(0:Int)/\(0:Int)<((Yk s).1.length:Int))) /\ R ((s.head?==Td 45,(low,(bl (Yk s).1,(bl (Yk s).2.1,bl e)))),bif decide ((Yk s).1=[48])then Ta else(((((Yk s).1[(0:Int).toNat]?).getD 0).toNat:Int) != 48)));have B:ij (Yk s).1=Ta->(Yk s).2.2=Ta->ij (Yk s).2.1=y:=λa b=>G (by show((!(!ij (Yk s).1))&&(Yk s).2.2)=Ta;rw[a,b];rfl);refine⟨λi=>C ?_ _ _ _ _ _,λi=>⟨λ_=>?_,?_⟩⟩;unfold mt;cases q:ij (Yk s).1 with
  |false=>simp
  |true=>
   rw[q]at i;cases hw:(Yk s).2.2 with
   |false=>rw[hw]at i;simp at i
   |true=>rw[hw]at i;have:=B q hw;rw[this];simp at i;simp[i]
  all_goals
   have q:ij (Yk s).1=Ta:=by
    cases q:ij (Yk s).1 with
    |true=>rfl
    |false=>rw[q]at i;simp at i
   have P:=DO q
  omega;have M:(!(Yk s).2.2||ij (Yk s).2.1)=Ta:=by
   cases hw:(Yk s).2.2 with
   |false=>rfl
   |true=>rw[q,hw]at i;have:=B q hw;rw[this];simpa using i
  have J:(bif decide ((Yk s).1=[48])then Ta else(((((Yk s).1[(0:Int).toNat]?).getD 0).toNat:Int) != 48))=((Yk s).1==[48]||(Yk s).1.head? != Td 48):=by rw[show(0:Int).toNat=0 from rfl,Fu P,Bool.cond_true_left,zbe];simp
  have t:mt s=((Yk s).1==[48]||(Yk s).1.head? != Td 48):=by unfold mt;rw[w.1,q,M];simp
  rw[J];cases ho:((Yk s).1==[48]||(Yk s).1.head? != Td 48)with
  |true=>have:=h1 (t.trans ho);unfold lO at this;rw[w.2.1,w.2.2]at this;exact this
  |false=>exact C (t.trans ho) _ _ _ _ _
 intro K F;refine⟨λA=>?_,λA=>?_⟩;have n:(ig s).2.2=Ta:=A;refine JP (c:=45) (l:=(ig s).2.1) ?_;dsimp only;intro I E;have step:∀low e,low=mN s->e=jS s->I (bl e) (s.head?==Td 45) low (bl []) (bl []) (bl []):=by
  intro low e D z;refine E _ _ _ _ _ _ (uP ⟨λi=>?_,λi=>?_⟩);refine C ?_ _ _ [] [] [];unfold mt;rw[n,<-z];have:ij e=Tc:=by simpa using i
  rw[this];rfl;refine F _ _ _ _ _ _ (r e low (λ_=>⟨by rw[<-z];simpa using i,D,z⟩) λh=>by rw[n]at h;cases h)
 have k:mN s=((ig s).2.1.head?==Td 45):=by unfold mN;rw[n];rfl
 refine⟨λi=>?_,λi=>?_⟩;have j:((ig s).2.1.head?==Td 45)=Tc:=by simpa using i
 rw[j];refine KE (c:=43) ?_;simp only[zcj,if_false];refine step Tc _ (by rw[k,j]) ?_;unfold jS;rw[k,j];simp;have j:((ig s).2.1.head?==Td 45)=Ta:=by simpa using i
 rw[j];simp only[if_true];refine step Ta _ (by rw[k,j]) ?_;unfold jS;rw[k,j];simp;have n:(ig s).2.2=Tc:=A;have N:(ig s).2.1=[]:=(AR n).2;have:=r [] Tc (λh=>by rw[n]at h;cases h) λ_=>⟨rfl,rfl⟩;show K (bl (ig s).2.1) _ _ _ _ _;rw[N];exact F _ _ _ _ _ _ this
theorem Ol{α β γ δ:Type}{B:α->β->γ->δ->Prop}{c:Bool}{a b:α}{x:β}{y:γ}{z:δ}(h:∀e,e=(bif c then a else b)->B e x y z):∀K:α->β->γ->δ->Prop,(∀e x y z,B e x y z->K e x y z)->(c=Ta->K a x y z)/\(c=Tc->K b x y z):= λK i=>⟨λf=>i _ _ _ _ (h _ (by subst f;rfl)),λf=>i _ _ _ _ (h _ (by subst f;rfl))⟩
theorem io{n:Int}(h:-4611686018427387904<=n/\n<=4611686018427387904):w6 n=n:=wrap64 (by omega) (by omega)
set_option maxHeartbeats 1000000 in
theorem Cx{s:Bs}(T:s.length<=1152921504606846976){R:(Bool×Bt×Int)×Int->Prop}(h:R (om (ye s).1,(ye s).2)):PC Tp gl 160 [Arg.mk .str (bl s)] [tN,.int .i64] R:=by
 apply ZJ;refine Np (by omega) (λq=>?_) (λq a b c d e=>?_);rotate_left;refine xW ⟨λ_=>?_,λk=>by cases k⟩;have:mw s=Te:=by unfold mw;simp[q]
 unfold ye at h;rw[this]at h;exact h;have f:mw s=Td (lO s):=by unfold mw;simp[q]
 have I:=EJ f;obtain⟨d1,d2,d3⟩:=ZF f;unfold ye at h;rw[f]at h;simp only at h;generalize lO s=x at *;refine xW ⟨λk=>(by cases k),λ_=>?_⟩;simp only[zu];rw[io (by omega)];refine⟨λk=>?_,λk=>?_⟩;rw[zA (by simp at k;omega)]at h;exact h;rw[zv (by simp at k;omega)]at h;refine⟨λj=>?_,λj=>?_⟩;rw[zA (by simp at j;omega)]at h;exact h;rw[zv (by simp at j;omega)]at h;have z:x.whole.length+x.rest.length<=1000:=by simp at k;omega
 have O:x.exp.all ya=Ta:=d3;generalize M:x.exp.dropWhile (· == 48)=E at *;have t:E.all ya=Ta:=by rw[<-M];exact Wr d3
 have C:E.length<=9:=by simp at j;omega
 have N:zn E<10 ^ 9:=r9 C t;refine⟨λe _ _ _ p=>p.1=bl E/\p.2<=E.length/\e=(zn (E.take p.2):Int),λ_ _ _ _ p=>E.length-p.2,⟨rfl,by omega,by simp[zn]⟩,?_⟩;rintro e b1 b2 b3 ⟨_,p⟩ ⟨rfl,L,rfl⟩;simp only at L ⊢;rw[rU,qO];refine⟨λy=>⟨y,?_⟩,λy=>?_⟩;have i:p<E.length:=by simpa using y
 have S:=Gu t i;have G:E.drop p=E[p]::E.drop (p+1):=zbt i;rw[nK E p i,G,Jw (by omega)];have P:=r9 (n:=9) (l:=E.take p) (by simp;omega) (II t p);rw[XM (by omega) (by omega),io (n:=10*_) (by omega),io (n:=(_:Int)-48) (by omega),io (by omega)];simp only;refine⟨⟨trivial,by omega,?_⟩,by omega⟩;rw[He i];omega;have i:¬p<E.length:=by simpa using y
 have A:p=E.length:=by omega
 subst A;rw[zba];apply Ol;intro u B;refine⟨by unfold j6;omega,?_⟩;rw[wj];refine xW ?_;rw[show(⟨#[]⟩:Bt)=bl []from rfl];simp only[lK];have H:(x.whole++x.rest).all ya=Ta:=by rw[zei,tS d1,d2];rfl
 refine⟨λr=>?_,λr=>?_⟩;rw[zA (by simpa using r)]at h;exact h;have m:(x.whole++x.rest).dropWhile (· == 48)≠[]:=by simpa using r
 rw[zv m]at h;have F:=Zh (x.whole++x.rest) (· == 48);rw[zah]at F;refine Oj (by omega) ?_;have J:=(Ge H m).2.1;have D:=UQ H m (by rw[zah];exact z);simp only[zu,show((List.dropWhile (λx=>x==48) (x.whole++x.rest)).reverse.dropWhile (λx=>x==48)).reverse=jr (x.whole++x.rest)from rfl];have w:u=if x.low then-(zn E:Int)else(zn E:Int):=by rw[B];cases x.low <;> simp;exact io (by omega)
 have Q:-1000000000<=u/\u<=1000000000:=by rw[w];split <;> omega
 rw[io (n:=u-_) (by omega),io (n:=u-_+_) (by omega),io (by omega)];refine A9 (n:=(x.neg,jr (x.whole++x.rest),u-(x.rest.length:Int)+(((x.whole++x.rest).dropWhile (· == 48)).length:Int)-((jr (x.whole++x.rest)).length:Int))) (by simp only;omega) ?_;rw[D];change R (om (if -1000000<=(if x.low=Ta then-(zn E:Int)else(zn E:Int))-(x.rest.length:Int)+(((x.whole++x.rest).dropWhile (· == 48)).length:Int)-((jr (x.whole++x.rest)).length:Int)/\(if x.low=Ta then-(zn E:Int)else(zn E:Int))-(x.rest.length:Int)+(((x.whole++x.rest).dropWhile (· == 48)).length:Int)-((jr (x.whole++x.rest)).length:Int)<=1000000 then((x.neg,jr (x.whole++x.rest),(if x.low=Ta then-(zn E:Int)else(zn E:Int))-(x.rest.length:Int)+(((x.whole++x.rest).dropWhile (· == 48)).length:Int)-((jr (x.whole++x.rest)).length:Int)),0)else((Tc,[],0),4)).1,_)at h;rw[<-w]at h;refine⟨λo=>?_,λo=>?_⟩;rw[zv (by simp at o;omega)]at h;exact h;rw[zA (by simp at o;omega)]at h;exact h
end
section
variable {gl:Fr}
theorem oy{a b:Bs}(h:a.length+b.length<=4611686018427387904):j6 ((bl a).size+(bl b).size):=by unfold j6;rw[zu,zu];omega
theorem Gk(m:rZ gl){n:Nm}(r:n.2.1.length<=4611686018427387904){R:Bt->Prop}(h:R (bl (Xi n))):PC Tp gl 92 [Arg.mk tN (om n)] [.str] R:=by
 apply WE;refine A9 r ⟨λf=>?_,λf=>?_⟩;have:j5 n=Tc:=by simpa using f
 have e:Xi n=[]:=by unfold Xi;simp[this]
 rw[e]at h;exact h;have i:j5 n=Ta:=by simpa using f
 obtain⟨w,o,k⟩:=E9 i;unfold Xi at h;rw[zA i]at h;simp only[show(⟨#[]⟩:Bt)=bl []from rfl,lK];refine⟨λc=>?_,λc=>?_⟩;rw[zA (by simpa using c)]at h;exact h;rw[zv (by simpa using c)]at h;intro K u;have key:∀t:Bs,t=(if n.1 then [45]else [])++n.2.1->K (bl t):=by
  intro t j;have q:t.length<=1001:=by rw[j];split <;> simp <;> omega
  rw[<-j]at h;refine u _ ⟨λb=>?_,λb=>?_⟩;rw[zv (by simpa using b)]at h;have l:=Go.X.itoa_len n.2.2;refine zU m (by omega) (by omega) ?_;refine⟨oy (a:=[101]) (by simp;omega),?_⟩;rw[show(⟨#[101]⟩:Bt)=bl [101]from rfl,wj,wj];exact⟨oy (by simp;omega),h⟩;rw[zA (by simpa using b),zbs]at h;exact h
 refine⟨λb=>⟨oy (a:=[45]) (by simp;omega),?_⟩,λb=>?_⟩;rw[show(⟨#[45]⟩:Bt)=bl [45]from rfl,wj];exact key _ (by rw[zA (by simpa using b)]);exact key _ (by rw[zv (by simpa using b)];rfl)
theorem RH(i:rZ gl){n:Int}(h1:-9223372036854775808<=n)(f:n<=9223372036854775807){R:Bool×Bt×Int->Prop}(h:R (om (ye (Lib.itoa n)).1)):PC Tp gl 93 [Arg.mk PJ n] [tN] R:=by
 apply Mp;refine zU i h1 f (Cx ?_ h);have:=Go.X.itoa_len n;have b:∀u:Nat,u<10 ^ 20->(Lib.decDigits u).length<=20:=by
  have:∀(k u:Nat),u<10 ^ (k+1)->(Lib.decDigits u).length<=k+1:=by
   intro k;induction k with
   |zero=>intro u c;rw[Lib.decDigits,dif_pos (by simpa using c)];simp
   |succ k e=>intro u c;rw[Lib.decDigits];split;simp;have:=e (u / 10) (by rw[ze8]at c;omega);simp;omega
  exact this 19
 have:(Lib.itoa n).length<=21:=by unfold Lib.itoa;split;have:=b n.natAbs (by omega);simp;omega;have:=b n.toNat (by omega);omega
 omega
end
section
theorem Hk{c:UInt8}{n:Int}(d:UInt8)(b:n=(d.toNat:Int)):((c.toNat:Int) != n)=!(c==d):=by subst b;rw[zbe];simp only[bne_iff_ne,ne_eq,Int.natCast_inj,zd4,beq_eq_false_iff_ne];exact⟨λh e=>h (by rw[e]),λh e=>h (zd3.1 e)⟩
end
end
section
open Go.Shelf Go.RowKit
def SZ:Go.Shelf.Ren:=⟨fun|196=>246|259=>297|n=>n,fun|9=>9|4=>4|3=>3|5=>5|12=>12|119=>305|0=>0|46=>123|139=>308|138=>307|53=>178|n=>n,fun|3=>0|4=>1|n=>n⟩
theorem QW:Go.Proofs.Lays.n196 Tp SZ:=by constructor <;> intros <;> kernel_rfl
open Go.RowKit Go.Lib in
theorem VC(s:Bt)(w:World)(b:s.size<=9223372036854775807)(c:Lib.Utf8Tabs 0 1 w): Calls Tp 246 #[.string s] w λe w'=>e=.returned (.bool (Lib.validD s.data.toList))/\Below w.heap.size w w':=Any.utf8_ValidString QW s w b c
end
section
variable {l:Bs}
theorem NU{n:Int}{k:Nat}(b:n=(k:Int)):(bl l).extract n.toNat ((l.length:Int)).toNat=bl (l.drop k):=by subst b;rw[zae,zae,CK,zbu (by simp)]
theorem FF(l:Bs):Lib.validD l=Qq l:=by
 by_cases h:l=[];subst h;rw[y6];rfl;rw[Lib.validD_step l h,Ju h,Lib.decodeL_N,FF (l.drop _)];have e:jO (dec l)=decide ((dec l).1=65533/\(dec l).2=1):=by unfold jO;rw[Bool.decide_and];rfl
 rw[e];by_cases c:(dec l).1=65533/\(dec l).2=1;rw[zJ c];exact zA c;rw[decide_eq_false c];exact zv c
termination_by l.length
decreasing_by
 have h1:=Qa l;have h2:0<l.length:=zb9.2 h;unfold dec at h1;simp only[zb8];omega
theorem XS{gl:Fr}(c:Tabs gl)(e:l.length<=4611686018427387904){R:Bool->Prop}(h:R (Qq l)):PC Tp gl 246 [Arg.mk .str (bl l)] [.bool] R:= PC.of_scal rfl (λ_=>G7 _) (by rw[<-FF]at h;exact h) λw b=>VC (bl l) w (by rw[zu];omega) (c.at b)
end
section
open Go.Lib
section
theorem Nh(l:Bs)(a:Nat):l.foldl (λn c=>10*n+(c.toNat-48)) a=a*10 ^ l.length+zn l:=by
 induction l generalizing a with
 |nil=>simp[zn]
 |cons c t b=>
  simp only[List.foldl_cons,zaw,zn];rw[b,b (10*0+(c.toNat-48)),ze8];have:(10*a+(c.toNat-48))*10 ^ t.length=a*(10 ^ t.length*10)+(c.toNat-48)*10 ^ t.length:=by rw[zcs,zd7 10 a,Nat.mul_assoc,zd7 10 (10 ^ t.length)]
  rw[this];simp;omega
theorem Ws(a b:Bs):zn (a++b)=zn a*10 ^ b.length+zn b:=by rw[zn,List.foldl_append,Nh];rfl
theorem Lq(n:Nat):zn (zcv n 48)=0:=by
 induction n with
 |zero=>rfl
 |succ n b=>rw[List.replicate_succ];exact b
theorem J2:∀(l:Bs) (b:Nat),l.all ya=Ta->b*10 ^ l.length+zn l<10 ^ 19->parseUintM (2 ^ 64-1) b l=.ok (b*10 ^ l.length+zn l)
 |[],b,_,_=>by simp[parseUintM,zn]
 |c::t,b,hd,hl=>by
  rw[zdf,zam]at hd
  have i:48<=c.toNat/\c.toNat<=57:=by simpa[ya]using hd.1
  have e:zn (c::t)=(c.toNat-48)*10 ^ t.length+zn t:=by
   have:=Ws [c] t
   rw[List.singleton_append]at this
   rw[this];simp[zn]
  have f:(b*10+(c.toNat-48))*10 ^ t.length+zn t=b*10 ^ (c::t).length+zn (c::t):=by
   rw[e,zaw,ze8,zcs,Nat.mul_assoc,zd7 10 (10 ^ t.length)];omega
  have h:1<=10 ^ t.length:=Nat.one_le_pow _ _ (by decide)
  have j:b*10+(c.toNat-48)<=b*10 ^ (c::t).length+zn (c::t):=by
   rw[<-f]
   calc b*10+(c.toNat-48)=(b*10+(c.toNat-48))*1:=by omega
    _<=(b*10+(c.toNat-48))*10 ^ t.length:=Nat.mul_le_mul_left _ h
    _<=_:=by omega
  rw[parseUintM,zA i,zv (by omega),zv (by omega),J2 t _ hd.2 (by rw[f];exact hl),f]
def Jy(n:Nm):Bs:=n.2.1++zcv n.2.2.toNat 48
theorem PH(n:Nm):zn (Jy n)=zn n.2.1*10 ^ n.2.2.toNat:=by rw[Jy,Ws,Lq,zdl,zew]
theorem PZ{n:Nm}(h:j5 n=Ta):n.2.1.all ya=Ta:=by unfold j5 mJ at h;rcases zeh _ _ ▸ h with h|h;simp at h;rw[h.2.1];rfl;simp only[zam]at h;exact tS h.1.1.1.1.1
theorem Sf{n:Nm}(h:j5 n=Ta):(Jy n).all ya=Ta:=by rw[Jy,zei,PZ h,zct,za7];intro x b;rw[List.mem_replicate]at b;rw[b.2];rfl
theorem NS{l:Bs}(neg:Bool)(e:l.all ya=Ta)(j:l.length<=19)(b:l≠[]):
  parseIntB 64 ((if neg then [45]else [])++l)=if neg then(if zn l<=9223372036854775808 then .ok (-(zn l:Int))else .range)else(if zn l<=9223372036854775807 then .ok (zn l:Int)else .range):=by
 have k:zn l<10 ^ 19:=r9 j e;have f:=J2 l 0 e (by rw[zeg];omega);rw[zeg,zas]at f;cases neg with
 |true=>simp only[if_true,List.singleton_append];unfold parseIntB;simp only[show(45:UInt8).toNat=45 from rfl,or_true,if_true];unfold parseUintB;rw[zv b,f];simp only[not_true_eq_false,false_and,if_false,true_and];split;rename_i h;rw[zv (by omega)];rename_i h;rw[zA (by omega)]
 |false=>
  simp only[zcj,if_false,zck];obtain⟨c,t,rfl⟩:=zcw b;have m:48<=c.toNat/\c.toNat<=57:=by rw[zdf,zam]at e;simpa[ya]using e.1
  unfold parseIntB;simp only;rw[zv (by omega)];unfold parseUintB;rw[zv (by simp),f];have i:¬c.toNat=45:=by omega
  simp only[i,not_false_eq_true,true_and,false_and,if_false];split;rename_i h;rw[zv (by omega)];rename_i h;rw[zA (by omega)]
theorem UY{a b:Nat}(j:a<18446744073709551616)(k:b<18446744073709551616):zaa .u64 (((zco (zb1 .u64) (a:Int)) &&& (zco (zb1 .u64) (b:Int))).toNat:Int)=((a &&& b:Nat):Int):=by
 have c:zb1 .u64=64:=rfl;have e:((zco (zb1 .u64) (a:Int)) &&& (zco (zb1 .u64) (b:Int))).toNat=a &&& b:=by rw[BitVec.toNat_and,BitVec.ofInt_natCast,BitVec.ofInt_natCast,BitVec.toNat_ofNat,BitVec.toNat_ofNat,c,Nat.mod_eq_of_lt (by omega),Nat.mod_eq_of_lt (by omega)]
 rw[e];have f:a &&& b<2 ^ 64:=Nat.and_lt_two_pow _ (by omega);((try unfold w6);unfold zaa);have h:(2:Int) ^ zb1 .u64=18446744073709551616:=by decide
 simp only[h];have i:zfi .u64=Tc:=rfl;simp only[i,Bool.false_and,zcj,if_false];omega
theorem Ll{n:Int}(h1:0<=n)(e:n<18446744073709551616):zaa .u64 n=n:=by
 ((try unfold w6);unfold zaa);have b:(2:Int) ^ zb1 .u64=18446744073709551616:=by decide
 simp only[b];have c:zfi .u64=Tc:=rfl;simp only[c,Bool.false_and,zcj,if_false];omega
end
section
variable {v x:Tr} {l:List Tr} {k:Nat}
mutual
def aR:Tr->Nat | .mk _ _ _ xs=>1+wa xs
def wa:List Tr->Nat | []=>0|x::l=>aR x+wa l
end
mutual
def cR:Tr->Nat | .mk _ _ _ xs=>Xj xs+1
def Xj:List Tr->Nat | []=>0|x::l=>max (cR x) (Xj l)
end
mutual
def yr(p:Tr->Bool):Tr->Bool | .mk k s ks xs=>p (.mk k s ks xs)&&mu p xs
def mu(p:Tr->Bool):List Tr->Bool | []=>Ta|x::l=>yr p x&&mu p l
end
mutual
def hH(m:Nat):Tr->Prop | .mk _ s ks xs=>(s.size<=m/\ks.length<=m/\∀k∈ks,k.size<=m)/\mE m xs
def mE(m:Nat):List Tr->Prop | []=>True|x::l=>hH m x/\mE m l
end
theorem ql(v:Tr):aR v=1+wa v.items:=by cases v;rw[aR]
theorem j8(v:Tr):cR v=Xj v.items+1:=by cases v;rw[cR]
theorem Z0(p:Tr->Bool)(v:Tr):yr p v=(p v&&mu p v.items):=by cases v;rw[yr]
theorem Qr(m:Nat)(v:Tr):hH m v↔(v.text.size<=m/\v.keys.length<=m/\∀k∈v.keys,k.size<=m)/\mE m v.items:=by cases v;rw[hH]
theorem Y2{m:Nat}:∀{l:List Tr},mE m l↔∀x∈l,hH m x
 |[]=>by simp[mE]
 |x::l=>by rw[mE,Y2];simp
theorem Qt{m:Nat}(h:hH m v)(b:x∈v.items):hH m x:=Y2.1 ((Qr m v).1 h).2 x b
theorem wl(p:Tr->Bool):∀l:List Tr,mu p l=l.all (yr p)
 |[]=>rfl
 |x::l=>by rw[mu,wl p l];rfl
theorem xr:∀a b:List Tr,wa (a++b)=wa a+wa b
 |[],b=>by simp[wa]
 |x::l,b=>by rw[zbz,wa,wa,xr l b];omega
theorem CW:∀a b:List Tr,Xj (a++b)=max (Xj a) (Xj b)
 |[],b=>by simp[Xj]
 |x::l,b=>by rw[zbz,Xj,Xj,CW l b];omega
theorem FY{x:Tr}:∀{l:List Tr},x∈l->aR x<=wa l
 |y::l,h=>by rw[wa];rcases zan.1 h with rfl|h;omega;have:=FY h;omega
theorem qo(h:x∈v.items):aR x<aR v:=by have:=FY h;rw[ql v];omega
theorem wy:∀l:List Tr,l.length<=wa l
 |[]=>by simp[wa]
 |x::l=>by have:=wy l;rw[wa,zaw,ql];omega
theorem Qk(v:Tr):0<aR v:=by rw[ql];omega
theorem UV(b:k<l.length):wa (l.take (k+1))=wa (l.take k)+aR l[k]:=by rw[zal b,xr];simp[wa]
theorem z5b(b:k<l.length):Xj (l.take (k+1))=max (Xj (l.take k)) (cR l[k]):=by rw[zal b,CW];simp[Xj]
mutual
theorem Ns:∀v:Tr,cR v<=aR v
 |.mk _ _ _ xs=>by rw[cR,aR];have:=vR xs;omega
theorem vR:∀l:List Tr,Xj l<=wa l
 |[]=>by simp[Xj]
 |x::l=>by rw[Xj,wa];have:=Ns x;have:=vR l;omega
end
def yq(ks:List Bt):Bool:=ks.all (λk=>Qq (lb k))&&decide ks.Nodup
def kR(s:Bs):Nm×Bool:=((ye s).1,(ye s).2==0&&decide (Xi (ye s).1=s))
def vM(s:Bs):Bool:=(kR s).2&&(vh (kR s).1).2&&decide (0<=(vh (kR s).1).1)
def zi(v:Tr):Bool:=
 if v.kind=1 then lb v.text==[]&&v.keys.isEmpty&&v.items.isEmpty
 else if v.kind=2 then(lb v.text==[116,114,117,101]||lb v.text==[102,97,108,115,101])&&v.keys.isEmpty&&v.items.isEmpty
 else if v.kind=3 then(kR (lb v.text)).2&&v.keys.isEmpty&&v.items.isEmpty
 else if v.kind=4 then Qq (lb v.text)&&v.keys.isEmpty&&v.items.isEmpty
 else if v.kind=5 then lb v.text==[]&&v.keys.isEmpty
 else if v.kind=6 then yq v.keys&&decide (v.keys.length=v.items.length)&&lb v.text==[]
 else if v.kind=7 then vM (lb v.text)&&v.keys.isEmpty&&v.items.isEmpty
 else Tc
def Zi(v:Tr):Bool:=decide (aR v<=4096)&&decide (cR v<=32)
def y8(v:Tr):Bool:=Zi v&&yr zi v
def zh(v:Tr):Bool:=Zi v&&yr (λx=>decide (x.kind≠7)&&zi x) v
structure Sm (v:Tr):Prop where
 sz:aR v<=1000000000000
 tx:hH 1048576 v
theorem Sm.item(h:Sm v)(b:x∈v.items):Sm x:=⟨by have:=qo b;have:=h.sz;omega,Qt h.tx b⟩
theorem Sm.text(h:Sm v):(lb v.text).length<=1048576:=by rw[nv];exact((Qr _ v).1 h.tx).1.1
theorem Sm.key(h:Sm v){k:Bt}(b:k∈v.keys):(lb k).length<=1048576:=by rw[nv];exact((Qr _ v).1 h.tx).1.2.2 k b
theorem Sm.keys(h:Sm v):v.keys.length<=1048576:=((Qr _ v).1 h.tx).1.2.1
theorem Sm.items(h:Sm v):v.items.length<=1000000000000:=by have:=wy v.items;have:=h.sz;rw[ql]at this;omega
end
end
end Go.X
