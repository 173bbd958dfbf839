/- A part of the proof: nothing is stated here for its own sake. -/
import Derived.Test.YtjohlemfgcmaoaaGreatDoorPoB
import Derived.ProofKit
import Derived.OpenShut
import Derived.ShutString
import Derived.SizedLaws
import Derived.LaidSub
import Derived.Lib.LaidU8
import Derived.Test.YtjohlemfgcmaoaaGreatDoorProg
import Derived.Lib.Replace
import Derived.Shelf.Strings.Trim
import Derived.Shelf.Small.Bits
import Derived.Shelf.Small.Wraps
import Derived.Shelf.Strings.BuilderRune
import Derived.Shelf.Utf8.AppendRune
import Derived.Shelf.Utf8.AppendRunePlain
import Derived.Shelf.Strconv.Itoa3
import Derived.Shelf.Strconv.AtoiErr
import Derived.Shelf.Strconv.ErrVarAll
import Derived.Shelf.Strconv.ErrVarParseInt
import Derived.Shelf.Pu.ParseUintPublic10
import Derived.Shelf.Sort.Plain
import Derived.Shelf.Unicode.Decode
import Derived.Shelf.Strings.IndexAnyAll
import Derived.Shelf.Strings.Repeat
import Derived.Shelf.Unicode.DecodeLast
import Derived.Shelf.Strings.BuilderCap
import Derived.Shelf.Slices.Turned
import Derived.Shelf.Slices.Clone
import Derived.Shelf.Slices.SearchI
import Derived.Shelf.Slices.In.SortNone
import Derived.Shelf.SlicesE.Clone
open _root_.Go.Addr renaming add->Al
open _root_.Array renaming getD_eq_getD_getElem?->A7,getElem?_append_left->Ck,getElem?_eq_getElem->AI,getElem?_eq_some_iff->Ac,getElem?_push->BV,range->Es,replicate->Ba,toList_map->C8
open _root_.BitVec renaming ofInt->Ar
open _root_.Bool renaming and_eq_true->AY,cond_true_left->Ce,eq_iff_iff->AH,false_and->DL,false_or->Dx,or_eq_false_iff->BZ,or_eq_true->BN,true_and->Cd
open _root_.Go.Builtin renaming append_->AB
open _root_.ByteArray renaming empty->DZ
open _root_.Go.Code renaming cond->Ee,region->CW
open _root_.Go.Instr renaming fill->Et
open _root_.Int renaming toNat_natCast->Ah
open _root_.Go.IntKind renaming bits->Ao,signed->Di,wrap->Ab
open _root_.List renaming all_eq_true->AX,append_assoc->AQ,append_nil->AW,cons_append->AO,drop_drop->BR,drop_eq_getElem_cons->AF,drop_eq_nil_of_le->Bj,drop_zero->BQ,eq_nil_of_length_eq_zero->AJ,exists_cons_of_ne_nil->A6,ext_getElem?->Bm,getD_eq_getElem?_getD->Cz,getElem?_drop->AE,getElem?_eq_getElem->Ai,getElem?_eq_none->BH,getElem?_eq_some_iff->Av,getElem?_map->BS,getElem?_take->Az,getElem_mem->AL,length->Dd,length_append->Ap,length_cons->Aw,length_drop->AC,length_eq_zero_iff->A8,length_erase_of_mem->CP,length_map->A0,length_pos_iff->Bn,length_range->DC,mapM_cons->Ea,map_cons->A4,mem_append->As,mem_append_left->Am,mem_append_right->Au,mem_cons->Af,mem_cons_of_mem->Ae,mem_cons_self->Aj,mem_map->En,mem_range->BL,mem_singleton->Bf,nodup_range->Dh,pairwise_cons->BI,range->Bv,take_append_drop->Cf,take_length->Bb,take_of_length_le->Co,take_succ_cons->Be,take_succ_eq_append_getElem->AD
open _root_.List.cons renaming injEq->Bu
open _root_.Nat renaming add_zero->Cu,blt_eq->Cs,eq_of_beq_eq_true->Ag,le_mul_of_pos_right->Dj,le_of_ble_eq_true->BG,le_refl->Ad,le_trans->D6,lt_of_lt_of_le->Dk,lt_or_ge->AR,mul_one->Dc,pow_succ->DV,strongRecOn->Du,zero_add->Ay,zero_le->CV,zero_mul->Db
open _root_.Go.Next renaming value->Dl
open _root_.Option renaming bind_some->CK
open _root_.Option.some renaming inj->Aq,injEq->Aa
open _root_.Pure renaming pure->Da
open _root_.Go.Proofs.Tryz renaming func212->Eb,isAgg0->CY,isAgg181->Ei,isAgg20->Eo,isAgg21->Dp,isAgg3->Cm,isAgg4->Cp,isAgg5->Cq,isAgg9->Cn,prog->AZ,sizeOf0->CB,sizeOf181->Ec,sizeOf20->Eh,sizeOf21->De,sizeOf3->B6,sizeOf4->Cg,sizeOf5->Ci,sizeOf9->Ca,underlying0->BW,underlying181->Dq,underlying20->DD,underlying21->CC,underlying3->BB,underlying4->BC,underlying5->BF,underlying9->Br,zeroValue0->Cc,zeroValue20->DU,zeroValue21->CN,zeroValue3->BJ,zeroValue4->BO,zeroValue5->BP,zeroValue9->BK
open _root_.UInt8 renaming ofNat->BX,toNat_inj->D3
open _root_.Go.Value.slice renaming injEq->AP
open _root_.Go.Value renaming string->Cv
set_option linter.unusedVariables false
set_option maxRecDepth 100000
namespace Go.X
end Go.X
namespace Go.Proofs
end Go.Proofs
open Go Go.X Go.Proofs
section
namespace Go.X
section
variable {P:Program} {t tr tx:TypeId} {n d m i id:Nat} {cs R C:CS} {γ:Gh} {h:za} {o:Oper} {sv:AV} {gl:Fr} {c:zt} {ops:Array Oper} {pu ord:List Nat} {listed pl:Array Bool} {a:Act}
variable {h0 : za} {W : Nat -> Prop} {M0 : Fr}
structure It where
 k:Nat
 dst:Option Nat
 ch:zt
 av:AV
 nb:Option (Nat×Ch)
 us:Option Nat:=none
def itE:List It->qo
 |[]=>[]
 |i::l=>match i.dst with
  |some s=>(s,i.ch,i.av)::itE l
  |none=>itE l
def itC:List It->CS
 |[]=>[]
 |i::l=>match i.nb with
  |some b=>b::itC l
  |none=>itC l
theorem Ww{x:Nat×zt×AV}:∀{l:List It},x∈itE l↔∃i∈l,i.dst=some x.1/\i.ch=x.2.1/\i.av=x.2.2
 |[]=>by simp[itE]
 |i::l=>by
  simp only[itE]
  split
  ·rename_i s hs
   rw[Af,Ww (l:=l)]
   constructor
   ·rintro(rfl|⟨j,hj,h⟩)
    ·exact⟨i,Aj,hs,rfl,rfl⟩
    ·exact⟨j,Ae _ hj,h⟩
   ·rintro⟨j,hj,h1,h2,h3⟩
    rcases Af.1 hj with rfl|hj
    ·left;rw[hs]at h1;cases h1;rw[h2,h3]
    ·exact .inr ⟨j,hj,h1,h2,h3⟩
  ·rename_i hs
   rw[Ww (l:=l)]
   constructor
   ·rintro⟨j,hj,h⟩;exact⟨j,Ae _ hj,h⟩
   ·rintro⟨j,hj,h1,h2,h3⟩
    rcases Af.1 hj with rfl|hj
    ·rw[hs]at h1;cases h1
    ·exact⟨j,hj,h1,h2,h3⟩
def J4(S:List Nat):qo->qo
 |[]=>[]
 |(i,c,v)::e=>bif memN S i then(i,c,v)::J4 S e else J4 S e
theorem Yo{S:List Nat}{x:Nat×zt×AV}:∀{e:qo},x∈J4 S e->x∈e/\x.1∈S
 |[],h=>by cases h
 |(i,c,v)::e,h=>by
  simp only[J4]at h
  cases hm:memN S i with
  |true=>
   rw[hm]at h
   rcases Af.1 h with rfl|h
   ·exact⟨Aj,zm7 hm⟩
   ·exact⟨Ae _ (Yo h).1,(Yo h).2⟩
  |false=>rw[hm]at h;exact⟨Ae _ (Yo h).1,(Yo h).2⟩
def qcr(P:Program)(tr:TypeId)(t:TypeId)(n:Nat)(ps:List (Nat×AV))(cs:CS)(K:AV->Prop):Prop:=
 match z0l P t with
 |some el=>match z3c P tr 8 el,zda P el (n*qt P el)with
  |some ty,some zs=>bif Nat.beq (qt P el) (sz ty)then(bif Nat.ble (n*qt P el) 16777216 then(bif Nat.blt 0 (qt P el)then(match zmw (λi=>some (i*qt P el,qt P el)) (zs.map .v) ps with
   |some r=>match Jg cs ty n r with
    |some (ys,[])=>K (.g (.a (.dc ty ys)))
    |_=>False
   |none=>False)else False)else False)else False
  |_,_=>False
 |none=>False
theorem zhl{t el:TypeId}(hu:P.underlying t=some (.slice el))(ab:qd P el=true)(ah:n*qt P el<=16777216){zs:List Value}(Z:zda P el (n*qt P el)=some zs){ps:Array (Nat×Value)}{c1:List Value}
  (e6:Et (λi=>some (i*qt P el,qt P el)) zs.toArray ps.toList=some c1.toArray) (B:World) (e:Nat) (h:za):
  (Instr.buildSlice t n ps).run P (mk B e h)=.ok (.slice (some ⟨h.size,0,none⟩) n n) (mk B e (h.push (.cells c1.toArray el))):=by
 have hq:=QExec.underlying (h:=h) hu B e
 have hs:=QExec.sizeOf (P:=P) (h:=h) (y0 ab).choose_spec B e
 unfold Instr.buildSlice
 rw[Sem.run_bind,hq]
 simp only[Result.andThen_ok]
 rw[Sem.run_bind,hs]
 simp only[Result.andThen_ok]
 rw[if_neg (by omega)]
 unfold zda at Z
 by_cases aa:n*qt P el=0
 ·rw[if_pos aa]
  rw[aa]at Z ⊢
  simp at Z
  subst Z
  simp only[Sem.run_bind,Sem.run_pure,Result.andThen_ok]
  have e7:Array.map (λx=>(#[]:Array Value)[x % (#[]:Array Value).size]!) (Es 0)=([]:List Value).toArray:=by simp
  rw[e7,e6]
  rfl
 ·rw[if_neg aa]
  have hb:Nat.beq (n*qt P el) 0=false:=by
   cases hh:Nat.beq (n*qt P el) 0 with
   |false=>rfl
   |true=>exact absurd (Ag hh) aa
  rw[hb]at Z
  simp only[cond_false]at Z
  split at Z
  ·rename_i z af
   have ae:=Yn af h B e
   simp only[Aa]at Z
   rw[Sem.run_bind,ae]
   simp only[Result.andThen_ok,Sem.run_bind,Sem.run_pure]
   have e7:Array.map (λx=>z.cells[x % z.cells.size]!) (Es (n*qt P el))=zs.toArray:=by
    rw[<-Z]
   rw[e7,e6]
   rfl
  ·cases Z
theorem Inv.newFrozen(I:Inv h0 W M0 cs γ h)(Z:Array Value)(el:TypeId):Inv h0 W M0 cs (zee γ h.size Z) (h.push (.cells Z el))/\Gx none γ (zee γ h.size Z)/\(zee γ h.size Z).M h.size=some Z:=by
 have aa:γ.M h.size=none:=I.ag.none (Ad _)
 have hM:Fr.le γ.M (zee γ h.size Z).M:=by
  intro b cc eM
  have:Nat.beq b h.size=false:=by
   cases hb:Nat.beq b h.size with
   |false=>rfl
   |true=>rw[Ag hb,aa]at eM;cases eM
  simp[zee,this,eM]
 have ab:AgM (zee γ h.size Z).M (h.push (.cells Z el)):=by
  intro b cc eM
  by_cases hb:b=h.size
  ·subst hb
   have:cc=Z:=by simp[zee]at eM;exact eM.symm
   subst this
   exact⟨_,_,j5 _ _⟩
  ·have:Nat.beq b h.size=false:=by
    cases hb':Nat.beq b h.size with
    |false=>rfl
    |true=>exact absurd (Ag hb') hb
   simp only[zee,this,cond_false]at eM
   obtain⟨T',m,e'⟩:=I.ag b cc eM
   exact⟨T',m,by rw[BV,if_neg hb];exact e'⟩
 refine⟨I.call (Keep.push h _ (Ad _)) hM (λb hb=>?_) ab,⟨hM,λ_ _=>⟨rfl,rfl⟩⟩,by simp[zee]⟩
 have:Nat.beq b h.size=false:=by
  cases hb':Nat.beq b h.size with
  |false=>rfl
  |true=>have:=Ag hb';omega
 simp[this]
def z5l:Option (Nat×Ch)->CS->CS
 |none,C=>C
 |some c,C=>Jc c.1 C
def zge(h0:za)(W:Nat->Prop)(M0:Fr)(P:Program)(o:Oper)(a:Act)(γ:Gh)(h:za)(cs:CS)(nb:Option (Nat×Ch))(Ka:AV->Prop)(eat:Option (Nat×Ch):=none):Prop:=
 ExA P (execOp a.eval o) h λv h'=>∃av γ',Ka av/\DenV γ' av v/\Inv h0 W M0 (nb.toList++z5l eat cs) γ' h'/\Gx (nb.map (·.1)) γ γ'
theorem z5m{Z:Array (Nat×Operand)}(ho:o.op=.buildSlice t n Z){ps:List (Nat×AV)}{ρ:Operand->Option AV}(am:zbz ρ Z.toList=some ps){K:AV->Prop}(H:qcr P tr t n ps cs K):
  ∃av,K av/\∀(γ:Gh) (h:za) (a:Act) (Y:CS),Inv h0 W M0 (Y++cs) γ h->(∀x av,ρ x=some av->DenV γ av (a.eval x))->zge h0 W M0 P o a γ h (Y++cs) none (· = av):=by
 unfold qcr at H
 split at H
 ·rename_i el aj
  obtain⟨hu,af⟩:=Yl aj
  split at H
  ·rename_i ty zs ar ai
   cases hz:Nat.beq (qt P el) (sz ty)with
   |false=>rw[hz]at H;exact H.elim
   |true=>
   rw[hz]at H
   cases hb1:Nat.ble (n*qt P el) 16777216 with
   |false=>rw[hb1]at H;exact H.elim
   |true=>
   rw[hb1]at H
   cases hb2:Nat.blt 0 (qt P el)with
   |false=>rw[hb2]at H;exact H.elim
   |true=>
   rw[hb2]at H
   simp only[cond_true]at H
   split at H
   ·rename_i r hr
    split at H
    ·rename_i ys ak
     refine⟨_,H,λγ h a Y I hρ=>?_⟩
     have I1:Inv h0 W M0 cs γ h:=I.sub (by simp)
     obtain⟨ws,e1,e2⟩:=Je hr (Za γ zs) (Xn hρ am)
     obtain⟨c1,c2,rfl,r3,r4,r5⟩:=zaq I1.fz ak e2
     cases c2 with
     |cons _ _=>exact r5.elim
     |nil=>
     rw[AW]at *
     have aa:=Ag hz
     have ab:0<qt P el:=by simpa[Cs]using hb2
     have ah:n*qt P el<=16777216:=BG hb1
     have hn:n<=n*qt P el:=Dj _ ab
     have ap:c1.length=n*qt P el:=by rw[r3.1,r4,aa]
     obtain⟨I2,g2,an⟩:=I.newFrozen c1.toArray el
     intro B e
     refine .inl ⟨.slice (some ⟨h.size,0,none⟩) n n,e,_,?_,_,_,rfl,?_,I2,g2⟩
     ·have e5:(Z.map λx=>(x.1,a.eval x.2)).toList=Z.toList.map λx=>(x.1,a.eval x.2):=by rw[C8]
      simp only[execOp,ho]
      refine Qo ?_
      exact zhl hu af ah ai (by
       show Et _ _ (Z.map λx=>(x.1,a.eval x.2)).toList=_
       rw[e5];exact e1) B e h
     ·have ae:=(r3.mono g2.1).rd (b:=h.size) (o:=0) (c:=n) (cs:=c1.toArray) an (by rw[BQ,Co (by rw[r4,<-aa];simp;omega)]) ⟨by omega,by omega⟩
      rw[r4]at ae
      exact⟨⟨some ⟨h.size,0,none⟩,n,n⟩,rfl,rfl,ae⟩
    ·exact H.elim
   ·exact H.elim
  ·exact H.elim
 ·exact H.elim
def qcs:AV->Bool
 |.g (.a (.dc _ _))=>true
 |_=>false
theorem z5n{bv sv:AV}{c:Call}(ho:o.op=.call c)(hc:c.callee=.builtin .append){s x:Operand}(ai:c.args.toList=[s,x])(ak:c.argTypes.toList=[t,tx]){K:AV->Prop}(ay:qcs bv=true)
  (H:Wv P tr t tx bv sv 0 [] cs (λav _ _=>K av)) {ρ:Operand->Option AV} (hs:ρ s=some bv) (hx:ρ x=some sv):
  ∀(γ:Gh) (h:za) (a:Act) (Y:CS),Inv h0 W M0 (Y++cs) γ h->(∀x av,ρ x=some av->DenV γ av (a.eval x))->zge h0 W M0 P o a γ h (Y++cs) none K:=by
 intro γ h a Y I hρ
 have az:=hρ _ _ hs
 have aI:=hρ _ _ hx
 have I1:Inv h0 W M0 ([]++cs) γ h:=I.sub (by simp)
 have key:∀{K':Value->za->Prop},XRun P (AB #[t,tx] o.type #[a.eval s,a.eval x]) h K'->ExA P (execOp a.eval o) h K':=by
  intro K' aA B e
  obtain⟨v,d',h',r,hp⟩:=aA B e
  refine .inl ⟨v,d',h',?_,hp⟩
  have ee:execOp a.eval o=(AB c.argTypes o.type (c.args.map a.eval) >>= λx=>(Da (Dl x):Sem Next)):=by
   simp only[execOp,ho,resolve,hc]
   rfl
  rw[ee,toList_eq ai,toList_eq ak]
  refine Qo ?_
  simpa using r
 refine key ?_
 clear key
 unfold Wv at H
 split at H
 ·rename_i el aB
  obtain⟨hu,aM⟩:=Yl aB
  split at H
  ·rename_i ty aS
   split at H
   ·rename_i b ys hb aE
    obtain⟨⟨z,T⟩,ax⟩:=ziy hu hb
    obtain⟨news,ab,af⟩:=zrn I1 aE T.pos aI
    split at H
    ·cases ay
    ·cases ay
    ·rename_i t' aO
     split at H
     ·rename_i xs aj
      obtain⟨au,hK⟩:=H
      have an:=zb3 ax au
      obtain⟨e1,e2⟩:=Qe aj
      subst e1
      simp only at e2
      subst e2
      generalize a.eval s=u at *
      generalize a.eval x=v at *
      obtain⟨s2,e,aL,am⟩:=(show ∃s:Sl,u=slV s/\s.cap=s.len/\Rd γ.M (.row t') xs [u]from az)
      subst e
      obtain⟨s3,e,Z,aQ,cells,aa,ar⟩:=am.rowC I.ag
      have e':s2=s3:=by cases s2;cases s3;simp only[slV,AP]at e;simp[e]
      subst e'
      have ah:cells.length=s2.len*sz t':=by rw[Z];exact aa.1
      intro B dr
      by_cases hm:ys.length=0
      ·have aH:ys=[]:=AJ hm
       subst aH
       have aJ:news=[]:=AJ (by rw[ab.1];simp)
       subst aJ
       have hr:=Qd (P:=P) (ty:=o.type) T (s:=s2) (h':=h) (af B dr) (by simp;omega) (λp hp=>by simp[storeCells]) (λ_=>rfl)
       refine⟨_,dr,h,hr,_,γ,hK,?_,I,Gx.refl _ _⟩
       rw[AW]
       exact am
      ·obtain⟨cp,ae,hr,aF,aN,aP,aC⟩:=Ji (P:=P) (ty:=o.type) (base:=0) T ah (λB d=>Qc ar ah T.pos B d) af (by rw[Z];exact au) (by rw[Z];exact an) (CV _) (by omega) B dr
       obtain⟨I2,g2,aG⟩:=I.newFrozen ae el
       refine⟨_,dr+1,_,hr,_,_,hK,?_,I2,g2⟩
       have ap:=((aa.append ab).mono g2.1).rd (b:=h.size) (o:=0) (c:=cp) (cs:=ae) aG (by rw[BQ,Ap,<-Z];exact aC) (by rw[Ap,<-Z];exact⟨by rw[Z];exact an,aF⟩)
       rw[Ap,<-Z]at ap
       exact ap
     ·exact H.elim
    ·exact H.elim
   ·exact H.elim
  ·exact H.elim
 ·exact H.elim
def z5o(P:Program)(gl:Fr)(tr:TypeId)(o:Oper)(ρ:Operand->Option AV)(cs:CS)(K:AV->Prop):Prop:=
 match o.op with
 |.call c=>match c.callee with
  |.value x=>match z9q x with
   |some f=>bif zp P f then(match z5d P tr f,zpk ρ c.args.toList with
    |some (ts,rt),some vs=>match y8 cs ts vs with
     |some args=>PC P gl f args rt λr=>K (z8s rt r)
     |none=>False
    |_,_=>False)else False
   |none=>False
  |_=>False
 |_=>False
theorem z0u(ab:Fr.le gl M0){ρ:Operand->Option AV}{K:AV->Prop}(H:z5o P gl tr o ρ cs K):
  ∀(γ:Gh) (h:za) (a:Act) (Y:CS),Inv h0 W M0 (Y++cs) γ h->(∀x av,ρ x=some av->DenV γ av (a.eval x))->zge h0 W M0 P o a γ h (Y++cs) none K:=by
 intro γ h a Y I hρ
 unfold z5o at H
 split at H
 ·rename_i c ho
  split at H
  ·rename_i x hx
   split at H
   ·rename_i f hf
    cases hcal:zp P f with
    |false=>rw[hcal]at H;exact H.elim
    |true=>
     rw[hcal]at H
     simp only[cond_true]at H
     split at H
     ·rename_i ts rt vs hs aa
      split at H
      ·rename_i args Z
       intro B d
       have e:=zkh hf
       subst e
       have I1:Inv h0 W M0 cs γ h:=I.sub (by simp)
       have ha:=jv I1.fz Z (Wu hρ aa)
       refine .inr (.inr ⟨f,c.args.map a.eval,zb1 ho hx hcal rfl _,?_⟩)
       have e2:c.args.map a.eval=(c.args.toList.map a.eval).toArray:=by rw[<-C8]
       rw[e2]
       refine(zki ab H I ha).mono ?_
       rintro v h' ⟨r,γ',h1,h2,h3,h4,_⟩
       exact⟨_,γ',h1,h2,h3,h4⟩
      ·exact H.elim
     ·exact H.elim
   ·exact H.elim
  ·exact H.elim
 ·exact H.elim
theorem zt0(ab:Fr.le gl M0){ρ:Operand->Option AV}{b:Bool}{K:AV->Prop}(H:ztr P gl tr o ρ b cs K)(hb:b=true):
  ∀(γ:Gh) (h:za) (a:Act) (Y:CS),Inv h0 W M0 (Y++cs) γ h->(∀x av,ρ x=some av->DenV γ av (a.eval x))->zge h0 W M0 P o a γ h (Y++cs) none K:=by
 intro γ h a Y I hρ
 unfold ztr at H
 split at H
 ·rename_i c ho
  split at H
  ·rename_i x hx
   split at H
   ·rename_i f hf
    cases hcal:zp P f with
    |false=>rw[hcal]at H;exact H.elim
    |true=>
     rw[hcal]at H
     simp only[cond_true]at H
     split at H
     ·rename_i ts rt vs hs aa
      split at H
      ·rename_i args Z
       obtain⟨J,h1,h2⟩:=H
       intro B d
       have e:=zkh hf
       subst e
       have I1:Inv h0 W M0 cs γ h:=I.sub (by simp)
       have ha:=jv I1.fz Z (Wu hρ aa)
       refine .inr (.inr ⟨f,c.args.map a.eval,zb1 ho hx hcal rfl _,?_⟩)
       have e2:c.args.map a.eval=(c.args.toList.map a.eval).toArray:=by rw[<-C8]
       rw[e2]
       refine(zki ab (h1 hb) I ha).mono ?_
       rintro v h' ⟨r,γ',g1,g2,g3,g4,_⟩
       exact⟨_,γ',h2 r (λ_=>g1),g2,g3,g4⟩
      ·exact H.elim
     ·exact H.elim
   ·exact H.elim
  ·exact H.elim
 ·exact H.elim
theorem zwi(ho:o.op=.alloc t){z:Value}(hz:zeroOf P t=some z)(Z:itB (z.cells.toList.map .v)=false):
  ∀(γ:Gh) (h:za) (a:Act) (Y:CS),Inv h0 W M0 (Y++cs) γ h->qp d (Y++cs)=true->zge h0 W M0 P o a γ h (Y++cs) (some (d,.box (z.cells.toList.map .v))) (· = .g (.a (.box d 0))):=by
 intro γ h a Y I hR B e
 refine .inl ⟨.pointer (some ⟨h.size,0,none⟩),e,h.push (.cells z.cells t),?_,_,zu3 γ d h.size,rfl,?_,?_,Wq _ _ _⟩
 ·have aa:=Yn hz h B e
  simp only[execOp,ho]
  refine Qo ?_
  unfold Instr.alloc
  rw[Sem.run_bind,aa]
  simp only[Result.andThen_ok]
  rw[Sem.run_bind,Xo]
  rfl
 ·simp only[DenV,DenG,DenA,xz]
 ·have:=Inv.newBox (C:=[]) (R:=Y++cs) (by simpa using I) (c:=d) hR (Za γ z.cells.toList) (zc9 d _) Z t
  simpa[qu,z5l]using this
theorem z5p{x:Operand}(ho:o.op=.box t x){l:List AA}(hm:zl4 d l=false)(Z:itB l=false):
  ∀(γ:Gh) (h:za) (a:Act) (Y:CS),Inv h0 W M0 (Y++cs) γ h->qp d (Y++cs)=true->All2 (DenA γ) l (a.eval x).cells.toList->zge h0 W M0 P o a γ h (Y++cs) (some (d,.box l)) (· = .g (.a (.box d 0))):=by
 intro γ h a Y I hR hl B e
 refine .inl ⟨.pointer (some ⟨h.size,0,none⟩),e,h.push (.cells (a.eval x).cells t),?_,_,zu3 γ d h.size,rfl,?_,?_,Wq _ _ _⟩
 ·simp only[execOp,ho]
  refine Qo ?_
  unfold Instr.box
  rw[Sem.run_bind,Xo]
  rfl
 ·simp only[DenV,DenG,DenA,xz]
 ·have:=Inv.newBox (C:=[]) (R:=Y++cs) (by simpa using I) (c:=d) hR hl hm Z t
  simpa[qu,z5l]using this
def yl(o:Oper):Bool:=match o.op with
 |.call c=>match c.callee with
  |.builtin .append=>true
  |.builtin _=>false
  |_=>true
 |_=>false
def zb6:List AA->Bool
 |[]=>true
 |.v _::l=>zb6 l
 |.d _ _::l=>zb6 l
 |.elt _ _ _::l=>zb6 l
 |.dc _ _::l=>zb6 l
 |_::_=>false
theorem Z3{c:Nat}:∀{l:List AA},zb6 l=true->zl4 c l=false
 |[],_=>rfl
 |.v _::l,h=>by simp only[zl4,ztj,cond_false];exact Z3 (l:=l) h
 |.d _ _::l,h=>by simp only[zl4,ztj,cond_false];exact Z3 (l:=l) h
 |.elt _ _ _::l,h=>by simp only[zl4,ztj,cond_false];exact Z3 (l:=l) h
 |.dc _ _::l,h=>by simp only[zl4,ztj,cond_false];exact Z3 (l:=l) h
 |.box _ _::_,h=>by cases h
 |.own _::_,h=>by cases h
 |.oelt _ _ _ _::_,h=>by cases h
theorem zeg:∀l:List Value,zb6 (l.map .v)=true
 |[]=>rfl
 |_::l=>zeg l
def zwj(P:Program)(gl:Fr)(tr:TypeId)(o:Oper)(e:qo)(ch:zt)(cs:CS)(K:AV->Option (Nat×Ch)->Prop):Prop:=
 match o.op with
 |.alloc t=>match ch,o.dst,zeroOf P t with
  |[],some d,some z=>bif qp d cs then(bif itB (z.cells.toList.map .v)then False else K (.g (.a (.box d 0))) (some (d,.box (z.cells.toList.map .v))))else False
  |_,_,_=>False
 |.box t x=>match ch,o.dst,zen e [] x with
  |[],some d,some av=>match ztp av with
   |some l=>bif qp d cs then(bif zb6 l then(bif itB l then False else K (.g (.a (.box d 0))) (some (d,.box l)))else False)else False
   |none=>False
  |_,_,_=>False
 |.buildSlice t n Z=>match ch,zbz (zen e []) Z.toList with
  |[],some ps=>qcr P tr t n ps cs λav=>K av none
  |_,_=>False
 |.call c=>match c.callee with
  |.builtin .append=>match ch,c.args.toList,c.argTypes.toList with
   |[],[s,x],[t,tx]=>match zen e [] s,zen e [] x with
    |some bv,some sv=>bif qcs bv then Wv P tr t tx bv sv 0 [] cs (λav _ _=>K av none)else False
    |_,_=>False
   |_,_,_=>False
  |.builtin _=>z0t P gl o e ch cs λav=>K av none
  |_=>match ch with
   |[]=>z5o P gl tr o (zen e []) cs λav=>K av none
   |_=>match Jd e ch with
    |some (some b)=>ztr P gl tr o (zen e ch) b cs λav=>K av none
    |_=>False
 |_=>z0t P gl o e ch cs λav=>K av none
structure Spec (h0:za) (W:Nat->Prop) (M0:Fr) (P:Program) (o:Oper) (e:qo) (ch:zt) (cs:CS) (nb:Option (Nat×Ch)) (Kan:AV->Prop) (eat:Option (Nat×Ch):=none):Prop where
 yes:∀(n:Nat) (γ:Gh) (h:za) (a:Act) (Y:CS),SatA n e γ a->Inv h0 W M0 (Y++cs) γ h->(∀b,nb=some b->qp b.1 (Y++cs)=true)->(∀c,eat=some c->c∈Y++cs/\∀x∈Y++cs,x.1=c.1->x.2=c.2)->(∀d,o.dst=some d->eat≠none->qp d (Y++cs)=true)->valid (zl a) ch->zge h0 W M0 P o a γ h (Y++cs) nb Kan eat
 no:∀(n:Nat) (γ:Gh) (a:Act),SatA n e γ a->¬valid (zl a) ch->nb=none/\eat=none/\∃av,Kan av
 box:∀b,nb=some b->qp b.1 cs=true/\o.dst=some b.1/\(((∃l,b.2=.box l/\zb6 l=true)/\Kan=(· = .g (.a (.box b.1 0))))\/((∃e t xs,b.2=.row e t xs)/\Kan=(· = .g (.a (.own b.1)))))
 dn:eat≠none->∃d,o.dst=some d/\qp d cs=true
theorem Spec.ofQ(Z:Fr.le gl M0){e:qo}{ch:zt}{K:AV->Option (Nat×Ch)->Prop}(H:z0t P gl o e ch cs λav=>K av none):∃nb Kan,Spec h0 W M0 P o e ch cs nb Kan/\(∀av,Kan av->K av nb)/\∃av,Kan=(· = av):=by
 obtain⟨av,h1,h2⟩:=zi4 (h0:=h0) (W:=W) (M0:=M0) Z H
 refine⟨none,(· = av),⟨λn γ h a Y hs I _ _ _ hv=>?_,λn γ a hs hv=>⟨rfl,rfl,av,rfl⟩,λb hb=>(by cases hb),λhx=>absurd rfl hx⟩,λaa e=>e ▸ h1,av,rfl⟩
 obtain⟨v,hd,hq⟩:=h2 n γ a h hs (I.sub (by simp)) hv
 exact λB d=>.inl ⟨v,d,h,hq B d,av,γ,rfl,hd,I,Gx.refl _ _⟩
theorem zpo(aa:Fr.le gl M0){e:qo}{ch:zt}{K:AV->Option (Nat×Ch)->Prop}(H:zwj P gl tr o e ch cs K):
  ∃nb Kan,Spec h0 W M0 P o e ch cs nb Kan/\(∀av,Kan av->K av nb)/\(yl o=false->∃av,Kan=(· = av)):=by
 unfold zwj at H
 split at H
 ·rename_i t ho
  split at H
  ·rename_i d z hd hz
   cases hR:qp d cs with
   |false=>rw[hR]at H;exact H.elim
   |true=>
    rw[hR]at H
    cases hit:itB (z.cells.toList.map .v)with
    |true=>rw[hit]at H;exact H.elim
    |false=>
    rw[hit]at H
    refine⟨_,(· = .g (.a (.box d 0))),⟨λn γ h a Y hs I hn _ _ _=>zwi ho hz hit γ h a Y I (hn _ rfl),λn γ a hs hv=>absurd trivial hv,λb hb=>?_,λhx=>absurd rfl hx⟩,λav e=>e ▸ H,λ_=>⟨_,rfl⟩⟩
    cases hb
    exact⟨hR,hd,.inl ⟨⟨_,rfl,zeg _⟩,rfl⟩⟩
  ·exact H.elim
 ·rename_i t x ho
  split at H
  ·rename_i d av hd ak
   split at H
   ·rename_i l hl
    cases hR:qp d cs with
    |false=>rw[hR]at H;exact H.elim
    |true=>
     rw[hR]at H
     cases hm:zb6 l with
     |false=>rw[hm]at H;exact H.elim
     |true=>
      rw[hm]at H
      cases hit:itB l with
      |true=>rw[hit]at H;exact H.elim
      |false=>
      rw[hit]at H
      refine⟨_,(· = .g (.a (.box d 0))),⟨λn γ h a Y hs I hn _ _ _=>z5p ho (Z3 hm) hit γ h a Y I (hn _ rfl) (zbx hl (zo hs (c:=[]) trivial ak)),λn γ a hs hv=>absurd trivial hv,λb hb=>?_,λhx=>absurd rfl hx⟩,λav e=>e ▸ H,λ_=>⟨_,rfl⟩⟩
      cases hb
      exact⟨hR,hd,.inl ⟨⟨_,rfl,hm⟩,rfl⟩⟩
   ·exact H.elim
  ·exact H.elim
 ·rename_i t n ai ho
  split at H
  ·rename_i ps ah
   obtain⟨av,h1,h2⟩:=z5m (h0:=h0) (W:=W) (M0:=M0) ho ah H
   exact⟨none,(· = av),⟨λn γ h a Y hs I _ _ _ _=>h2 γ h a Y I λx av hx=>zo hs (c:=[]) trivial hx,λn γ a hs hv=>absurd trivial hv,λb hb=>(by cases hb),λhx=>absurd rfl hx⟩,λap e=>e ▸ h1,λ_=>⟨_,rfl⟩⟩
  ·exact H.elim
 ·rename_i c ho
  split at H
  ·rename_i hc
   have Z:yl o=true:=by simp[yl,ho,hc]
   split at H
   ·rename_i s x t tx ab ae
    split at H
    ·rename_i bv sv af aj
     cases hdc:qcs bv with
     |false=>rw[hdc]at H;exact H.elim
     |true=>
      rw[hdc]at H
      simp only[cond_true]at H
      exact⟨none,λav=>K av none,⟨λn γ h a Y hs I _ _ _ _=>z5n ho hc ab ae hdc H af aj γ h a Y I λx av hx=>zo hs (c:=[]) trivial hx,λn γ a hs hv=>absurd trivial hv,λb hb=>(by cases hb),λhx=>absurd rfl hx⟩,λav e=>e,λhn=>by rw[Z]at hn;cases hn⟩
    ·exact H.elim
   ·exact H.elim
  ·obtain⟨nb,Kan,h1,h2,h3⟩:=Spec.ofQ (h0:=h0) (W:=W) (M0:=M0) aa H
   exact⟨nb,Kan,h1,h2,λ_=>h3⟩
  ·rename_i an am
   have Z:yl o=true:=by
    simp only[yl,ho]
   split at H
   ·exact⟨none,λav=>K av none,⟨λn γ h a Y hs I _ _ _ _=>z0u aa H γ h a Y I λx av hx=>zo hs (c:=[]) trivial hx,λn γ a hs hv=>absurd trivial hv,λb hb=>(by cases hb),λhx=>absurd rfl hx⟩,λav e=>e,λhn=>by rw[Z]at hn;cases hn⟩
   ·split at H
    ·rename_i b hb
     refine⟨none,λav=>K av none,⟨λn γ h a Y hs I _ _ _ hv=>zt0 aa H (wn hs hb hv) γ h a Y I λx av hx=>zo hs hv hx,λn γ a hs hv=>⟨rfl,rfl,?_⟩,λb hb=>(by cases hb),λhx=>absurd rfl hx⟩,λav e=>e,λhn=>by rw[Z]at hn;cases hn⟩
     have:=zak hs hb hv
     simp only[Aa]at this
     exact(zao (h0:=#[]) (W:=λ_=>False) (M0:=λ_=>none) H).1 this
    ·exact H.elim
 ·obtain⟨nb,Kan,h1,h2,h3⟩:=Spec.ofQ (h0:=h0) (W:=W) (M0:=M0) aa H
  exact⟨nb,Kan,h1,h2,λ_=>h3⟩
def z0v:List Nat->Nat->Option (Option Nat)
 |[],_=>none
 |x::l,k=>bif Nat.ble 2000000 x then(bif Nat.beq (x-2000000) k then some none else z0v l k)else(bif Nat.ble 1000000 x then(bif Nat.beq ((x-1000000) / 1000) k then some (some ((x-1000000) % 1000))else z0v l k)else z0v l k)
def zdb(k:Nat):List It->Option (Nat×Ch)
 |[]=>none
 |i::l=>bif (match i.us with
  |some j=>Nat.beq j k
  |none=>false)then(match i.nb with
  |some b=>some b
  |none=>zdb k l)else zdb k l
theorem zau{k:Nat}{c:Nat×Ch}:∀{l:List It},zdb k l=some c->∃i∈l,i.nb=some c/\i.us=some k
 |[],h=>by cases h
 |i::l,h=>by
  simp only[zdb]at h
  cases hb:(match i.us with
   |some j=>Nat.beq j k
   |none=>false)with
  |false=>
   rw[hb]at h
   obtain⟨x,hx,q⟩:=zau h
   exact⟨x,Ae _ hx,q⟩
  |true=>
   rw[hb]at h
   simp only[cond_true]at h
   split at h
   ·rename_i b Z
    cases h
    refine⟨i,Aj,Z,?_⟩
    split at hb
    ·rename_i j hj;rw[hj,Ag hb]
    ·cases hb
   ·obtain⟨x,hx,q⟩:=zau h
    exact⟨x,Ae _ hx,q⟩
def qct(P:Program)(tr:TypeId)(t:TypeId)(n:Nat)(K:Ch->Prop):Prop:=bif Nat.beq n 0 then(match z0l P t with
 |some el=>match z3c P tr 8 el,zda P el (0*qt P el)with
  |some ty,some []=>bif Nat.beq (qt P el) (sz ty)then(bif Nat.ble (0*qt P el) 16777216 then(bif Nat.blt 0 (qt P el)then K (.row el ty [])else False)else False)else False
  |_,_=>False
 |none=>False)else False
theorem z5q{Z:Array (Nat×Operand)}(ho:o.op=.buildSlice t n Z)(hp:Z.toList=[]){K:Ch->Prop}(H:qct P tr t n K):
  ∃el ty,K (.row el ty [])/\∀(γ:Gh) (h:za) (a:Act) (L:CS),Inv h0 W M0 L γ h->qp d L=true->ExA P (execOp a.eval o) h (zan h0 W M0 L γ λav C' c=>av=.g (.a (.own d))/\C'=[(d,.row el ty [])]/\c=some d):=by
 unfold qct at H
 cases hn:Nat.beq n 0 with
 |false=>rw[hn]at H;exact H.elim
 |true=>
  rw[hn]at H
  obtain rfl:=Ag hn
  simp only[cond_true]at H
  split at H
  ·rename_i el ae
   split at H
   ·rename_i ty aa ab
    cases h1:Nat.beq (qt P el) (sz ty)with
    |false=>rw[h1]at H;exact H.elim
    |true=>
     rw[h1]at H
     cases h2:Nat.ble (0*qt P el) 16777216 with
     |false=>rw[h2]at H;exact H.elim
     |true=>
      rw[h2]at H
      cases h3:Nat.blt 0 (qt P el)with
      |false=>rw[h3]at H;exact H.elim
      |true=>
       rw[h3]at H
       refine⟨el,ty,H,λγ h a L I hd=>?_⟩
       refine X6 (tr:=tr) (ps:=[]) ho (ρ:=λ_=>none) (by rw[hp];rfl) (C:=[]) (R:=L) (d:=d) ?_ (by simpa using I) (λx av hx=>by cases hx)
       unfold Jh
       rw[ae]
       simp only
       rw[aa,ab]
       simp only
       rw[h1,h2,h3,hd]
       simp[zmw,Jg,z9r,J3,frzL,qu]
   ·exact H.elim
  ·exact H.elim
def qcu(P:Program)(tx:TypeId)(ty:Ty):AV->Option (List (El ty))
 |.g (.a (.d (.row t) xs))=>match P.underlying tx with
  |some (.slice _)=>Zk (.row t) (.row ty) xs
  |_=>none
 |.g (.a (.dc t xs))=>match P.underlying tx with
  |some (.slice _)=>Zk (.row t) (.row ty) xs
  |_=>none
 |.g (.a (.v (.slice none 0 0)))=>match P.underlying tx with
  |some (.slice _)=>some []
  |_=>none
 |_=>none
def qcv(P:Program)(tr:TypeId)(t tx:TypeId)(e0:TypeId)(t0:Ty)(xs:List (El t0))(sv:AV)(K:TypeId->(ty:Ty)->List (El ty)->Prop):Prop:=match z0l P t with
 |some el=>match z3c P tr 8 el with
  |some ty=>match ze9 P el ty,qcu P tx ty sv with
   |some b,some ys=>match Zk (.row t0) (.row ty) xs with
    |some xs=>bif Nat.beq e0 el then((xs.length+ys.length)*b<=140737488355328/\K el ty (xs++ys))else False
    |none=>False
   |_,_=>False
  |none=>False
 |none=>False
theorem zwk{L:CS}{ty:Ty}{ys:List (El ty)}(h:qcu P tx ty sv=some ys):z5h P L tx ty sv=some ys:=by
 unfold qcu at h
 split at h
 ·rename_i t xs
  split at h
  ·rename_i e he
   simp only[z5h,he,rowOf]
   exact h
  ·cases h
 ·rename_i t xs
  split at h
  ·rename_i e he
   simp only[z5h,he,rowOf]
   exact h
  ·cases h
 ·split at h
  ·rename_i e he
   simp only[z5h,he]
   exact h
  ·cases h
 ·cases h
theorem zm9{c:Nat}:∀{l:CS},qp c l=true->qu c l=l
 |[],_=>rfl
 |(j,k)::l,h=>by
  simp only[qp]at h
  cases hb:(bif Nat.beq j c then true else zc6 c k)with
  |true=>rw[hb]at h;cases h
  |false=>
   rw[hb]at h
   simp only[qu]
   rw[hb,cond_false,zm9 h]
theorem zb7{c d:Nat}:∀{l:CS},qp c l=true->qp c (Jc d l)=true
 |[],_=>rfl
 |(j,k)::l,h=>by
  simp only[qp]at h
  cases hb:(bif Nat.beq j c then true else zc6 c k)with
  |true=>rw[hb]at h;cases h
  |false=>
   rw[hb]at h
   simp only[Jc]
   cases Nat.beq j d with
   |true=>exact zb7 h
   |false=>
    simp only[cond_false,qp]
    rw[hb]
    exact zb7 h
theorem zi5{c:Nat×Ch}:∀{l:CS},c∈l->(∀x∈l,x.1=c.1->x.2=c.2)->Qa l c.1=some c.2
 |[],h,_=>by cases h
 |(j,k)::l,h,hu=>by
  simp only[Qa]
  cases hb:Nat.beq c.1 j with
  |true=>
   have:=Ag hb
   have:=hu (j,k) Aj this.symm
   simp only at this
   rw[cond_true,this]
  |false=>
   rw[cond_false]
   rcases Af.1 h with rfl|h
   ·simp at hb
   ·exact zi5 h λx hx=>hu x (Ae _ hx)
theorem z5r{c:Call}(ho:o.op=.call c)(hc:c.callee=.builtin .append){s x:Operand}(Z:c.args.toList=[s,x])(af:c.argTypes.toList=[t,tx]){e0:TypeId}{t0:Ty}{xs:List (El t0)}{K:TypeId->(ty:Ty)->List (El ty)->Prop}
  (H:qcv P tr t tx e0 t0 xs sv K):∃el ty ys,K el ty ys/\∀(γ:Gh) (h:za) (a:Act) (L:CS) (c0:Nat),Inv h0 W M0 L γ h->Qa L c0=some (.row e0 t0 xs)->DenV γ (.g (.a (.own c0))) (a.eval s)->DenV γ sv (a.eval x) ->
   ExA P (execOp a.eval o) h (zan h0 W M0 [] γ λav C' cc=>av=.g (.a (.own d))/\C'=(d,.row el ty ys)::qu d (Jc c0 L)/\cc=some d):=by
 unfold qcv at H
 split at H
 ·rename_i el aj
  split at H
  ·rename_i ty ai
   split at H
   ·rename_i b ys hb ah
    split at H
    ·rename_i ae ab
     cases hee:Nat.beq e0 el with
     |false=>rw[hee]at H;exact H.elim
     |true=>
      rw[hee]at H
      obtain⟨aa,hK⟩:=H
      refine⟨el,ty,ae++ys,hK,λγ h a L c0 I hf hs hx=>?_⟩
      have ak:Wv P tr t tx (.g (.a (.own c0))) sv d L [] (λav C' cc=>av=.g (.a (.own d))/\C'=(d,.row el ty (ae++ys))::qu d (Jc c0 L)/\cc=some d):=by
       unfold Wv
       rw[aj]
       simp only
       rw[ai]
       simp only
       rw[hb,AW,zwk ah]
       simp only
       rw[hf]
       simp only
       rw[ab]
       simp only
       rw[hee]
       first|exact⟨aa,rfl,rfl,rfl⟩|exact⟨aa,trivial,trivial,trivial⟩|exact⟨aa,by simp⟩
      have:=ziz (ty':=o.type) ak (by simpa using I) hs hx
      intro B e
      obtain⟨v,d',h',r,hp⟩:=this B e
      refine .inl ⟨v,d',h',?_,hp⟩
      have ee:execOp a.eval o=(AB c.argTypes o.type (c.args.map a.eval) >>= λx=>(Da (Dl x):Sem Next)):=by
       simp only[execOp,ho,resolve,hc]
       rfl
      rw[ee,toList_eq Z,toList_eq af]
      refine Qo ?_
      simpa using r
    ·exact H.elim
   ·exact H.elim
  ·exact H.elim
 ·exact H.elim
def z5s(P:Program)(tr:TypeId)(o:Oper)(k:Nat)(e:qo)(IL:List It)(cs:CS)(own:Bool)(K:AV->Option (Nat×Ch)->Option (Nat×Ch)->Prop):Prop:=
 match o.op,o.dst with
 |.buildSlice t n parts,some d=>bif own then(bif qp d cs then(match parts.toList with
  |[]=>qct P tr t n λch=>K (.g (.a (.own d))) (some (d,ch)) none
  |_=>False)else False)else False
 |.call c,some d=>match c.callee,c.args.toList,c.argTypes.toList,zdb k IL with
  |.builtin .append,[s,x],[t,tx],some (c0,.row e0 t0 xs)=>match zen e [] s,zen e [] x with
   |some (.g (.a (.own c1))),some sv=>bif Nat.beq c1 c0 then(bif qp d cs then qcv P tr t tx e0 t0 xs sv (λel ty ys=>bif own then K (.g (.a (.own d))) (some (d,.row el ty ys)) (some (c0,.row e0 t0 xs))else K (.g (.a (.d (.row ty) ys))) none (some (c0,.row e0 t0 xs)))else False)else False
   |_,_=>False
  |_,_,_,_=>False
 |_,_=>False
theorem zpp{k:Nat}{e:qo}{IL:List It}{own:Bool}{K:AV->Option (Nat×Ch)->Option (Nat×Ch)->Prop}(H:z5s P tr o k e IL cs own K):
  ∃nb eat av,Spec h0 W M0 P o e [] cs nb (· = av) eat/\K av nb eat/\∀c,eat=some c->zdb k IL=some c:=by
 unfold z5s at H
 split at H
 ·rename_i t n ak d ho hd
  cases own with
  |false=>exact H.elim
  |true=>
   simp only[cond_true]at H
   cases hR:qp d cs with
   |false=>rw[hR]at H;exact H.elim
   |true=>
    rw[hR]at H
    simp only[cond_true]at H
    split at H
    ·rename_i hp
     obtain⟨el,ty,hK,hx⟩:=z5q (h0:=h0) (W:=W) (M0:=M0) (d:=d) ho hp H
     refine⟨_,none,_,⟨λn γ h a Y hs I hn _ _ _=>?_,λn γ a hs hv=>absurd trivial hv,λb hb=>?_,λhx=>absurd rfl hx⟩,hK,λc hc=>by cases hc⟩
     ·refine(hx γ h a (Y++cs) I (hn _ rfl)).mono ?_
      rintro v h' ⟨av,C',c,γ',⟨rfl,rfl,rfl⟩,h2,h3,h4⟩
      exact⟨_,γ',rfl,h2,h3,h4⟩
     ·cases hb
      exact⟨hR,hd,.inr ⟨⟨_,_,_,rfl⟩,rfl⟩⟩
    ·exact H.elim
 ·rename_i c d ho hd
  split at H
  ·rename_i s x t tx c0 e0 t0 xs hc Z ab af
   split at H
   ·rename_i c1 sv ai am
    cases hb:Nat.beq c1 c0 with
    |false=>rw[hb]at H;exact H.elim
    |true=>
     obtain rfl:=Ag hb
     rw[hb]at H
     simp only[cond_true]at H
     cases hR:qp d cs with
     |false=>rw[hR]at H;exact H.elim
     |true=>
      rw[hR]at H
      simp only[cond_true]at H
      obtain⟨el,ty,ys,hK,hx⟩:=z5r (h0:=h0) (W:=W) (M0:=M0) (d:=d) ho hc Z ab H
      have run:∀(n:Nat) (γ:Gh) (h:za) (a:Act) (Y:CS),SatA n e γ a->Inv h0 W M0 (Y++cs) γ h->(∀cc,(some (c1,Ch.row e0 t0 xs):Option (Nat×Ch))=some cc->cc∈Y++cs/\∀x∈Y++cs,x.1=cc.1->x.2=cc.2)->qp d (Y++cs)=true ->
        ExA P (execOp a.eval o) h λv h'=>∃γ',DenV γ' (.g (.a (.own d))) v/\Inv h0 W M0 ((d,.row el ty ys)::Jc c1 (Y++cs)) γ' h'/\Gx (some d) γ γ':=by
       intro n γ h a Y hs I he hn
       obtain⟨h1,h2⟩:=he _ rfl
       have hf:=zi5 h1 h2
       refine(hx γ h a (Y++cs) c1 I hf (zo hs (c:=[]) trivial ai) (zo hs (c:=[]) trivial am)).mono ?_
       rintro v h' ⟨av,C',cc,γ',⟨rfl,rfl,rfl⟩,q2,q3,q4⟩
       rw[AW,zm9 (zb7 hn)]at q3
       exact⟨γ',q2,q3,q4⟩
      cases own with
      |true=>
       refine⟨some (d,.row el ty ys),some (c1,.row e0 t0 xs),.g (.a (.own d)),⟨λn γ h a Y hs I hn he ah _=>?_,λn γ a hs hv=>absurd trivial hv,λb hb=>?_,λ_=>⟨d,hd,hR⟩⟩,hK,λc hc=>by cases hc;exact af⟩
       ·refine(run n γ h a Y hs I he (hn _ rfl)).mono ?_
        rintro v h' ⟨γ',q2,q3,q4⟩
        exact⟨_,γ',rfl,q2,q3,q4⟩
       ·cases hb
        exact⟨hR,hd,.inr ⟨⟨_,_,_,rfl⟩,rfl⟩⟩
      |false=>
       refine⟨none,some (c1,.row e0 t0 xs),.g (.a (.d (.row ty) ys)),⟨λn γ h a Y hs I hn he ah _=>?_,λn γ a hs hv=>absurd trivial hv,λb hb=>(by cases hb),λ_=>⟨d,hd,hR⟩⟩,hK,λc hc=>by cases hc;exact af⟩
       have ae:=ah d hd (by simp)
       refine(run n γ h a Y hs I he ae).mono ?_
       rintro v h' ⟨γ',q2,q3,q4⟩
       obtain⟨γ2,I2,g2⟩:=Inv.freeze1 (A:=[]) q3
       have aj:Rd γ2.M (.row ty) ys [slV (γ2.σ d)]:=I2.den (d,.fz ty ys) (by simp)
       have hv:v=slV (γ'.σ d):=q2
       have hσ:γ2.σ d=γ'.σ d:=(g2.2 d (by simp)).2
       have aa:=Qb (zb7 (d:=c1) ae)
       refine⟨_,{ γ2 with β:=γ.β,σ:=γ.σ },rfl,?_,?_,⟨q4.1.trans g2.1,λi _=>⟨rfl,rfl⟩⟩⟩
       ·show Rd γ2.M (.row ty) ys [v]
        rw[hv,<-hσ];exact aj
       ·refine I2.rest (by simp[z5l]) (c:=some d) ⟨Fr.le.refl _,λi hi=>?_⟩ (λx hx=>⟨(aa x hx).1,(aa x hx).2⟩) (λx hx b hb=>⟨rfl,(I2.sep x (by simp;exact .inr hx) b hb).2⟩) I2.ag (λ_ _ _=>rfl) (Ad _) (λ_ _=>rfl)
        have a1:=q4.2 i hi
        have a2:=g2.2 i (by simp)
        exact⟨a1.1.symm.trans a2.1.symm,a1.2.symm.trans a2.2.symm⟩
   ·exact H.elim
  ·exact H.elim
 ·exact H.elim
def yd(ops:Array Oper)(m:Nat):List Nat:=yn (ops.toList.take m)
def Q0(av:AV):List Nat->Bool
 |[]=>true
 |s::l=>bif zvs s av then false else Q0 av l
theorem zi6{av:AV}:∀{l:List Nat},Q0 av l=true->∀s∈l,zvs s av=false
 |[],_,s,hs=>by cases hs
 |x::l,h,s,hs=>by
  simp only[Q0]at h
  cases hb:zvs x av with
  |true=>rw[hb]at h;cases h
  |false=>
   rw[hb]at h
   rcases Af.1 hs with rfl|hs
   ·exact hb
   ·exact zi6 h s hs
def zep(S:List Nat):qo->qo
 |[]=>[]
 |(i,[],v)::e=>bif memN S i then zep S e else(bif Q0 v S then(i,[],v)::zep S e else zep S e)
 |(_,_::_,_)::e=>zep S e
theorem jw{S:List Nat}{x:Nat×zt×AV}:∀{e:qo},x∈zep S e->x∈e/\x.2.1=[]/\x.1∉S/\Q0 x.2.2 S=true
 |[],h=>by cases h
 |(i,[],v)::e,h=>by
  simp only[zep]at h
  cases hm:memN S i with
  |true=>rw[hm]at h;exact⟨Ae _ (jw h).1,(jw h).2⟩
  |false=>
   rw[hm]at h
   simp only[cond_false]at h
   cases hn:Q0 v S with
   |false=>rw[hn]at h;exact⟨Ae _ (jw h).1,(jw h).2⟩
   |true=>
    rw[hn]at h
    rcases Af.1 h with rfl|h
    ·exact⟨Aj,rfl,wh hm,hn⟩
    ·exact⟨Ae _ (jw h).1,(jw h).2⟩
 |(_,_::_,_)::e,h=>⟨Ae _ (jw (e:=e) h).1,(jw (e:=e) h).2⟩
def qcw(ops:Array Oper)(o:Oper):zt->Bool
 |[]=>true
 |[(g,_)]=>match o.guard with
  |some (j,_)=>match yf ops j with
   |some g'=>Nat.beq g g'
   |none=>false
  |none=>false
 |_=>false
def z3f:List Nat->Nat->Bool
 |[x],k=>Nat.beq x k
 |_,_=>false
def inL:List Nat->Nat->Bool
 |[],_=>false
 |x::l,k=>bif Nat.beq x k then true else inL l k
theorem zwl{k:Nat}:∀{l:List Nat},inL l k=true->k∈l
 |[],h=>by cases h
 |x::l,h=>by
  simp only[inL]at h
  cases hb:Nat.beq x k with
  |true=>rw[Ag hb];exact Aj
  |false=>rw[hb]at h;exact Ae _ (zwl h)
def zgf(ops:Array Oper)(m:Nat)(o:Oper)(k:Nat)(pl:Array Bool):Bool:=
 bif Nat.blt k m then(bif yw ops k (xo ops o) m then(bif yl o then z3f (Region.ready .any ops pl) k else inL (Region.ready .any ops pl) k)else false)else false
def zna(S:List Nat)(av:AV)(nb:Option (Nat×Ch)):Bool:=match nb with
 |none=>Q0 av S
 |some _=>true
def zt1(pl:Array Bool):Nat->Bool
 |0=>true
 |k+1=>bif pl.getD k false then zt1 pl k else false
theorem zi7{pl:Array Bool}:∀{m:Nat},zt1 pl m=true->∀k,k<m->pl.getD k false=true
 |0,_,k,hk=>by omega
 |m+1,h,k,hk=>by
  simp only[zt1]at h
  cases hb:pl.getD m false with
  |false=>rw[hb]at h;cases h
  |true=>
   rw[hb]at h
   rcases AR k m with h1|h1
   ·exact zi7 h k h1
   ·have:k=m:=by omega
    subst this;exact hb
def zrt(P:Program)(ρ:Operand->Option AV)(o:Oper):Bool:=bif zem o then(bif isQ P o then(bif jb o.op then zf3 ρ o.op.operands.toList else false)else false)else false
def zdc(P:Program)(e:qo)(c:zt)(o:Oper):Bool:=match o.op with
 |.pick _ _ _=>true
 |.move _=>true
 |.assign _=>true
 |.extract _ _=>true
 |.alloc _=>false
 |.box _ _=>false
 |.buildSlice _ _ _=>false
 |.call _=>false
 |.load _ _=>false
 |.indexAddr _ _ _=>false
 |_=>zrt P (zen e c) o
theorem znb{e:qo}(h:zdc P e c o=true):yl o=false:=by
 unfold yl
 split
 ·rename_i c ho;rw[zdc,ho]at h;cases h
 ·rfl
def zb8(P:Program)(o:Oper)(e:qo)(ch:zt)(Kan:AV->Prop):Prop:=
 ∀av,Kan av->∀(n:Nat) (γ:Gh) (a:Act),SatA n e γ a->valid (zl a) ch->∃v,DenV γ av v/\∀w,(execOp a.eval o).run P w=.ok (.value v) w
theorem QExec.all{α:Type}{s:Sem α}{x:α}(H:∀h,QExec P s h x)(w:World):s.run P w=.ok x w:=H w.heap w w.drawn
theorem zwm{e:qo}{K:AV->Prop}(H:z0t P gl o e c cs K)(hp:zdc P e c o=true):∃av,K av/\zb8 P o e c (· = av):=by
 unfold z0t at H
 split at H
 ·rename_i x y z ho
  obtain⟨av,h1,h2⟩:=Jj H
  refine⟨av,h1,λZ e' n γ a hs hv=>?_⟩
  obtain⟨t,h3,h4⟩:=h2 n γ a hs hv
  subst e'
  refine⟨_,h4,QExec.all λh B d=>?_⟩
  simp only[execOp,ho,h3,asBool,Sem.run_bind,Sem.run_pure,Result.andThen_ok]
 ·rename_i af
  split at H
  ·rename_i g hg
   unfold qA at H
   split at H
   ·rename_i b hb
    exact⟨_,H,λZ e' n γ a hs hv=>⟨_,e' ▸ (show DenV γ (.g (.a (.v (.bool b)))) _ from rfl),QExec.all λh=>zmz hb (λx av hx=>zo hs hv hx) h⟩⟩
   split at H
   ·rename_i b hb
    exact⟨_,H,λZ e' n γ a hs hv=>⟨_,e' ▸ (show DenV γ (.g (.a (.v (.bool b)))) _ from rfl),QExec.all λh=>ziv hb (λx av hx=>zo hs hv hx) h⟩⟩
   split at H
   ·rename_i t b off ab
    exfalso
    unfold z5a at ab
    split at ab
    ·rename_i t' x ho;rw[zdc,ho]at hp;cases hp
    ·cases ab
   split at H
   ·rename_i b off n len z ab
    exfalso
    unfold z5b at ab
    split at ab
    ·rename_i t' x i ho;rw[zdc,ho]at hp;cases hp
    ·cases ab
   unfold qA0 at H
   cases hb:zrt P (zen e c) o with
   |true=>
    unfold zrt at hb
    rw[hb]at H
    cases hfam:zem o with
    |false=>rw[hfam]at hb;cases hb
    |true=>
     cases hq:isQ P o with
     |false=>rw[hfam,hq]at hb;cases hb
     |true=>
      cases hns:jb o.op with
      |false=>rw[hfam,hq,hns]at hb;cases hb
      |true=>
       rw[hfam,hq,hns]at hb
       simp only[cond_true]at hb H
       obtain⟨v,h1,h2⟩:=Xi hfam H
       refine⟨_,h1,λZ e' n γ a hs hv=>⟨v,e' ▸ Yk γ v,QExec.all λh=>?_⟩⟩
       rw[zmo (γ:=γ) (λx av hx=>zo hs hv hx) hns hb]
       exact h2 (wn hs hg hv) h ⟨by simp,λi hi=>absurd hi (by simp)⟩
   |false=>
    have ae:=hb
    unfold zrt at ae
    rw[ae]at H
    simp only[cond_false]at H
    unfold zdc at hp
    split at hp
    ·rename_i x y z ho;exact absurd ho (af x y z)
    ·rename_i x ho
     rw[ho]at H
     simp only at H
     split at H
     ·rename_i av aa
      exact⟨av,H,λZ e' n γ a hs hv=>⟨_,e' ▸ zo hs hv aa,QExec.all λh=>by simp only[execOp,ho];exact QExec.pure _⟩⟩
     ·exact H.elim
    ·rename_i x ho
     rw[ho]at H
     simp only at H
     split at H
     ·rename_i av aa
      exact⟨av,H,λZ e' n γ a hs hv=>⟨_,e' ▸ zo hs hv aa,QExec.all λh=>by simp only[execOp,ho];exact QExec.pure _⟩⟩
     ·exact H.elim
    ·rename_i x i ho
     rw[ho]at H
     simp only at H
     split at H
     ·rename_i l aa
      split at H
      ·rename_i ag ah
       refine⟨_,H,λZ e' n γ a hs hv=>?_⟩
       subst e'
       obtain⟨us,e1,h2⟩:=zo hs hv aa
       obtain⟨u,hu,hd⟩:=h2.get ah
       refine⟨u,hd,QExec.all λh=>?_⟩
       simp only[execOp,ho,e1]
       refine QExec.val λB d=>?_
       unfold Instr.extract
       simp[hu]
      ·exact H.elim
     ·rename_i b p c aa
      split at H
      ·refine⟨_,H,λZ e' n γ a hs hv=>⟨_,e' ▸ (show DenV γ (.g (.a (.v (.bool b)))) _ from rfl),QExec.all λh=>?_⟩⟩
       obtain⟨e1,e2⟩:=zo hs hv aa
       simp only[execOp,ho]
       refine QExec.val λB d=>?_
       cases b with
       |true=>rw[e1 rfl];rfl
       |false=>rw[e2 rfl];rfl
      ·refine⟨_,H.2,λZ e' n γ a hs hv=>⟨_,e' ▸ (show DenV γ (.g (.a (.v (.int .i64 p)))) _ from rfl),QExec.all λh=>?_⟩⟩
       obtain⟨e1,_⟩:=zo hs hv aa
       simp only[execOp,ho,e1 (H.1.out (wn hs hg hv))]
       exact QExec.val λB d=>rfl
      ·refine⟨_,H.2,λZ e' n γ a hs hv=>⟨_,e' ▸ (show DenV γ (.g (.a (.v (.int .i32 c)))) _ from rfl),QExec.all λh=>?_⟩⟩
       obtain⟨e1,_⟩:=zo hs hv aa
       simp only[execOp,ho,e1 (H.1.out (wn hs hg hv))]
       exact QExec.val λB d=>rfl
      ·exact H.elim
     ·exact H.elim
    ·cases hp
    ·cases hp
    ·cases hp
    ·cases hp
    ·cases hp
    ·cases hp
    ·rw[hb]at hp;cases hp
  ·exact H.elim
theorem zt2{e:qo}{ch:zt}{K:AV->Option (Nat×Ch)->Prop}(H:zwj P gl tr o e ch cs K)(hp:zdc P e ch o=true):
  ∃av,Spec h0 W M0 P o e ch cs none (· = av)/\K av none/\zb8 P o e ch (· = av):=by
 have H':z0t P gl o e ch cs λav=>K av none:=by
  unfold zwj at H
  split at H
  ·rename_i t ho;rw[zdc,ho]at hp;cases hp
  ·rename_i t x ho;rw[zdc,ho]at hp;cases hp
  ·rename_i t n ps ho;rw[zdc,ho]at hp;cases hp
  ·rename_i c ho;rw[zdc,ho]at hp;cases hp
  ·exact H
 obtain⟨av,h1,h2⟩:=zwm H' hp
 refine⟨av,⟨λn γ h a Y hs I _ _ _ hv=>?_,λn γ a hs hv=>⟨rfl,rfl,av,rfl⟩,λb hb=>(by cases hb),λhx=>absurd rfl hx⟩,h1,h2⟩
 obtain⟨v,hd,hq⟩:=h2 av rfl n γ a hs hv
 exact λB d=>.inl ⟨v,d,h,hq _,av,γ,rfl,hd,I,Gx.refl _ _⟩
def zwn(ops:Array Oper)(k:Nat)(o:Oper)(j:Nat):Bool:=bif Nat.beq j k then true else bif Region.waitsFor .any ops j k then true else bif Region.waitsFor .any ops k j then true else match ops[j]? with
 |some oj=>o.apart ops oj
 |none=>true
def zpq(ops:Array Oper)(k:Nat)(o:Oper):Nat->Bool
 |0=>true
 |j+1=>bif zwn ops k o j then zpq ops k o j else false
theorem zi8{ops:Array Oper}{k:Nat}{o:Oper}:∀{n:Nat},zpq ops k o n=true->∀j oj,j<n->ops[j]?=some oj->j≠k->Region.waitsFor .any ops j k=false->Region.waitsFor .any ops k j=false->o.apart ops oj=true
 |0,_,j,oj,hj,_,_,_,_=>by omega
 |n+1,h,j,oj,hj,ho,h1,h2,h3=>by
  simp only[zpq]at h
  cases hx:zwn ops k o n with
  |false=>rw[hx]at h;cases h
  |true=>
   rw[hx]at h
   rcases AR j n with Z|Z
   ·exact zi8 h j oj Z ho h1 h2 h3
   ·have:j=n:=by omega
    subst this
    have e1:Nat.beq j k=false:=by
     cases hb:Nat.beq j k with
     |false=>rfl
     |true=>exact absurd (Ag hb) h1
    unfold zwn at hx
    rw[e1,h2,h3,ho]at hx
    exact hx
def zwo(P:Program)(ops:Array Oper)(pu:List Nat)(o:Oper)(k:Nat)(e:qo)(ch:zt):Bool:=
 bif memN pu k then(bif zdc P e ch o then zpq ops k o ops.size else false)else true
def z5t(ops:Array Oper)(m k:Nat):Option Nat->Bool
 |none=>true
 |some j=>bif Nat.blt j m then Region.waitsFor .any ops j k else false
def uC(pu:List Nat)(k:Nat):Option (Option Nat):=bif memN pu k then none else z0v pu k
def z5u:List It->List It
 |[]=>[]
 |i::l=>(match i.us with
  |some _=>{ i with nb:=none }
  |none=>i)::z5u l
def dW(P:Program)(gl:Fr)(tr:TypeId)(n:Nat)(ops:Array Oper)(m:Nat)(pu:List Nat)(e0:qo)(cs:CS)(Kt:List It->Prop):List Nat->Array Bool->List It->Prop
 |[],pl,IL=>bif zt1 pl m then Kt (z5u IL)else False
 |k::ord,pl,IL=>match ops[k]? with
  |none=>False
  |some o=>bif zgf ops m o k pl then(match Qz ops (J4 (xo ops o) (itE IL++e0)) o.guard with
   |some ch=>bif qcw ops o ch then(bif qi n ch o.dst then(bif zwo P ops pu o k (J4 (xo ops o) (itE IL++e0)) ch then(match uC pu k with
    |none=>zwj P gl tr o (J4 (xo ops o) (itE IL++e0)) ch cs (λav nb=>bif zna (yd ops m) av nb then dW P gl tr n ops m pu e0 cs Kt ord (pl.setIfInBounds k true) (⟨k,o.dst,ch,av,nb,none⟩::IL)else False)
    |some us=>bif z5t ops m k us then(match ch with
     |[]=>z5s P tr o k (J4 (xo ops o) (itE IL++e0)) IL cs us.isSome (λav nb _=>bif zna (yd ops m) av nb then dW P gl tr n ops m pu e0 cs Kt ord (pl.setIfInBounds k true) (⟨k,o.dst,[],av,nb,us⟩::IL)else False)
     |_=>False)else False)else False)else False)else False
   |none=>False)else False
def strip(listed:Array Bool)(i:It):It:=match i.us with
 |some j=>bif listed.getD j false then { i with nb:=none } else i
 |none=>i
theorem zdd(listed:Array Bool)(i:It):(strip listed i).k=i.k/\(strip listed i).dst=i.dst/\(strip listed i).ch=i.ch/\(strip listed i).av=i.av/\(strip listed i).us=i.us/\((strip listed i).nb=i.nb\/(strip listed i).nb=none):=by
 unfold strip
 split
 ·cases listed.getD _ false with
  |true=>exact⟨rfl,rfl,rfl,rfl,rfl,.inr rfl⟩
  |false=>exact⟨rfl,rfl,rfl,rfl,rfl,.inl rfl⟩
 ·exact⟨rfl,rfl,rfl,rfl,rfl,.inl rfl⟩
def zde(k:Nat)(i:It):It:=match i.us with
 |some j=>bif Nat.beq j k then { i with nb:=none } else i
 |none=>i
theorem zru(k:Nat)(i:It):(zde k i).k=i.k/\(zde k i).dst=i.dst/\(zde k i).ch=i.ch/\(zde k i).av=i.av/\(zde k i).us=i.us/\((zde k i).nb=i.nb\/(zde k i).nb=none):=by
 unfold zde
 split
 ·cases Nat.beq _ k with
  |true=>exact⟨rfl,rfl,rfl,rfl,rfl,.inr rfl⟩
  |false=>exact⟨rfl,rfl,rfl,rfl,rfl,.inl rfl⟩
 ·exact⟨rfl,rfl,rfl,rfl,rfl,.inl rfl⟩
def Zg(listed:Array Bool):List It->List It
 |[]=>[]
 |i::l=>bif listed.getD i.k false then strip listed i::Zg listed l else Zg listed l
theorem zko{listed:Array Bool}{i:It}:∀{l:List It},i∈l->listed.getD i.k false=true->strip listed i∈Zg listed l
 |j::l,h,hl=>by
  simp only[Zg]
  rcases Af.1 h with rfl|h
  ·rw[hl];exact Aj
  ·cases listed.getD j.k false with
   |true=>exact Ae _ (zko h hl)
   |false=>exact zko h hl
theorem Jn{listed:Array Bool}{x:It}:∀{l:List It},x∈Zg listed l->∃i∈l,listed.getD i.k false=true/\x=strip listed i
 |j::l,h=>by
  simp only[Zg]at h
  cases hl:listed.getD j.k false with
  |true=>
   rw[hl]at h
   rcases Af.1 h with rfl|h
   ·exact⟨j,Aj,hl,rfl⟩
   ·obtain⟨i,hi,q⟩:=Jn h
    exact⟨i,Ae _ hi,q⟩
  |false=>
   rw[hl]at h
   obtain⟨i,hi,q⟩:=Jn h
   exact⟨i,Ae _ hi,q⟩
structure ItOK (h0:za) (W:Nat->Prop) (M0:Fr) (P:Program) (n:Nat) (ops:Array Oper) (m:Nat) (pu:List Nat) (e0:qo) (cs:CS) (IL:List It) (it:It) (Kan:AV->Prop):Prop where
 lt:it.k<m
 dst:yf ops it.k=it.dst
 ok:qi n it.ch it.dst=true
 chw:∀x∈it.ch,∀p,p<m->yf ops p=some x.1->Region.waitsFor .any ops it.k p=true
 ex:∃o e eat,ops[it.k]?=some o/\Qz ops e o.guard=some it.ch/\Spec h0 W M0 P o e it.ch cs it.nb Kan eat /\
  (∀x∈e,x∈e0\/(x∈itE IL/\∀p,p<m->yf ops p=some x.1->Region.waitsFor .any ops it.k p=true)) /\
  (memN pu it.k=true->it.nb=none/\zb8 P o e it.ch Kan/\zpq ops it.k o ops.size=true/\yl o=false) /\
  (∀c,eat=some c->∃i∈IL,i.nb=some c/\i.us=some it.k)
 use:∀j,it.us=some j->j<m/\Region.waitsFor .any ops j it.k=true
 men:∀av,Kan av->it.nb=none->Q0 av (yd ops m)=true
theorem ItOK.mono{e0:qo}{IL aa:List It}{it:It}{Kan:AV->Prop}(H:ItOK h0 W M0 P n ops m pu e0 cs IL it Kan)(hs:∀i∈IL,i∈aa):ItOK h0 W M0 P n ops m pu e0 cs aa it Kan:=
 {lt:=H.lt,dst:=H.dst,ok:=H.ok,chw:=H.chw,men:=H.men,use:=H.use,ex:=by
   obtain⟨o,e,eat,h1,h2,h3,h4,ab,Z⟩:=H.ex
   refine⟨o,e,eat,h1,h2,h3,λx hx=>(h4 x hx).imp id λ⟨h5,h6⟩=>⟨?_,h6⟩,ab,λc hc=>by
    obtain⟨i,hi,q⟩:=Z c hc
    exact⟨i,hs i hi,q⟩⟩
   obtain⟨i,hi,q⟩:=Ww.1 h5
   exact Ww.2 ⟨i,hs i hi,q⟩ }
theorem Zc{i p:Nat}(hi:i∈Region.ready .any ops listed)(hw:Region.waitsFor .any ops i p=true):listed.getD p false=true:=by
 obtain⟨oj,ab,e,he,hb,aa⟩:=Region.waitsFor_spec hw
 obtain⟨_,o,ho,Z⟩:=mem_ready.1 hi
 have:oj=o:=Aq (ab.symm.trans ho)
 subst this
 rw[<-aa];exact Z e he hb
structure Mid (h0:za) (W:Nat->Prop) (M0:Fr) (P:Program) (n:Nat) (ops:Array Oper) (m:Nat) (e0:qo) (cs:CS) (listed:Array Bool) (IL:List It) (γ:Gh) (a:Act) (h:za):Prop where
 sat:SatA n (itE (Zg listed IL)++e0) γ a
 inv:Inv h0 W M0 (itC (Zg listed IL)++cs) γ h
theorem Jo{k:Nat}(h:ops[k]?=some o):yf ops k=o.dst:=by simp[yf,h]
theorem zdf{m k t:Nat}(hk:k<m)(h:yf ops k=some t):t∈yd ops m:=by
 unfold yf at h
 split at h
 ·rename_i o ho
  unfold yd
  have Z:o∈ops.toList.take m:=by
   rw[List.mem_iff_getElem?]
   exact⟨k,by rw[Az,if_pos hk];simpa using ho⟩
  generalize ops.toList.take m=l at Z
  induction l with
  |nil=>cases Z
  |cons x l ih=>
   simp only[yn]
   rcases Af.1 Z with rfl|Z
   ·rw[h];exact Aj
   ·split
    ·exact Ae _ (ih Z)
    ·exact ih Z
 ·cases h
theorem zgg{x:Nat×Ch}:∀{l:List It},x∈itC l↔∃i∈l,i.nb=some x
 |[]=>by simp[itC]
 |i::l=>by
  simp only[itC]
  split
  ·rename_i b hb
   rw[Af,zgg (l:=l)]
   constructor
   ·rintro(rfl|⟨j,hj,h⟩)
    ·exact⟨i,Aj,hb⟩
    ·exact⟨j,Ae _ hj,h⟩
   ·rintro⟨j,hj,h⟩
    rcases Af.1 hj with rfl|hj
    ·left;rw[hb]at h;exact(Aq h).symm
    ·exact .inr ⟨j,hj,h⟩
  ·rename_i hb
   rw[zgg (l:=l)]
   constructor
   ·rintro⟨j,hj,h⟩;exact⟨j,Ae _ hj,h⟩
   ·rintro⟨j,hj,h⟩
    rcases Af.1 hj with rfl|hj
    ·rw[hb]at h;cases h
    ·exact⟨j,hj,h⟩
theorem zrv{c:Nat}:∀{l:CS},(∀x∈l,x.1≠c/\zc6 c x.2=false)->qp c l=true
 |[],_=>rfl
 |(j,k)::l,h=>by
  obtain⟨h1,h2⟩:=h _ Aj
  simp only[qp]
  have:Nat.beq j c=false:=by
   cases hb:Nat.beq j c with
   |false=>rfl
   |true=>exact absurd (Ag hb) h1
  rw[this,h2]
  exact zrv λx hx=>h x (Ae _ hx)
theorem zi9{e0:qo}(ar:jj ops m=true)(bu:∀x∈e0,x.2.1=[]/\x.1∉yd ops m/\Q0 x.2.2 (yd ops m)=true)
  {IL:List It} (af:∀i∈IL,∃Kan,ItOK h0 W M0 P n ops m pu e0 cs IL i Kan/\Kan i.av) (aH:∀i∈IL,∀j∈IL,i.k=j.k->i=j) (a7:HeadInv .any ops m listed) (M:Mid h0 W M0 P n ops m e0 cs listed IL γ a h)
  {it:It} {Kan:AV->Prop} (T:ItOK h0 W M0 P n ops m pu e0 cs IL it Kan) (hr:it.k∈Region.ready .any ops listed):
  ∃o e eat,ops[it.k]?=some o/\o.dst=it.dst/\SatA n e γ a/\Qz ops e o.guard=some it.ch/\Spec h0 W M0 P o e it.ch cs it.nb Kan eat/\(memN pu it.k=true->it.nb=none/\zb8 P o e it.ch Kan/\zpq ops it.k o ops.size=true/\yl o=false) /\
   (∀b,it.nb=some b->qp b.1 (itC (Zg listed IL)++cs)=true) /\
   (∀c,eat=some c->c∈itC (Zg listed IL)++cs/\∀x∈itC (Zg listed IL)++cs,x.1=c.1->x.2=c.2)/\(∀d,o.dst=some d->eat≠none->qp d (itC (Zg listed IL)++cs)=true) /\
   ∀av u γ' h',Kan av->(valid (zl a) it.ch->DenV γ' av u)->(¬valid (zl a) it.ch->u=undef)->Inv h0 W M0 (it.nb.toList++z5l eat (itC (Zg listed IL)++cs)) γ' h'->Gx (it.nb.map (·.1)) γ γ' ->
    ∀L':List It,L'.Perm ({ it with av:=av }::(Zg listed IL).map (zde it.k))->SatA n (itE L'++e0) γ' (a.put it.dst u)/\Inv h0 W M0 (itC L'++cs) γ' h':=by
 obtain⟨o,e,eat,ho,aP,sp,aT,aZ,ak⟩:=T.ex
 have an:o.dst=it.dst:=by rw[<-Jo ho];exact T.dst
 have aL:listed.getD it.k true=false:=(mem_ready.1 hr).1
 have ay:SatA n e γ a:=M.sat.sub λx hx=>by
  rcases aT x hx with h1|⟨h1,h2⟩
  ·exact Au _ h1
  ·refine Am _ ?_
   obtain⟨i,hi,q⟩:=Ww.1 h1
   obtain⟨Ki,Ti,_⟩:=af i hi
   have hw:=h2 i.k Ti.lt (by rw[Ti.dst];exact q.1)
   obtain⟨f1,f2,f3,f4,_⟩:=zdd listed i
   exact Ww.2 ⟨strip listed i,zko hi (Zc hr hw),by rw[f2];exact q.1,by rw[f3];exact q.2.1,by rw[f4];exact q.2.2⟩
 have hw:=wv ay aP
 have aA:∀i∈Zg listed IL,i.k≠it.k:=by
  intro x hi e
  obtain⟨i,ab,this,rfl⟩:=Jn hi
  rw[(zdd listed i).1]at e
  rw[e]at this
  have h2:=getD_both aL
  rw[h2]at this
  cases this
 have az:∀d,o.dst=some d->qp d cs=true->qp d (itC (Zg listed IL)++cs)=true:=by
  intro d h2 h1
  refine zrv λx hx=>?_
  rcases As.1 hx with hx|hx
  ·obtain⟨i',hi,aa⟩:=zgg.1 hx
   obtain⟨i,ab,ax,rfl⟩:=Jn hi
   have ap:=aA _ hi
   obtain⟨f1,_,_,_,_,f6⟩:=zdd listed i
   have Z:i.nb=some x:=by
    rcases f6 with f6|f6
    ·rw[<-f6];exact aa
    ·rw[f6]at aa;cases aa
   obtain⟨Ki,Ti,aF⟩:=af i ab
   obtain⟨oi,ei,aV,am,_,aj,_,_⟩:=Ti.ex
   obtain⟨_,h4,h5⟩:=aj.box x Z
   refine⟨λe=>ap ?_,?_⟩
   ·rw[f1]
    refine qj ar i.k it.k d Ti.lt T.lt ?_ (by rw[T.dst,<-an];exact h2)
    rw[Jo am,h4,e]
   ·rcases h5 with⟨⟨l,h5,h6⟩,_⟩|⟨⟨e',t',bA,h5⟩,_⟩
    ·rw[h5];exact Z3 h6
    ·rw[h5];rfl
  ·obtain⟨e1,e2⟩:=Qb h1 x hx
   exact⟨λe=>e1 (by rw[e]),e2⟩
 have aO:∀b,it.nb=some b->qp b.1 (itC (Zg listed IL)++cs)=true:=by
  intro b hb
  obtain⟨h1,h2,_⟩:=sp.box b hb
  exact az b.1 h2 h1
 have bn:∀d,o.dst=some d->eat≠none->qp d (itC (Zg listed IL)++cs)=true:=by
  intro d hd he
  obtain⟨d',bm,hn⟩:=sp.dn he
  have:d'=d:=Aq (bm.symm.trans hd)
  subst this
  exact az d' hd hn
 have a1:∀c,eat=some c->∀i∈IL,∀b,i.nb=some b->b.1=c.1->i.us=some it.k/\b=c:=by
  intro c hc i hi b hb e1
  obtain⟨i3,ae,q1,q2⟩:=ak c hc
  obtain⟨Ki,Ti,_⟩:=af i hi
  obtain⟨K3,T3,_⟩:=af i3 ae
  obtain⟨oi,ei,aV,am,_,aj,_⟩:=Ti.ex
  obtain⟨o3,e3,a8,aQ,_,aI,_⟩:=T3.ex
  obtain⟨_,d1,_⟩:=aj.box b hb
  obtain⟨_,d3,_⟩:=aI.box c q1
  have hk:i.k=i3.k:=qj ar i.k i3.k c.1 Ti.lt T3.lt (by rw[Jo am,d1,e1]) (by rw[Jo aQ,d3])
  have:i=i3:=aH i hi i3 ae hk
  subst this
  exact⟨q2,Aq (hb.symm.trans q1)⟩
 have aY:∀c,eat=some c->qp c.1 cs=true:=by
  intro c hc
  obtain⟨i3,ae,q1,q2⟩:=ak c hc
  obtain⟨K3,T3,_⟩:=af i3 ae
  obtain⟨o3,e3,a8,aQ,_,aI,_⟩:=T3.ex
  exact(aI.box c q1).1
 have ba:∀x∈itC (Zg listed IL),∃i∈IL,i.nb=some x:=by
  intro x hx
  obtain⟨i',hi,aa⟩:=zgg.1 hx
  obtain⟨i,ab,ax,rfl⟩:=Jn hi
  rcases(zdd listed i).2.2.2.2.2 with f6|f6
  ·exact⟨i,ab,by rw[<-f6];exact aa⟩
  ·rw[f6]at aa;cases aa
 have aG:∀c,eat=some c->c∈itC (Zg listed IL)++cs/\∀x∈itC (Zg listed IL)++cs,x.1=c.1->x.2=c.2:=by
  intro c hc
  refine⟨Am _ ?_,λx hx e=>?_⟩
  ·obtain⟨i3,ae,q1,q2⟩:=ak c hc
   obtain⟨K3,T3,_⟩:=af i3 ae
   have hw:=(T3.use _ q2).2
   have hl:=Zc hr hw
   refine zgg.2 ⟨strip listed i3,zko ae hl,?_⟩
   unfold strip
   rw[q2]
   simp only
   rw[getD_both aL]
   exact q1
  ·rcases As.1 hx with hx|hx
   ·obtain⟨i,hi,Z⟩:=ba x hx
    rw[(a1 c hc i hi x Z e).2]
   ·exact absurd (by rw[e]) (Qb (aY c hc) x hx).1
 refine⟨o,e,eat,ho,an,ay,aP,sp,aZ,aO,aG,bn,?_⟩
 ·intro av u γ' h' bz hy hn I' g L' hp
  refine⟨?_,?_⟩
  ·refine⟨by rw[zu];exact M.sat.defers,by rw[size_put];exact M.sat.size,λx hx=>?_⟩
   have old:∀x:Nat×zt×AV,x∈itE (Zg listed IL)++e0->(∀s,it.dst=some s->x.1≠s/\mentions x.2.1 s=false)->zvt zvs (it.nb.map (·.1)) x.2.2=false->zkf γ' (zl (a.put it.dst u)) x:=by
    intro x hx hs hm
    have hf:=M.sat.all x hx
    cases hd:it.dst with
    |none=>
     exact⟨λhv=>(hf.1 hv).gx g hm,hf.2⟩
    |some s=>
     obtain⟨h1,h2⟩:=hs s hd
     have hv:=xm (σ:=zl (a.put (some s) u)) (τ:=zl a) h2 (λj hj=>qb hj)
     refine⟨λhc=>?_,λhc=>?_⟩
     ·rw[qb h1];exact(hf.1 (hv.1 hc)).gx g hm
     ·exact(qb h1).trans (hf.2 λaE=>hc (hv.2 aE))
   have aU:∀s,it.dst=some s->s∈yd ops m:=λs hs=>zdf T.lt (by rw[T.dst];exact hs)
   have aB:∀aJ,(Q0 aJ (yd ops m)=true)->zvt zvs (it.nb.map (·.1)) aJ=false:=by
    intro aJ h1
    cases Z:it.nb with
    |none=>rfl
    |some b=>
     obtain⟨_,h2,_⟩:=sp.box b Z
     exact zi6 h1 b.1 (aU _ (by rw[<-an];exact h2))
   rcases As.1 hx with hx|hx
   ·obtain⟨i,hi,q1,q2,q3⟩:=Ww.1 hx
    rcases Af.1 (hp.subset hi)with rfl|ah
    ·-- the new fact
     simp only at q1 q2 q3
     have aN:x.1<a.tmps.size:=by
      rw[M.sat.size]
      have:=T.ok
      rw[q1]at this
      simp only[qi]at this
      cases hm:mentions it.ch x.1 with
      |true=>rw[hm]at this;cases this
      |false=>rw[hm]at this;simpa[Cs]using this
     have aM:mentions it.ch x.1=false:=by
      have:=T.ok
      rw[q1]at this
      simp only[qi]at this
      cases hm:mentions it.ch x.1 with
      |true=>rw[hm]at this;cases this
      |false=>rfl
     rw[q1]
     have hv:=xm (σ:=zl (a.put (some x.1) u)) (τ:=zl a) aM (λj hj=>qb hj)
     refine⟨λhc=>?_,λhc=>?_⟩
     ·rw[qh aN,<-q3];rw[<-q2]at hc;exact hy (hv.1 hc)
     ·rw[qh aN];rw[<-q2]at hc;exact hn λaE=>hc (hv.2 aE)
    ·obtain⟨i1,aS,rfl⟩:=En.1 ah
     obtain⟨c1,c2,c3,c4,_⟩:=zru it.k i1
     rw[c2]at q1
     rw[c3]at q2
     rw[c4]at q3
     have ah:=aS
     obtain⟨i,ab,ax,rfl⟩:=Jn ah
     obtain⟨f1,f2,f3,f4,_⟩:=zdd listed i
     have bg:=Ww.2 ⟨strip listed i,ah,q1,q2,q3⟩
     rw[f2]at q1
     rw[f3]at q2
     rw[f4]at q3
     have ap:i.k≠it.k:=by rw[<-f1];exact aA _ ah
     obtain⟨Ki,Ti,aF⟩:=af i ab
     obtain⟨oi,ei,aV,am,_,aj,_,_⟩:=Ti.ex
     refine old x (Am _ bg) (λs hs=>⟨λe=>ap ?_,?_⟩) ?_
     ·exact qj ar i.k it.k s Ti.lt T.lt (by rw[Ti.dst,q1,e]) (by rw[T.dst];exact hs)
     ·cases hm:mentions x.2.1 s with
      |false=>rfl
      |true=>
       exfalso
       rw[<-q2]at hm
       have:∃y∈i.ch,y.1=s:=by
        have key:∀c:zt,mentions c s=true->∃y∈c,y.1=s:=by
         intro c
         induction c with
         |nil=>intro h;cases h
         |cons y c ih=>
          intro h
          obtain⟨g,p⟩:=y
          simp only[mentions]at h
          cases hb:Nat.beq s g with
          |true=>exact⟨(g,p),Aj,(Ag hb).symm⟩
          |false=>
           rw[hb]at h
           obtain⟨y,hy,e⟩:=ih h
           exact⟨y,Ae _ hy,e⟩
        exact key _ hm
       obtain⟨y,bq,be⟩:=this
       have bh:=Ti.chw y bq it.k T.lt (by rw[T.dst,hs,be])
       obtain⟨oj,bj,e',br,bo,a6⟩:=Region.waitsFor_spec bh
       have:=a7.closed i.k oj bj ax e' br bo
       rw[a6,getD_both aL]at this
       cases this
     ·rw[<-q3]
      cases hnbi:i.nb with
      |none=>exact aB _ (Ti.men _ aF hnbi)
      |some bi=>
       obtain⟨_,h4,h5⟩:=aj.box bi hnbi
       have ai:i.av=.g (.a (.box bi.1 0))\/i.av=.g (.a (.own bi.1)):=by
        have:=aF
        rcases h5 with⟨_,h5⟩|⟨_,h5⟩
        ·rw[h5]at this;exact .inl this
        ·rw[h5]at this;exact .inr this
       cases Z:it.nb with
       |none=>rfl
       |some b=>
        obtain⟨_,h2,_⟩:=sp.box b Z
        have:Nat.beq bi.1 b.1=false->zvt zvs (Option.map (λx=>x.fst) (some b)) i.av=false:=λhq=>by
         rcases ai with ai|ai
         ·rw[ai];exact hq
         ·rw[ai];exact hq
        apply this
        cases hb:Nat.beq bi.1 b.1 with
        |false=>rfl
        |true=>
         exfalso
         have:=Ag hb
         exact ap (qj ar i.k it.k b.1 Ti.lt T.lt (by rw[Jo am,h4,this]) (by rw[T.dst,<-an];exact h2))
   ·obtain⟨b1,b2,b3⟩:=bu x hx
    exact old x (Au _ hx) (λs hs=>⟨λe=>b2 (e ▸ aU s hs),by rw[b1];rfl⟩) (aB _ b3)
  ·have e1:itC ({ it with av:=av }::(Zg listed IL).map (zde it.k))=it.nb.toList++itC ((Zg listed IL).map (zde it.k)):=by
    simp only[itC]
    cases it.nb <;> rfl
   have aC:∀{l l':List It},l.Perm l'->(itC l).Perm (itC l'):=by
    intro l l' hp
    induction hp with
    |nil=>exact .nil
    |cons x p ih=>simp only[itC];split;exact ih.cons _;exact ih
    |swap x y l=>
     simp only[itC]
     split <;> split <;> first|exact .swap _ _ _|exact .refl _
    |trans _ _ i1 i2=>exact i1.trans i2
   have sub:(itC ((Zg listed IL).map (zde it.k))++cs).Sublist (z5l eat (itC (Zg listed IL)++cs)):=by
    have s0:∀l:List It,(itC (l.map (zde it.k))).Sublist (itC l):=by
     intro l
     induction l with
     |nil=>exact .slnil
     |cons x l ih=>
      simp only[A4,itC]
      rcases(zru it.k x).2.2.2.2.2 with f|f
      ·rw[f]
       split
       ·exact ih.cons_cons _
       ·exact ih
      ·rw[f]
       simp only
       split
       ·exact ih.cons _
       ·exact ih
    cases he:eat with
    |none=>exact(s0 _).append_right cs
    |some c=>
     show(_:CS).Sublist (Jc c.1 (itC (Zg listed IL)++cs))
     have hd:Jc c.1 (itC (Zg listed IL)++cs)=Jc c.1 (itC (Zg listed IL))++cs:=by
      have ha:∀l m:CS,Jc c.1 (l++m)=Jc c.1 l++Jc c.1 m:=by
       intro l m
       induction l with
       |nil=>rfl
       |cons x l ih=>
        simp only[AO,Jc]
        cases Nat.beq x.1 c.1 with
        |true=>exact ih
        |false=>simp only[cond_false,ih,AO]
      have hb:∀l:CS,(∀x∈l,x.1≠c.1)->Jc c.1 l=l:=by
       intro l
       induction l with
       |nil=>intro _;rfl
       |cons x l ih=>
        intro hx
        simp only[Jc]
        cases hq:Nat.beq x.1 c.1 with
        |true=>exact absurd (Ag hq) (hx x Aj)
        |false=>rw[cond_false,ih λy hy=>hx y (Ae _ hy)]
      rw[ha,hb cs λx hx e=>(Qb (aY c he) x hx).1 (by rw[e])]
     rw[hd]
     refine List.Sublist.append_right ?_ cs
     have s1:∀l:List It,(∀i∈l,∀b,i.nb=some b->b.1=c.1->i.us=some it.k)->(itC (l.map (zde it.k))).Sublist (Jc c.1 (itC l)):=by
      intro l
      induction l with
      |nil=>intro _;exact .slnil
      |cons x l ih=>
       intro hl
       have au:=ih λi hi=>hl i (Ae _ hi)
       simp only[A4,itC]
       cases Z:x.nb with
       |none=>
        have:(zde it.k x).nb=none:=by
         rcases(zru it.k x).2.2.2.2.2 with f|f
         ·rw[f,Z]
         ·exact f
        rw[this]
        exact au
       |some b=>
        simp only[Jc]
        cases hq:Nat.beq b.1 c.1 with
        |true=>
         have hu:=hl x Aj b Z (Ag hq)
         have:(zde it.k x).nb=none:=by
          unfold zde
          rw[hu]
          simp
         rw[this,cond_true]
         exact au
        |false=>
         rw[cond_false]
         rcases(zru it.k x).2.2.2.2.2 with f|f
         ·rw[f,Z];exact au.cons_cons _
         ·rw[f];exact au.cons _
     refine s1 _ λx hx b hb e=>?_
     obtain⟨i,ab,ax,rfl⟩:=Jn hx
     obtain⟨_,_,_,_,f5,f6⟩:=zdd listed i
     rw[f5]
     rcases f6 with f6|f6
     ·exact(a1 c he i ab b (by rw[<-f6];exact hb) e).1
     ·rw[f6]at hb;cases hb
   have I2:Inv h0 W M0 (it.nb.toList++(itC ((Zg listed IL).map (zde it.k))++cs)) γ' h':=I'.sub (sub.append_left _)
   rw[<-AQ,<-e1]at I2
   exact I2.perm ((aC hp.symm).append_right cs)
theorem znc{e0:qo}{Q:Exit->Act->World->Prop}(ax:jj ops m=true)(ay:∀x∈e0,x.2.1=[]/\x.1∉yd ops m/\Q0 x.2.2 (yd ops m)=true)
  {IL:List It} (an:∀i∈IL,∃Kan,ItOK h0 W M0 P n ops m pu e0 cs IL i Kan/\Kan i.av) (ae:∀i∈IL,∀j∈IL,i.k=j.k->i=j) (ar:HeadInv .any ops m listed) (M:Mid h0 W M0 P n ops m e0 cs listed IL γ a h)
  {it:It} {Kan:AV->Prop} (T:ItOK h0 W M0 P n ops m pu e0 cs IL it Kan) (hr:it.k∈Region.ready .any ops listed) {Kp:Act->World->Prop} (B:World) (d:Nat)
  (hK:∀av u γ' h' d',Kan av->(∀L':List It,L'.Perm ({ it with av:=av }::(Zg listed IL).map (zde it.k))->SatA n (itE L'++e0) γ' (a.put it.dst u)/\Inv h0 W M0 (itC L'++cs) γ' h')->Gx (it.nb.map (·.1)) γ γ'->Kp (a.put it.dst u) (mk B d' h')):
  wpOp P ops Q it.k Kp a (mk B d h):=by
 obtain⟨o,e,eat,ho,ah,Z,au,sp,az,aj,af,ap,ai⟩:=zi9 ax ay an ae ar M T hr
 have hw:=wv Z au
 unfold wpOp
 rw[ho]
 simp only
 by_cases hv:valid (zl a) it.ch
 ·rw[if_pos (hw.2 hv)]
  left
  have hx:=sp.yes n γ h a (itC (Zg listed IL)) Z M.inv aj af ap hv
  refine(ExA.upon hx B d ?_)
  rintro v d' h' ⟨av,γ',g1,g2,g3,g4⟩
  rw[ah]
  exact hK av v γ' h' d' g1 (ai av v γ' h' g1 (λ_=>g2) (λab=>absurd hv ab) g3 g4) g4
 ·rw[if_neg λhx=>hv (hw.1 hx)]
  obtain⟨ak,am,av,aa⟩:=sp.no n γ a Z hv
  rw[ah]
  have g4:Gx (it.nb.map (·.1)) γ γ:=by rw[ak];exact Gx.refl _ _
  exact hK av undef γ h d aa (ai av undef γ h aa (λab=>absurd ab hv) (λ_=>rfl) (by rw[ak,am];exact M.inv) g4) g4
theorem zwp{e0:qo}{Q:Exit->Act->World->Prop}(aG:jj ops m=true)(aN:∀x∈e0,x.2.1=[]/\x.1∉yd ops m/\Q0 x.2.2 (yd ops m)=true)
  {IL:List It} (az:∀i∈IL,∃Kan,ItOK h0 W M0 P n ops m pu e0 cs IL i Kan/\Kan i.av) (ah:∀i∈IL,∀j∈IL,i.k=j.k->i=j) (aE:HeadInv .any ops m listed) (M:Mid h0 W M0 P n ops m e0 cs listed IL γ a h)
  {it:It} {Kan:AV->Prop} (T:ItOK h0 W M0 P n ops m pu e0 cs IL it Kan) (ai:Kan it.av) (hr:it.k∈Region.ready .any ops listed) (aA:memN pu it.k=true) (ab:Region.noSelect ops=true) (hQ:∀c a w,¬Q (.panic c) a w) (B:World) (d:Nat) {f:Nat}
  (hK:∀u,(∀L':List It,L'.Perm (it::(Zg listed IL).map (zde it.k))->SatA n (itE L'++e0) γ (a.put it.dst u)/\Inv h0 W M0 (itC L'++cs) γ h)->Gx (it.nb.map (·.1)) γ γ->wpAny P .any ops Q f (listed.setIfInBounds it.k true) (a.put it.dst u) (mk B d h)):
  wpAny P .any ops Q (f+1) listed a (mk B d h):=by
 obtain⟨o,e,eat,ho,aj,Z,aF,sp,an,aO,aM,aP,ak⟩:=zi9 aG aN az ah aE M T hr
 obtain⟨ap,aC,af,_⟩:=an aA
 have aa:Inv h0 W M0 (it.nb.toList++z5l eat (itC (Zg listed IL)++cs)) γ h:=by
  rw[ap]
  refine M.inv.sub ?_
  cases eat with
  |none=>exact List.Sublist.refl _
  |some c=>exact j6 c.1 _
 have hw:=wv Z aF
 have g4:Gx (it.nb.map (·.1)) γ γ:=by rw[ap];exact Gx.refl _ _
 have am:∀j oj,ops[j]?=some oj->j≠it.k->listed.getD j true=false->(∀e∈oj.after,Region.binds .any e=true->e.on≠it.k)->o.apart ops oj=true:=by
  intro j oj hj aH aJ ax
  have aI:j<ops.size:=(Ac.1 hj).1
  refine zi8 af j oj aI hj aH ?_ ?_
  ·cases hb:Region.waitsFor .any ops j it.k with
   |false=>rfl
   |true=>
    obtain⟨ar,ay,e',aL,aB,au⟩:=Region.waitsFor_spec hb
    have:ar=oj:=Aq (ay.symm.trans hj)
    subst this
    exact absurd au (ax e' aL aB)
  ·cases hb:Region.waitsFor .any ops it.k j with
   |false=>rfl
   |true=>
    have:=Zc hr hb
    rw[getD_both aJ]at this;cases this
 by_cases hv:valid (zl a) it.ch
 ·obtain⟨v,hd,hx⟩:=aC it.av ai n γ a Z hv
  refine wpAny_first ho (Region.noSelect_spec ab) (λc a w hq=>absurd hq (hQ c _ w)) f listed a (mk B d h) am hr (.inl ⟨hw.2 hv,hx⟩) ?_
  rw[aj]
  exact hK v (ak it.av v γ h ai (λ_=>hd) (λae=>absurd hv ae) aa g4) g4
 ·refine wpAny_first ho (Region.noSelect_spec ab) (λc a w hq=>absurd hq (hQ c _ w)) f listed a (mk B d h) am hr (.inr ⟨by simpa using λhx=>hv (hw.1 hx),rfl⟩) ?_
  rw[aj]
  exact hK undef (ak it.av undef γ h ai (λae=>absurd ae hv) (λ_=>rfl) aa g4) g4
structure GInv (h0:za) (W:Nat->Prop) (M0:Fr) (P:Program) (n:Nat) (ops:Array Oper) (m:Nat) (pu:List Nat) (e0:qo) (cs:CS) (listed pl:Array Bool) (IL:List It):Prop where
 size:pl.size=ops.size
 mem:∀k,pl.getD k false=true↔∃i∈IL,i.k=k
 dist:IL.Pairwise λi j=>i.k≠j.k
 items:∀i∈IL,∃Kan,ItOK h0 W M0 P n ops m pu e0 cs IL i Kan/\Kan i.av/\(listed.getD i.k false=false->Kan=(· = i.av))
 sub:∀k,listed.getD k false=true->pl.getD k false=true
def zfa(ops:Array Oper):List Nat->Bool
 |[]=>true
 |k::_=>match ops[k]? with
  |some o=>yl o
  |none=>false
theorem getD_lt{k:Nat}(h:k<pl.size):pl.getD k true=pl.getD k false:=by simp[h]
theorem zpr(ay:Fr.le gl M0){e0:qo}{Kt:List It->Prop}{k:Nat}{IL:List It}(H:dW P gl tr n ops m pu e0 cs Kt (k::ord) pl IL):
  ∃o ch nb us Kan,ops[k]?=some o/\zgf ops m o k pl=true/\(∀av,ItOK h0 W M0 P n ops m pu e0 cs IL ⟨k,o.dst,ch,av,nb,us⟩ Kan)/\(∀av,Kan av->dW P gl tr n ops m pu e0 cs Kt ord (pl.setIfInBounds k true) (⟨k,o.dst,ch,av,nb,us⟩::IL))/\(yl o=false->∃av,Kan=(· = av)):=by
 unfold dW at H
 split at H
 ·exact H.elim
 ·rename_i o ho
  cases hst:zgf ops m o k pl with
  |false=>rw[hst]at H;exact H.elim
  |true=>
   rw[hst]at H
   simp only[cond_true]at H
   split at H
   ·rename_i ch ar
    cases hco:qcw ops o ch with
    |false=>rw[hco]at H;exact H.elim
    |true=>
     rw[hco]at H
     cases hok:qi n ch o.dst with
     |false=>rw[hok]at H;exact H.elim
     |true=>
      rw[hok]at H
      simp only[cond_true]at H
      cases hpo:zwo P ops pu o k (J4 (xo ops o) (itE IL++e0)) ch with
      |false=>rw[hpo]at H;exact H.elim
      |true=>
      rw[hpo]at H
      simp only[cond_true]at H
      have ab:∃nb us eat Kan,Spec h0 W M0 P o (J4 (xo ops o) (itE IL++e0)) ch cs nb Kan eat/\(∀av,Kan av->(bif zna (yd ops m) av nb then dW P gl tr n ops m pu e0 cs Kt ord (pl.setIfInBounds k true) (⟨k,o.dst,ch,av,nb,us⟩::IL)else False))/\(yl o=false->∃av,Kan=(· = av)) /\
        (memN pu k=true->nb=none/\zb8 P o (J4 (xo ops o) (itE IL++e0)) ch Kan/\zpq ops k o ops.size=true/\yl o=false) /\
        (∀c,eat=some c->∃i∈IL,i.nb=some c/\i.us=some k)/\(∀j,us=some j->j<m/\Region.waitsFor .any ops j k=true):=by
       unfold zwo at hpo
       unfold uC at H
       cases hmp:memN pu k with
       |false=>
        rw[hmp,cond_false]at H
        split at H
        ·obtain⟨nb,Kan,h1,h2,h3⟩:=zpo (h0:=h0) (W:=W) (M0:=M0) ay H
         exact⟨nb,none,none,Kan,h1,h2,h3,λhc=>(by cases hc),λc hc=>(by cases hc),λj hj=>by cases hj⟩
        ·rename_i us az
         cases huo:z5t ops m k us with
         |false=>rw[huo]at H;exact H.elim
         |true=>
          rw[huo,cond_true]at H
          split at H
          ·obtain⟨nb,eat,av,h1,h2,h3⟩:=zpp (h0:=h0) (W:=W) (M0:=M0) H
           refine⟨nb,us,eat,(· = av),h1,λaa e=>e ▸ h2,λ_=>⟨av,rfl⟩,λhc=>(by cases hc),λc hc=>zau (h3 c hc),λj hj=>?_⟩
           subst hj
           simp only[z5t]at huo
           cases hq:Nat.blt j m with
           |false=>rw[hq]at huo;cases huo
           |true=>rw[hq]at huo;exact⟨by simpa[Cs]using hq,huo⟩
          ·exact H.elim
       |true=>
        rw[hmp]at hpo
        simp only[cond_true]at hpo
        rw[hmp,cond_true]at H
        simp only at H
        cases hpb:zdc P (J4 (xo ops o) (itE IL++e0)) ch o with
        |false=>rw[hpb]at hpo;cases hpo
        |true=>
         rw[hpb]at hpo
         obtain⟨av,h1,h2,h3⟩:=zt2 (h0:=h0) (W:=W) (M0:=M0) H hpb
         exact⟨none,none,none,(· = av),h1,λaa e=>e ▸ h2,λ_=>⟨av,rfl⟩,λ_=>⟨rfl,h3,hpo,znb hpb⟩,λc hc=>(by cases hc),λj hj=>by cases hj⟩
      obtain⟨nb,us,eat,Kan,sp,hK,ah,aj,am,af⟩:=ab
      have ae:yw ops k (xo ops o) m=true:=by
       unfold zgf at hst
       cases h1:Nat.blt k m with
       |false=>rw[h1]at hst;cases hst
       |true=>
        rw[h1]at hst
        cases h2:yw ops k (xo ops o) m with
        |false=>rw[h2]at hst;cases hst
        |true=>rfl
      have au:k<m:=by
       unfold zgf at hst
       cases h1:Nat.blt k m with
       |false=>rw[h1]at hst;cases hst
       |true=>simpa[Cs]using h1
      have ai:∀av,Kan av->zna (yd ops m) av nb=true/\dW P gl tr n ops m pu e0 cs Kt ord (pl.setIfInBounds k true) (⟨k,o.dst,ch,av,nb,us⟩::IL):=by
       intro av Z
       have:=hK av Z
       cases hio:zna (yd ops m) av nb with
       |false=>rw[hio]at this;exact this.elim
       |true=>rw[hio]at this;exact⟨rfl,this⟩
      refine⟨o,ch,nb,us,Kan,ho,hst,λav=>⟨au,Jo ho,hok,?_,⟨o,_,eat,ho,ar,sp,λx hx=>?_,aj,am⟩,af,λaa Z ak=>?_⟩,λav Z=>(ai av Z).2,ah⟩
      ·-- the chain's slots
       intro x hx p hp hd
       refine zx ae p x.1 hp hd ?_
       unfold qcw at hco
       split at hco
       ·cases hx
       ·rename_i g q
        have ax:x=(g,q):=by simpa using hx
        subst ax
        split at hco
        ·rename_i j pp ap
         split at hco
         ·rename_i g' an
          have e:=Ag hco
          unfold xo
          rw[ap]
          simp only[an]
          rw[e]
          exact Am _ Aj
         ·cases hco
        ·cases hco
       ·cases hco
      ·obtain⟨h1,h2⟩:=Yo hx
       rcases As.1 h1 with h1|h1
       ·exact .inr ⟨h1,λp hp hd=>zx ae p x.1 hp hd h2⟩
       ·exact .inl h1
      ·have:=(ai aa Z).1
       simp only at ak
       subst ak
       exact this
   ·exact H.elim
theorem zwq{k:Nat}(h:zgf ops m o k pl=true):k∈Region.ready .any ops pl/\(yl o=true->Region.ready .any ops pl=[k]):=by
 unfold zgf at h
 cases h1:Nat.blt k m with
 |false=>rw[h1]at h;cases h
 |true=>
  rw[h1]at h
  cases h2:yw ops k (xo ops o) m with
  |false=>rw[h2]at h;cases h
  |true=>
   rw[h2]at h
   simp only[cond_true]at h
   cases ha:yl o with
   |false=>rw[ha]at h;exact⟨zwl h,λhc=>by cases hc⟩
   |true=>
    rw[ha]at h
    simp only[cond_true]at h
    have:Region.ready .any ops pl=[k]:=by
     unfold z3f at h
     split at h
     ·rename_i x _ hx;rw[hx,Ag h]
     ·cases h
    exact⟨by rw[this];exact Aj,λ_=>this⟩
theorem zwr{P:Program}{gl:Fr}(aj:Fr.le gl M0){tr:TypeId}{n:Nat}{ops:Array Oper}{m:Nat}{pu:List Nat}{e0:qo}{cs:CS}{Kt:List It->Prop}{listed:Array Bool}:∀{ord:List Nat} {pl:Array Bool} {IL:List It},dW P gl tr n ops m pu e0 cs Kt ord pl IL->GInv h0 W M0 P n ops m pu e0 cs listed pl IL ->
  ∃Z ae new,dW P gl tr n ops m pu e0 cs Kt Z ae (new++IL)/\GInv h0 W M0 P n ops m pu e0 cs listed ae (new++IL)/\zfa ops Z=true/\∀i∈new,listed.getD i.k false=false
 |[],pl,IL,H,G=>⟨[],pl,[],H,G,rfl,λi hi=>by cases hi⟩
 |k::ord,pl,IL,H,G=>by
  obtain⟨o,ch,nb,us,Kan,ho,ak,am,hK,ah⟩:=zpr (h0:=h0) (W:=W) (M0:=M0) aj H
  cases ha:yl o with
  |true=>exact⟨k::ord,pl,[],H,G,by simp[zfa,ho,ha],λi hi=>by cases hi⟩
  |false=>
   obtain⟨av,rfl⟩:=ah ha
   have ar:=(zwq ak).1
   have ai:pl.getD k true=false:=(mem_ready.1 ar).1
   have af:k<pl.size:=by
    rcases AR k pl.size with h|h
    ·exact h
    ·simp[Array.getElem?_eq_none h]at ai
   have aa:pl.getD k false=false:=by rw[<-getD_lt af];exact ai
   have ap:listed.getD k false=false:=by
    cases hb:listed.getD k false with
    |false=>rfl
    |true=>rw[G.sub k hb]at aa;cases aa
   have an:∀i∈IL,i.k≠k:=λi hi e=>by
    have:=(G.mem k).2 ⟨i,hi,e⟩
    rw[this]at aa;cases aa
   have G':GInv h0 W M0 P n ops m pu e0 cs listed (pl.setIfInBounds k true) (⟨k,o.dst,ch,av,nb,us⟩::IL):=by
    refine⟨by simp[G.size],λj=>?_,BI.2 ⟨λj hj=>(an j hj).symm,G.dist⟩,λi hi=>?_,λj hj=>?_⟩
    ·by_cases ab:k=j
     ·subst ab
      simp only[Af,exists_eq_or_imp,true_or,iff_true]
      simp[af]
     ·rw[getD_set_ne false ab,G.mem j]
      simp only[Af,exists_eq_or_imp,ab,false_or]
    ·rcases Af.1 hi with rfl|hi
     ·exact⟨(· = av),(am av).mono λi hi=>Ae _ hi,rfl,λ_=>rfl⟩
     ·obtain⟨Ki,h1,h2,h3⟩:=G.items i hi
      exact⟨Ki,h1.mono λi hi=>Ae _ hi,h2,h3⟩
    ·by_cases ab:k=j
     ·subst ab;simp[af]
     ·rw[getD_set_ne false ab];exact G.sub j hj
   obtain⟨Z,ae,new,h1,h2,h3,h4⟩:=zwr aj (hK av rfl) G'
   refine⟨Z,ae,new++[⟨k,o.dst,ch,av,nb,us⟩],by simpa using h1,by simpa using h2,h3,λi hi=>?_⟩
   rcases As.1 hi with hi|hi
   ·exact h4 i hi
   ·simp only[Bf]at hi;subst hi;exact ap
theorem znd{k:Nat}(hk:k<listed.size)(aa:listed.getD k false=false)(i:It):strip (listed.setIfInBounds k true) i=zde k (strip listed i):=by
 unfold strip zde
 cases hu:i.us with
 |none=>simp[hu]
 |some j=>
  simp only
  by_cases Z:j=k
  ·subst Z
   have e1:(listed.setIfInBounds j true).getD j false=true:=by simp[hk]
   rw[e1,aa]
   simp[hu]
  ·rw[getD_set_ne false (Ne.symm Z)]
   have hb:Nat.beq j k=false:=by
    cases hq:Nat.beq j k with
    |false=>rfl
    |true=>exact absurd (Ag hq) Z
   cases listed.getD j false with
   |true=>simp[hb]
   |false=>simp[hu,hb]
theorem zps{listed:Array Bool}{k:Nat}(hk:k<listed.size)(Z:listed.getD k false=false):∀{l:List It},(∀j∈l,k≠j.k)->Zg (listed.setIfInBounds k true) l=(Zg listed l).map (zde k)
 |[],_=>rfl
 |j::l,hj=>by
  simp only[Zg]
  rw[getD_set_ne false (hj j Aj),zps hk Z λx hx=>hj x (Ae _ hx)]
  cases listed.getD j.k false with
  |true=>simp only[cond_true,A4];rw[znd hk Z]
  |false=>rfl
theorem zrw{it:It}(hu:∀j,it.us=some j->listed.getD j false=false):strip listed it=it:=by
 unfold strip
 split
 ·rename_i j hj;rw[hu j hj];rfl
 ·rfl
theorem zrx{listed:Array Bool}{it:It}(hk:it.k<listed.size)(Z:listed.getD it.k false=false)(hu:∀j,it.us=some j->(listed.setIfInBounds it.k true).getD j false=false):∀{IL:List It},IL.Pairwise (λi j=>i.k≠j.k)->it∈IL->(Zg (listed.setIfInBounds it.k true) IL).Perm (it::(Zg listed IL).map (zde it.k))
 |[],_,h=>by cases h
 |i::l,hd,h=>by
  rw[BI]at hd
  simp only[Zg]
  rcases Af.1 h with rfl|h
  ·have e1:(listed.setIfInBounds it.k true).getD it.k false=true:=by simp[hk]
   rw[e1,Z,zps hk Z hd.1,zrw hu]
   exact .refl _
  ·have aa:i.k≠it.k:=hd.1 it h
   rw[getD_set_ne false (Ne.symm aa)]
   have ih:=zrx hk Z hu hd.2 h
   cases listed.getD i.k false with
   |true=>
    simp only[cond_true,A4]
    rw[znd hk Z]
    exact(ih.cons _).trans (.swap _ _ _)
   |false=>exact ih
theorem zkp{listed:Array Bool}{IL:List It}:∀{new:List It},(∀i∈new,listed.getD i.k false=false)->Zg listed (new++IL)=Zg listed IL
 |[],_=>rfl
 |i::l,h=>by
  simp only[AO,Zg]
  rw[h i Aj]
  exact zkp λx hx=>h x (Ae _ hx)
theorem zry{listed:Array Bool}:∀{l:List It},(∀i∈l,listed.getD i.k false=true/\∀j,i.us=some j->listed.getD j false=true)->Zg listed l=z5u l
 |[],_=>rfl
 |i::l,h=>by
  simp only[Zg,z5u]
  obtain⟨h1,h2⟩:=h i Aj
  rw[h1,zry λx hx=>h x (Ae _ hx),cond_true]
  congr 1
  unfold strip
  split
  ·rename_i j hj;rw[h2 j hj];rfl
  ·rfl
theorem GInv.ready_pl{e0:qo}{IL:List It}(G:GInv h0 W M0 P n ops m pu e0 cs listed pl IL)(hi:i∈Region.ready .any ops listed)(hp:pl.getD i false=false):i∈Region.ready .any ops pl:=by
 obtain⟨_,o,ho,Z⟩:=mem_ready.1 hi
 have aa:i<ops.size:=(Ac.1 ho).1
 exact mem_ready.2 ⟨by rw[getD_lt (by rw[G.size];exact aa)];exact hp,o,ho,λe he hb=>G.sub _ (Z e he hb)⟩
theorem zt3(hm:m<=ops.size)(Z:qa ops ops.size=true)(ae:listed.size=ops.size)(aa:∃k,k<m/\listed.getD k false=false):∃k,k<m/\k∈Region.ready .any ops listed:=by
 obtain⟨k,⟨h1,h2⟩,h3⟩:=exists_least aa
 refine⟨k,h1,mem_ready.2 ⟨by rw[getD_lt (by omega)];exact h2,ops[k],AI (by omega),λe he hb=>?_⟩⟩
 have ab:=zr Z k ops[k] (by omega) (AI (by omega)) e he hb
 cases hb':listed.getD e.on false with
 |true=>rfl
 |false=>
  have:=h3 e.on ⟨by omega,hb'⟩
  omega
def Jp(N m:Nat):Array Bool:=((Bv N).map λk=>Nat.blt k m).toArray
theorem zpt(hm:m<=ops.size)(inv:HeadInv .any ops m listed)(Z:∀k,k<m->listed.getD k false=true):listed=Jp ops.size m:=by
 refine Array.ext (by simp[Jp,inv.size]) λi h1 h2=>?_
 have hi:i<ops.size:=by rw[<-inv.size];exact h1
 have e:(Jp ops.size m)[i]=Nat.blt i m:=by simp[Jp]
 rw[e]
 rcases AR i m with h|h
 ·have:=Z i h
  simp only[Array.getD,h1,dite_true]at this
  rw[show Nat.blt i m=true by simpa[Cs]using h]
  exact this
 ·have:=inv.tail i h hi
  simp only[Array.getD,h1,dite_true]at this
  have e2:Nat.blt i m=false:=by
   cases hb:Nat.blt i m with
   |false=>rfl
   |true=>have:=Cs.mp hb;omega
  rw[e2]
  exact this
def zws(ops:Array Oper)(pu:List Nat)(m i:Nat):Nat->Bool
 |0=>false
 |j+1=>bif (bif Region.waitsFor .any ops j i then(bif Nat.beq j m then true else !(memN pu j))else false)then Nat.blt i j else zws ops pu m i j
theorem zja{ops:Array Oper}{pu:List Nat}{m i:Nat}:∀{n:Nat},zws ops pu m i n=true->∃j,j<n/\i<j/\Region.waitsFor .any ops j i=true/\(j=m\/memN pu j=false)
 |0,h=>by cases h
 |n+1,h=>by
  simp only[zws]at h
  cases hb:(bif Region.waitsFor .any ops n i then(bif Nat.beq n m then true else !(memN pu n))else false)with
  |false=>
   rw[hb]at h
   obtain⟨j,h1,h2⟩:=zja h
   exact⟨j,by omega,h2⟩
  |true=>
   rw[hb]at h
   refine⟨n,by omega,by simpa[Cs]using h,?_⟩
   cases hw:Region.waitsFor .any ops n i with
   |false=>rw[hw]at hb;cases hb
   |true=>
    rw[hw]at hb
    refine⟨rfl,?_⟩
    cases hm:Nat.beq n m with
    |true=>exact .inl (Ag hm)
    |false=>rw[hm]at hb;exact .inr (by simpa using hb)
def zt4(ops:Array Oper)(pu:List Nat)(m:Nat):Nat->Bool
 |0=>true
 |i+1=>bif (bif memN pu i then true else zws ops pu m i (m+1))then zt4 ops pu m i else false
theorem zjb{ops:Array Oper}{pu:List Nat}{m:Nat}:∀{n:Nat},zt4 ops pu m n=true->∀i,i<n->memN pu i=false->∃j,j<=m/\i<j/\Region.waitsFor .any ops j i=true/\(j=m\/memN pu j=false)
 |0,_,i,hi,_=>by omega
 |n+1,h,i,hi,hp=>by
  simp only[zt4]at h
  cases hb:(bif memN pu n then true else zws ops pu m n (m+1))with
  |false=>rw[hb]at h;cases h
  |true=>
   rw[hb]at h
   rcases AR i n with h1|h1
   ·exact zjb h i h1 hp
   ·have:i=n:=by omega
    subst this
    rw[hp]at hb
    obtain⟨j,a1,a2⟩:=zja hb
    exact⟨j,by omega,a2⟩
def zt5(ops:Array Oper)(pu:List Nat)(m:Nat):Bool:=bif Nat.beq m ops.size then true else bif zt4 ops pu m m then Region.chainB .any ops m else false
theorem zpu(hm:m<ops.size)(hs:zt4 ops pu m m=true)(hc:Region.chainB .any ops m=true)(inv:HeadInv .any ops m listed):
  ∀(d i:Nat),m-i=d->i<m->listed.getD i false=false->memN pu i=false->∀t,m<=t->t∉Region.ready .any ops listed:=by
 intro d
 induction d using Du with
 |_ d ih=>
  intro i hd hi Z af t ht hr
  obtain⟨_,ot,ah,am⟩:=mem_ready.1 hr
  have aa:t<ops.size:=(Ac.1 ah).1
  by_cases aj:t=m
  ·subst aj
   obtain⟨j,h1,h2,h3,h4⟩:=zjb hs i hi af
   by_cases ab:j=t
   ·subst ab
    rw[Zc hr h3]at Z;cases Z
   ·have ak:memN pu j=false:=h4.resolve_left ab
    cases hl:listed.getD j false with
    |true=>
     obtain⟨oj,ai,e,he,hb,ae⟩:=Region.waitsFor_spec h3
     have:=inv.closed j oj ai hl e he hb
     rw[ae,Z]at this
     cases this
    |false=>exact ih (t-j) (by omega) j rfl (by omega) hl ak t (Ad _) hr
  ·have h1:=AX.1 hc t (BL.2 aa)
   simp only[BN,decide_eq_true_eq]at h1
   rcases h1 with h1|h1
   ·omega
   ·have:=Zc hr h1
    rw[getD_both (inv.tail (t-1) (by omega) (by omega))]at this
    cases this
theorem z0w(hm:m<=ops.size)(he:zt5 ops pu m=true)(inv:HeadInv .any ops m listed)(Z:∃k,k<m/\k∈Region.ready .any ops listed/\memN pu k=false):∀i∈Region.ready .any ops listed,i<m:=by
 intro i hi
 obtain⟨_,o,ho,_⟩:=mem_ready.1 hi
 have aa:i<ops.size:=(Ac.1 ho).1
 rcases AR i m with h|h
 ·exact h
 ·exfalso
  unfold zt5 at he
  cases hb:Nat.beq m ops.size with
  |true=>have:=Ag hb;omega
  |false=>
   rw[hb]at he
   simp only[cond_false]at he
   cases hs:zt4 ops pu m m with
   |false=>rw[hs]at he;cases he
   |true=>
    rw[hs]at he
    obtain⟨k,h1,h2,h3⟩:=Z
    exact zpu (by omega) hs he inv _ k rfl h1 (getD_both (mem_ready.1 h2).1) h3 i h hi
theorem qcx(hgl:Fr.le gl M0){e0:qo}{Kt:List It->Prop}{Q:Exit->Act->World->Prop}(hm:m<=ops.size)(hnd:jj ops m=true)(hback:qa ops ops.size=true)(hends:zt5 ops pu m=true)(hsel:Region.noSelect ops=true)(hQp:∀c a w,¬Q (.panic c) a w)
    (he0:∀x∈e0,x.2.1=[]/\x.1∉yd ops m/\Q0 x.2.2 (yd ops m)=true) (B:World) {g:Nat} {a0:Act} {γ0:Gh}
    (hQ:∀IL γ a d h,SatA n (itE IL++e0) γ a->Inv h0 W M0 (itC IL++cs) γ h->Same (yd ops m) a0 a->GxS (yd ops m) γ0 γ->Kt IL->wpAny P .any ops Q g (Jp ops.size m) a (mk B d h)):
    ∀(N:Nat) (U:List Nat) (listed:Array Bool) (ord:List Nat) (pl:Array Bool) (IL:List It) (γ:Gh) (a:Act) (d:Nat) (h:za),U.length=N->U.Nodup->(∀k,k∈U↔k<m/\listed.getD k false=false)->HeadInv .any ops m listed ->
      dW P gl tr n ops m pu e0 cs Kt ord pl IL->zfa ops ord=true->GInv h0 W M0 P n ops m pu e0 cs listed pl IL->Mid h0 W M0 P n ops m e0 cs listed IL γ a h->Same (yd ops m) a0 a->GxS (yd ops m) γ0 γ ->
      wpAny P .any ops Q (N+g) listed a (mk B d h):=by
  intro N
  induction N with
  |zero=>
    intro U listed ord pl IL γ a d h hU _ hmem inv H hanch G M hsame hgx
    have hUn:U=[]:=A8.1 hU
    subst hUn
    have hall:∀k,k<m->listed.getD k false=true:=λk hk=>by
      cases hb:listed.getD k false with
      |true=>rfl
      |false=>exact absurd ((hmem k).2 ⟨hk,hb⟩) (by simp)
    have hKt:Kt (z5u IL):=by
      cases ord with
      |nil=>
        unfold dW at H
        cases hb:zt1 pl m with
        |true=>rw[hb]at H;exact H
        |false=>rw[hb]at H;exact H.elim
      |cons k ord=>
        exfalso
        obtain⟨o,ch,nb,us,Kan,ho,hst,hit,_,_⟩:=zpr (h0:=h0) (W:=W) (M0:=M0) hgl H
        have hk:k<m:=(hit (.g (.a (.v undef)))).lt
        have h1:=(mem_ready.1 (zwq hst).1).1
        rw[getD_lt (by rw[G.size];omega),G.sub k (hall k hk)]at h1
        cases h1
    have hact:Zg listed IL=z5u IL:=zry λi hi=>by
      obtain⟨Ki,Ti,_⟩:=G.items i hi
      exact⟨hall _ Ti.lt,λj hj=>hall j (Ti.use j hj).1⟩
    have h1:=M.sat
    have h2:=M.inv
    rw[hact]at h1 h2
    rw[Ay,zpt hm inv hall]
    exact hQ (z5u IL) γ a d h h1 h2 hsame hgx hKt
  |succ N ih=>
    intro U listed ord pl IL γ a d h hU hdup hmem inv H hanch G M hsame hgx
    have hex:∃k,k<m/\listed.getD k false=false:=by
      cases U with
      |nil=>cases hU
      |cons k U=>exact⟨k,(hmem k).1 Aj⟩
    obtain⟨k0,hk0m,hk0⟩:=zt3 hm hback inv.size hex
    rw[show N+1+g=(N+g)+1 by omega]
    have gen:∀i,i∈Region.ready .any ops listed->i<m->(memN pu i=true->wpAny P .any ops Q (N+g+1) listed a (mk B d h))/\wpOp P ops Q i (wpAny P .any ops Q (N+g) (listed.setIfInBounds i true)) a (mk B d h):=by
      intro i hi him
      have hun:listed.getD i false=false:=getD_both (mem_ready.1 hi).1
      have hils:i<listed.size:=by rw[inv.size];omega
      have hU':(U.erase i).length=N:=by rw[CP ((hmem i).2 ⟨him,hun⟩),hU];rfl
      have hdup':(U.erase i).Nodup:=hdup.erase i
      have hmem':∀k,k∈U.erase i↔k<m/\(listed.setIfInBounds i true).getD k false=false:=λk=>by
        rw[hdup.mem_erase_iff,hmem k]
        by_cases hk:i=k
        · subst hk;simp[hils]
        · rw[getD_set_ne false hk];exact⟨λhx=>hx.2,λhx=>⟨λe=>hk e.symm,hx⟩⟩
      have inv':=inv.set hi him
      have toS:∀{it:It} {Kan:AV->Prop},ItOK h0 W M0 P n ops m pu e0 cs IL it Kan->∀{γ':Gh},Gx (it.nb.map (·.1)) γ γ'->GxS (yd ops m) γ γ':=by
        intro it Kan T γ' gx
        refine⟨gx.1,λj hj=>?_⟩
        refine gx.2 j λhc=>hj ?_
        obtain⟨o,e,eat,ho,_,sp,_,_⟩:=T.ex
        cases hnb:it.nb with
        |none=>rw[hnb]at hc;cases hc
        |some b=>
          rw[hnb]at hc
          have:b.1=j:=by simpa using hc
          subst this
          obtain⟨_,h2,_⟩:=sp.box b hnb
          exact zdf T.lt (by rw[Jo ho];exact h2)
      have toSame:∀{it:It} {Kan:AV->Prop},ItOK h0 W M0 P n ops m pu e0 cs IL it Kan->∀u,Same (yd ops m) a (a.put it.dst u):=λ {it} {Kan} T u=>
        Same.put a it.dst u λj hj=>zdf T.lt (by rw[T.dst];exact hj)
      have hILk:∀x∈IL,∃Kan,ItOK h0 W M0 P n ops m pu e0 cs IL x Kan/\Kan x.av:=λx hx=>by
        obtain⟨Kx,h1,h2,_⟩:=G.items x hx
        exact⟨Kx,h1,h2⟩
      have hdist:∀x∈IL,∀y∈IL,x.k=y.k->x=y:=by
        have key:∀l:List It,l.Pairwise (λi j=>i.k≠j.k)->∀x∈l,∀y∈l,x.k=y.k->x=y:=by
          intro l
          induction l with
          |nil=>intro _ x hx;cases hx
          |cons z l ihl=>
            intro hp x hx y hy e
            rw[BI]at hp
            rcases Af.1 hx with hx1|hx1
            · rcases Af.1 hy with hy1|hy1
              · rw[hx1,hy1]
              · rw[hx1]at e;exact absurd e (hp.1 y hy1)
            · rcases Af.1 hy with hy1|hy1
              · rw[hy1]at e;exact absurd e.symm (hp.1 x hx1)
              · exact ihl hp.2 x hx1 y hy1 e
        exact key IL G.dist
      cases hpl:pl.getD i false with
      |true=>
        obtain⟨it,hit,hik⟩:=(G.mem i).1 hpl
        subst hik
        obtain⟨Kan,T,_,hdet⟩:=G.items it hit
        have fwd:∀u γ' h' d',(∀L':List It,L'.Perm (it::(Zg listed IL).map (zde it.k))->SatA n (itE L'++e0) γ' (a.put it.dst u)/\Inv h0 W M0 (itC L'++cs) γ' h')->Gx (it.nb.map (·.1)) γ γ'->wpAny P .any ops Q (N+g) (listed.setIfInBounds it.k true) (a.put it.dst u) (mk B d' h'):=by
         intro u γ' h' d' hst hgx'
         have huse:∀j,it.us=some j->(listed.setIfInBounds it.k true).getD j false=false:=by
           intro j hj
           have hw:=(T.use j hj).2
           obtain⟨oj,hoj,e,he,hb,hon⟩:=Region.waitsFor_spec hw
           have hjk:it.k≠j:=λe'=>by
             have:=zr hback j oj (Ac.1 hoj).1 hoj e he hb
             omega
           rw[getD_set_ne false hjk]
           cases hl:listed.getD j false with
           |false=>rfl
           |true=>
             have:=inv.closed j oj hoj hl e he hb
             rw[hon,hun]at this;cases this
         obtain⟨s1,s2⟩:=hst _ (zrx hils hun huse G.dist hit)
         refine ih _ _ ord pl IL γ' _ d' h' hU' hdup' hmem' inv' H hanch ⟨G.size,G.mem,G.dist,λx hx=>?_,λk hk=>?_⟩ ⟨s1,s2⟩ (hsame.trans (toSame T u)) (hgx.trans (toS T hgx'))
         · obtain⟨Kx,h1,h2,h3⟩:=G.items x hx
           refine⟨Kx,h1,h2,λhf=>h3 ?_⟩
           by_cases hk:it.k=x.k
           · rw[<-hk];exact hun
           · rw[getD_set_ne false hk]at hf;exact hf
         · by_cases hk':it.k=k
           · subst hk';exact hpl
           · rw[getD_set_ne false hk']at hk;exact G.sub k hk
        have hK0:Kan it.av:=by rw[hdet hun]
        refine⟨λhp=>zwp hnd he0 hILk hdist inv M T hK0 hi hp hsel hQp B d λu hst hgx'=>fwd u γ h d hst hgx',znc hnd he0 hILk hdist inv M T hi B d λav u γ' h' d' hav hst hgx'=>?_⟩
        have hav':av=it.av:=by rw[hdet hun]at hav;exact hav
        subst hav'
        exact fwd u γ' h' d' hst hgx'
      |false=>
        have hrp:=G.ready_pl hi hpl
        cases ord with
        |nil=>
          exfalso
          unfold dW at H
          cases hb:zt1 pl m with
          |true=>rw[zi7 hb i him]at hpl;cases hpl
          |false=>rw[hb]at H;exact H
        |cons k ord=>
          obtain⟨o,ch,nb,us,Kan,ho,hst,hit,hK,_⟩:=zpr (h0:=h0) (W:=W) (M0:=M0) hgl H
          have hanc:yl o=true:=by simpa[zfa,ho]using hanch
          have hrk:=(zwq hst).2 hanc
          rw[hrk]at hrp
          have hik:i=k:=by simpa using hrp
          subst hik
          refine⟨λhp=>?_,znc hnd he0 hILk hdist inv M (hit (.g (.a (.v undef)))) hi B d λav u γ' h' d' hav hst' hgx'=>?_⟩
          · obtain⟨o',_,_,ho',_,_,_,hpp,_⟩:=(hit (.g (.a (.v undef)))).ex
            have:=(hpp hp).2.2.2
            have e':o'=o:=Aq (ho'.symm.trans ho)
            rw[e',hanc]at this;cases this
          have hne:∀j∈IL,i≠j.k:=λj hj e=>by
            have:=(G.mem i).2 ⟨j,hj,e.symm⟩
            rw[hpl]at this;cases this
          have hips:i<pl.size:=by rw[G.size,<-inv.size];exact hils
          have G':GInv h0 W M0 P n ops m pu e0 cs (listed.setIfInBounds i true) (pl.setIfInBounds i true) (⟨i,o.dst,ch,av,nb,us⟩::IL):=by
            refine⟨by simp[G.size],λj=>?_,BI.2 ⟨λj hj=>hne j hj,G.dist⟩,λx hx=>?_,λj hj=>?_⟩
            · by_cases hjk:i=j
              · subst hjk
                simp only[Af,exists_eq_or_imp,true_or,iff_true]
                simp[hips]
              · rw[getD_set_ne false hjk,G.mem j]
                simp only[Af,exists_eq_or_imp,hjk,false_or]
            · rcases Af.1 hx with rfl|hx
              · exact⟨Kan,(hit av).mono λx hx=>Ae _ hx,hav,λhf=>by simp[hils]at hf⟩
              · obtain⟨Kx,h1,h2,h3⟩:=G.items x hx
                refine⟨Kx,h1.mono λx hx=>Ae _ hx,h2,λhf=>h3 ?_⟩
                rw[getD_set_ne false (hne x hx)]at hf;exact hf
            · by_cases hjk:i=j
              · subst hjk;simp[hips]
              · rw[getD_set_ne false hjk]at hj ⊢;exact G.sub j hj
          obtain⟨ord',pl',new,h1,h2,h3,h4⟩:=zwr hgl (hK av hav) G'
          have hact:Zg (listed.setIfInBounds i true) (new++⟨i,o.dst,ch,av,nb,us⟩::IL)=⟨i,o.dst,ch,av,nb,us⟩::(Zg listed IL).map (zde i):=by
            rw[zkp h4]
            simp only[Zg]
            rw[show(listed.setIfInBounds i true).getD i false=true by simp[hils],zps hils hun hne,cond_true,zrw ?_]
            intro j hj
            have hw:=((hit av).use j hj).2
            obtain⟨oj,hoj,e,he,hb,hon⟩:=Region.waitsFor_spec hw
            have hon:e.on=i:=hon
            have hjk:i≠j:=λe'=>by
              have:=zr hback j oj (Ac.1 hoj).1 hoj e he hb
              omega
            rw[getD_set_ne false hjk]
            cases hl:listed.getD j false with
            |false=>rfl
            |true=>
              have:=inv.closed j oj hoj hl e he hb
              rw[hon,hun]at this;cases this
          obtain⟨s1,s2⟩:=hst' (⟨i,o.dst,ch,av,nb,us⟩::(Zg listed IL).map (zde i)) (.refl _)
          exact ih _ _ ord' pl' _ γ' _ d' h' hU' hdup' hmem' inv' h1 h3 h2 ⟨by rw[hact];exact s1,by rw[hact];exact s2⟩ (hsame.trans (toSame (hit av) u)) (hgx.trans (toS (hit av) hgx'))
    by_cases hpe:∃i,i∈Region.ready .any ops listed/\i<m/\memN pu i=true
    · obtain⟨i,hi,him,hp⟩:=hpe
      exact(gen i hi him).1 hp
    · refine⟨λhc=>(by rw[hc]at hk0;cases hk0),λi hi=>(gen i hi (z0w hm hends inv ⟨k0,hk0m,hk0,?_⟩ i hi)).2⟩
      cases hb:memN pu k0 with
      |false=>rfl
      |true=>exact absurd ⟨k0,hk0,hk0m,hb⟩ hpe
def z5v(ops:Array Oper)(m:Nat)(pu:List Nat):Bool:=
 bif Nat.ble m ops.size then(bif jj ops m then(bif qa ops ops.size then(bif zt5 ops pu m then(bif Region.noSelect ops then Region.seqB .any ops (ops.size-m) m (Jp ops.size m)else false)else false)else false)else false)else false
def z5w(P:Program)(gl:Fr)(tr:TypeId)(n:Nat)(ops:Array Oper)(m:Nat)(ord pu:List Nat)(R:CS)(K:qo->CS->Prop)(e:qo)(C:CS):Prop:=
 bif z5v ops m pu then dW P gl tr n ops m pu (zep (yd ops m) e) (C++R) (λIL=>wRA P gl tr n ops R K (ops.toList.drop m) (itE IL++zep (yd ops m) e) (itC IL++C)) ord (Ba ops.size false) []else False
theorem zpv(hm:P.follows .mixedOrders=true)(ah:Fr.le gl M0){K:qo->CS->Prop}{e:qo}
  (H:z5w P gl tr n ops m ord pu R K e C) (B:World) (d:Nat) (hs:SatA n e γ a) (I:Inv h0 W M0 (C++R) γ h) {Q:Exit->Act->World->Prop}
  (hQ:∀e' C' γ' a' d' h',SatA n e' γ' a'->Inv h0 W M0 (C'++R) γ' h'->Same (yn ops.toList) a a'->GxS (yn ops.toList) γ γ'->K e' C'->Q .normal a' (mk B d' h')):(CW id ops true).wp P Q a (mk B d h):=by
 unfold z5w at H
 cases hB:z5v ops m pu with
 |false=>rw[hB]at H;exact H.elim
 |true=>
  rw[hB]at H
  simp only[cond_true]at H
  have ar:m<=ops.size/\jj ops m=true/\qa ops ops.size=true/\zt5 ops pu m=true/\Region.noSelect ops=true/\Region.seqB .any ops (ops.size-m) m (Jp ops.size m)=true:=by
   unfold z5v at hB
   cases h1:Nat.ble m ops.size with
   |false=>rw[h1]at hB;cases hB
   |true=>
    rw[h1]at hB
    cases h2:jj ops m with
    |false=>rw[h2]at hB;cases hB
    |true=>
     rw[h2]at hB
     cases h3:qa ops ops.size with
     |false=>rw[h3]at hB;cases hB
     |true=>
      rw[h3]at hB
      cases h4:zt5 ops pu m with
      |false=>rw[h4]at hB;cases hB
      |true=>
       rw[h4]at hB
       cases h5:Region.noSelect ops with
       |false=>rw[h5]at hB;cases hB
       |true=>
        rw[h5]at hB
        exact⟨BG h1,rfl,rfl,rfl,rfl,hB⟩
  obtain⟨aA,az,af,ae,ak,an⟩:=ar
  have Z:yn ops.toList=yn (ops.toList.take m)++yn (ops.toList.drop m):=by rw[<-xq,Cf]
  have aF:∀x∈zep (yd ops m) e,x.2.1=[]/\x.1∉yd ops m/\Q0 x.2.2 (yd ops m)=true:=λx hx=>(jw hx).2
  have aj:HeadInv .any ops m (Ba ops.size false):=
   ⟨by simp,λj oj _ hl=>(by rw[getD_replicate_false]at hl;cases hl),λt _ ht=>getD_in (by simpa using ht) (getD_replicate_false _ _)⟩
  have G0:GInv h0 W M0 P n ops m pu (zep (yd ops m) e) (C++R) (Ba ops.size false) (Ba ops.size false) []:=
   ⟨by simp,λk=>by rw[getD_replicate_false];simp,List.Pairwise.nil,λi hi=>(by cases hi),λk hk=>hk⟩
  obtain⟨ai,aE,new,h1,h2,h3,h4⟩:=zwr ah H G0
  have aa:Zg (Ba ops.size false) (new++[])=[]:=by rw[zkp h4];rfl
  have am:SatA n (zep (yd ops m) e) γ a:=hs.sub λx hx=>(jw hx).1
  let Qn:Exit->Act->World->Prop:=λx a w=>x=.normal/\Q .normal a w
  refine wp_mono (Q':=Q) (Q:=Qn) ?_ (λx a w hq=>by obtain⟨rfl,h⟩:=hq;exact h)
  refine wp_region_any hm ?_
  have au:ops.size=m+(ops.size-m):=by omega
  have key:=qcx (n:=n) (Q:=Qn) (pu:=pu) ah aA az af ae ak (λc a w hq=>by cases hq.1) aF B (g:=ops.size-m) (a0:=a) (γ0:=γ) (Kt:=λIL=>wRA P gl tr n ops R K (ops.toList.drop m) (itE IL++zep (yd ops m) e) (itC IL++C)) (λIL γ' a' d' h' s1 s2 s3 s4 s5=>?_) m (Bv m) (Ba ops.size false) ai aE (new++[]) γ a (d+1) h DC Dh (λk=>by rw[BL,getD_replicate_false];simp) aj h1 h3 h2 ⟨by rw[aa];exact am,by rw[aa];exact I⟩ (Same.refl _ _) (GxS.refl _ _)
  ·rw[<-au]at key
   exact key
  ·have ab:(ops.toList.drop m).length=ops.size-m:=by simp
   rw[<-ab]
   refine wpAny_of_seq (md:=.any) (ops.toList.drop m) m _ a' _ (λj=>by simp[AE]) (by rw[ab];exact an) ?_
   refine zb4 ah B _ _ _ _ _ _ d' s5 s1 (by rw[AQ];exact s2) λaC ax aG ay aB ap q4 q5 q6 q7 q8=>⟨rfl,hQ aC ax aG ay aB ap q4 q5 ?_ ?_ q8⟩
   ·rw[Z]
    exact(s3.mono λx hx=>Am _ hx).trans (q6.mono λx hx=>Au _ hx)
   ·rw[Z]
    exact(s4.mono λx hx=>Am _ hx).trans (q7.mono λx hx=>Au _ hx)
abbrev z0x:=List (Nat×Nat×List Nat×List Nat×List Nat)
def z3g:z0x->Nat->Option (Nat×List Nat×List Nat×List Nat)
 |[],_=>none
 |(j,x)::l,i=>bif Nat.beq i j then some x else z3g l i
def zpw(P:Program)(gl:Fr)(tr:TypeId)(n:Nat)(tl:zwh)(dl:z0x)(id:Nat)(ops:Array Oper)(Z:Bool)(R:CS)(K:qo->CS->Prop)(e:qo)(C:CS):Prop:=
 match z3g dl id with
 |none=>zpn P gl tr n tl id ops Z R K e C
 |some (m,fz,ord,pu)=>bif Z then z5w P gl tr n ops m ord pu R K e (frzL fz C)else False
theorem zkq(hm:P.follows .mixedOrders=true)(aa:Fr.le gl M0){tl:zwh}{dl:z0x}{Z:Bool}{K:qo->CS->Prop}{e:qo}
  (H:zpw P gl tr n tl dl id ops Z R K e C) (B:World) (d:Nat) (hs:SatA n e γ a) (I:Inv h0 W M0 (C++R) γ h) {Q:Exit->Act->World->Prop}
  (hQ:∀e' C' γ' a' d' h',SatA n e' γ' a'->Inv h0 W M0 (C'++R) γ' h'->Same (yn ops.toList) a a'->GxS (yn ops.toList) γ γ'->K e' C'->Q .normal a' (mk B d' h')):(CW id ops Z).wp P Q a (mk B d h):=by
 unfold zpw at H
 split at H
 ·exact zkn hm aa H B d hs I hQ
 ·rename_i m fz ord pu _
  cases Z with
  |false=>exact H.elim
  |true=>
   obtain⟨γ1,I1,g1⟩:=Inv.frzL (C:=C) (γ:=γ) fz I
   refine zpv hm aa H B d (hs.gx g1) I1 λe' C' γ' a' d' h' q1 q2 q3 q4 q5=>hQ e' C' γ' a' d' h' q1 q2 q3 (GxS.trans ⟨g1.1,λi _=>g1.2 i (by simp)⟩ q4) q5
end
section
variable {S:List Nat} {γ γ':Gh} {u:Value} {C R:CS} {h:za} {n:Nat} {a:Act} {P:Program} {f:FuncId}
variable {h0 : za} {W : Nat -> Prop} {M0 : Fr}
structure PlanA where
 tails:zwh
 draws:z0x
 loops:List (Nat×AnnA)
 joins:List (Nat×AnnA)
def z9z:List (Nat×AnnA)->Option Nat->Option AnnA
 |[],_=>none
 |(j,m)::l,some i=>bif Nat.beq i j then some m else z9z l (some i)
 |_,none=>none
def z8u:AA->List Nat
 |.box j _=>[j]
 |.own j=>[j]
 |.oelt j _ _ _=>[j]
 |_=>[]
def zwt(S:List Nat):List AA->Bool
 |[]=>true
 |x::l=>bif (match z8u x with
  |[]=>true
  |j::_=>!(memN S j))then zwt S l else false
def z0y(S:List Nat):AG->Bool
 |.a x=>zwt S [x]
 |.agg l=>zwt S l
def zrz(S:List Nat):List AG->Bool
 |[]=>true
 |x::l=>bif z0y S x then zrz S l else false
def z5x(S:List Nat):AV->Bool
 |.g x=>z0y S x
 |.tup l=>zrz S l
 |.nx _ _ _=>true
theorem DenA.gxS(g:GxS S γ γ'){x:AA}(hm:(match z8u x with
  |[]=>true
  |j::_=>!(memN S j))=true)(h:DenA γ x u):DenA γ' x u:=by
 have key:∀j,memN S j=false->γ'.β j=γ.β j/\γ'.σ j=γ.σ j:=λj hj=>g.2 j (wh hj)
 cases x with
 |v y=>exact h
 |d t y=>exact Rd.mono g.1 h
 |box j o=>rw[show u=_ from h];simp only[DenA,(key j (by simpa[z8u]using hm)).1]
 |own j=>rw[show u=_ from h];simp only[DenA,(key j (by simpa[z8u]using hm)).2]
 |oelt j z i o=>obtain⟨b,e1,e2⟩:=h;exact⟨b,by rw[(key j (by simpa[z8u]using hm)).2];exact e1,e2⟩
 |elt t y o=>obtain⟨b,f,cs,e,h1,h2⟩:=h;exact⟨b,f,cs,e,g.1 _ _ h1,Rd.mono g.1 h2⟩
 |dc t xs=>obtain⟨s,e1,e2,h⟩:=h;exact⟨s,e1,e2,Rd.mono g.1 h⟩
theorem DenL.gxS{S:List Nat}{γ γ':Gh}(g:GxS S γ γ'):∀{l:List AA} {us:List Value},zwt S l=true->All2 (DenA γ) l us->All2 (DenA γ') l us
 |[],[],_,_=>trivial
 |[],_::_,_,h=>h.elim
 |_::_,[],_,h=>h.elim
 |x::l,u::us,hm,h=>by
  simp only[zwt]at hm
  cases hx:(match z8u x with
   |[]=>true
   |j::_=>!(memN S j))with
  |false=>rw[hx]at hm;cases hm
  |true=>rw[hx]at hm;exact⟨DenA.gxS g hx h.1,DenL.gxS g hm h.2⟩
theorem DenG.gxS(g:GxS S γ γ'){x:AG}(hm:z0y S x=true)(h:DenG γ x u):DenG γ' x u:=by
 cases x with
 |a x=>
  have:All2 (DenA γ') [x] [u]:=DenL.gxS g hm (show All2 (DenA γ) [x] [u]from⟨h,trivial⟩)
  exact this.1
 |agg l=>obtain⟨us,e,h⟩:=h;exact⟨us,e,DenL.gxS g hm h⟩
theorem DenV.gxS(g:GxS S γ γ'){x:AV}(hm:z5x S x=true)(h:DenV γ x u):DenV γ' x u:=by
 cases x with
 |g x=>exact DenG.gxS g hm h
 |tup l=>
  obtain⟨us,e,h⟩:=h
  refine⟨us,e,?_⟩
  have:∀{l:List AG} {us:List Value},zrz S l=true->All2 (DenG γ) l us->All2 (DenG γ') l us:=by
   intro l
   induction l with
   |nil=>intro us _ h;cases us with
    |nil=>trivial
    |cons _ _=>exact h.elim
   |cons x l ih=>
    intro us hm h
    cases us with
    |nil=>exact h.elim
    |cons u us=>
     simp only[zrz]at hm
     cases hx:z0y S x with
     |false=>rw[hx]at hm;cases hm
     |true=>rw[hx]at hm;exact⟨DenG.gxS g hx h.1,ih hm h.2⟩
  exact this hm h
 |nx b p c=>exact h
def zgh(ms S:List Nat):qo->qo
 |[]=>[]
 |(i,[],v)::e=>bif memN ms i then zgh ms S e else(bif z5x S v then(i,[],v)::zgh ms S e else zgh ms S e)
 |(_,_::_,_)::e=>zgh ms S e
theorem Jq{ms S:List Nat}{γ γ1:Gh}{a a1:Act}(g:GxS S γ γ1)(Z:Same ms a a1):∀{e:qo},(∀x∈e,zkf γ (zl a) x)->∀x∈zgh ms S e,zkf γ1 (zl a1) x
 |[],_,x,hx=>by cases hx
 |(i,[],v)::e,h,x,hx=>by
  have ih:=Jq g Z (e:=e) λx hx=>h x (Ae _ hx)
  simp only[zgh]at hx
  cases hm:memN ms i with
  |true=>rw[hm]at hx;exact ih x hx
  |false=>
   rw[hm]at hx
   simp only[cond_false]at hx
   cases hn:z5x S v with
   |false=>rw[hn]at hx;exact ih x hx
   |true=>
    rw[hn]at hx
    rcases Af.1 hx with rfl|hx
    ·refine⟨λ_=>?_,λaa=>absurd trivial aa⟩
     have:=(h _ Aj).1 trivial
     simp only at this ⊢
     rw[Z _ (wh hm)]
     exact this.gxS g hn
    ·exact ih x hx
 |(_,_::_,_)::e,h,x,hx=>Jq g Z (e:=e) (λx hx=>h x (Ae _ hx)) x hx
def inC(ro:List Nat):CS->CS
 |[]=>[]
 |(c,k)::l=>bif memN ro c then(c,k)::inC ro l else inC ro l
def z5y(ro:List Nat):CS->CS
 |[]=>[]
 |(c,k)::l=>bif memN ro c then z5y ro l else(c,k)::z5y ro l
theorem zjc(ro:List Nat):∀C:CS,(z5y ro C++inC ro C).Perm C
 |[]=>.nil
 |(c,k)::l=>by
  have ih:=zjc ro l
  simp only[inC,z5y]
  cases memN ro c with
  |true=>exact List.perm_middle.trans (ih.cons _)
  |false=>exact ih.cons _
theorem Inv.part(I:Inv h0 W M0 (C++R) γ h)(ro:List Nat):Inv h0 W M0 (z5y ro C++(inC ro C++R)) γ h:=by
 rw[<-AQ]
 exact I.perm ((zjc ro C).symm.append_right R)
abbrev X7:=Exit->qo->CS->Prop
def z90(K:qo->CS->Prop)(Q:X7):X7
 |.normal,e,C=>K e C
 |x,e,C=>Q x e C
def zwu(id:Nat)(Q:X7):X7
 |.exit i,e,C=>bif Nat.beq i id then Q .normal e C else Q (.exit i) e C
 |x,e,C=>Q x e C
def z3h(m:CS)(K:qo->CS->Prop)(Q:X7):X7
 |.normal,e,C=>K e C
 |x,e,C=>Q x e (C++m)
def zcv(pl:PlanA):Code->List Nat
 |.region _ ops _=>yn ops.toList
 |.seq a b=>zcv pl a++(zcv pl b++(match z9z pl.joins (jh b)with
  |some J=>J.ids
  |none=>[]))
 |.cond _ a b=>zcv pl a++zcv pl b
 |.block _ b=>zcv pl b
 |.loop b=>zcv pl b++(match z9z pl.loops (jh b)with
  |some J=>J.ids
  |none=>[])
 |_=>[]
def atA{X:Type}(J:AnnA)(R:CS)(F:ztt (zar J) X)(e:qo)(C:CS)(k:X->Prop):Prop:=
 match xtr J R e C with
 |some ds=>match zeo (zar J) ds F with
  |some q=>k q
  |none=>False
 |none=>False
theorem zpx{X:Type}{J:AnnA}{F:ztt (zar J) X}{e:qo}{k:X->Prop}(h:atA J R F e C k):∃ds q,xtr J R e C=some ds/\zeo (zar J) ds F=some q/\k q:=by
 unfold atA at h
 split at h
 ·rename_i ds hd
  split at h
  ·rename_i q hq;exact⟨ds,q,hd,hq,h⟩
  ·exact h.elim
 ·exact h.elim
def WA(P:Program)(gl:Fr)(tr:TypeId)(n:Nat)(pl:PlanA):Code->CS->X7->qo->CS->Prop
 |.skip,_,Q,e,C=>Q .normal e C
 |.ret,_,Q,e,C=>Q .ret e C
 |.exit id,_,Q,e,C=>Q (.exit id) e C
 |.label _,_,Q,e,C=>Q .normal e C
 |.goto l,_,Q,e,C=>Q (.goto l) e C
 |.region id ops draw,R,Q,e,C=>zpw P gl tr n pl.tails pl.draws id ops draw R (λe C=>Q .normal e C) e C
 |.seq x y,R,Q,e,C=>match z9z pl.joins (jh y)with
  |none=>WA P gl tr n pl x R (z90 (λe C=>WA P gl tr n pl y R Q e C) Q) e C
  |some J=>∀K:ztt (zar J) Prop,zwe (zar J) K (λds q=>WA P gl tr n pl y R Q (z3e J ds++zgh (Zq x) (J.ids++zcv pl x) e) (chJ J ds++inC J.ro C)->q) ->
    WA P gl tr n pl x (inC J.ro C++R) (z3h (inC J.ro C) (λe1 C1=>atA J (inC J.ro C++R) K e1 C1 λq=>q) Q) e (z5y J.ro C)
 |.cond c x y,R,Q,e,C=>match zen e [] c with
  |some v=>match ztn v with
   |some b=>(b=true->WA P gl tr n pl x R Q e C)/\(b=false->WA P gl tr n pl y R Q e C)
   |none=>False
  |none=>False
 |.block id x,R,Q,e,C=>WA P gl tr n pl x R (zwu id Q) e C
 |.loop x,R,Q,e,C=>match z9z pl.loops (jh x)with
  |some J=>∃(I:ztt (zar J) Prop) (μ:ztt (zar J) Nat),atA J (inC J.ro C++R) (zm2 (zar J) I μ) e (z5y J.ro C) (λp=>p.1) /\
    zwe (zar J) (zm2 (zar J) I μ) λds p=>p.1->WA P gl tr n pl x (inC J.ro C++R) (z3h (inC J.ro C) (λe1 C1=>atA J (inC J.ro C++R) (zm2 (zar J) I μ) e1 C1 λq=>q.1/\q.2<p.2) Q)
     (z3e J ds++zgh (Zq x) (J.ids++zcv pl x) e) (chJ J ds)
  |none=>False
 |_,_,_,_,_=>False
def z92(h0:za)(W:Nat->Prop)(M0:Fr)(n:Nat)(B:World)(ms S:List Nat)(a0:Act)(γ0:Gh)(R:CS)(Q:X7):Exit->Act->World->Prop:=
 λx a w=>∃e C γ d h,w=mk B d h/\SatA n e γ a/\Inv h0 W M0 (C++R) γ h/\Same ms a0 a/\GxS S γ0 γ/\Q x e C
theorem zt6{e:qo}{γ0 γ γ1:Gh}{a a1:Act}(hs:SatA n e γ0 a){ms S ids:List Nat}(hd:a1.defers=[])(hz:a1.tmps.size=n)(Z:Same ms a a1)(g:GxS S γ0 γ)(g1:GxS ids γ γ1){J:AnnA}{ds:List Dy}
  (hf:∀x∈z3e J ds,zkf γ1 (zl a1) x):SatA n (z3e J ds++zgh ms (ids++S) e) γ1 a1:=by
 refine⟨hd,hz,λx hx=>?_⟩
 rcases As.1 hx with hx|hx
 ·exact hf x hx
 ·exact Jq ((g.mono λx hx=>Au _ hx).trans (g1.mono λx hx=>Am _ hx)) Z hs.all x hx
theorem z0z(hm:P.follows .mixedOrders=true){gl:Fr}(aH:Fr.le gl M0){tr:TypeId}{pl:PlanA}:∀(c:Code) (R:CS) (Q:X7) (e:qo) (C:CS),WA P gl tr n pl c R Q e C ->
  ∀(γ:Gh) (h:za) (B:World) (d:Nat) (a:Act),SatA n e γ a->Inv h0 W M0 (C++R) γ h->c.wp P (z92 h0 W M0 n B (Zq c) (zcv pl c) a γ R Q) a (mk B d h):=by
 intro c
 induction c with
 |skip=>exact λR Q e C H γ h B d a hs I=>wp_skip ⟨e,C,γ,d,h,rfl,hs,I,Same.refl _ _,GxS.refl _ _,H⟩
 |ret=>exact λR Q e C H γ h B d a hs I=>wp_ret ⟨e,C,γ,d,h,rfl,hs,I,Same.refl _ _,GxS.refl _ _,H⟩
 |exit id=>exact λR Q e C H γ h B d a hs I=>wp_exit ⟨e,C,γ,d,h,rfl,hs,I,Same.refl _ _,GxS.refl _ _,H⟩
 |label l=>exact λR Q e C H γ h B d a hs I=>wp_label ⟨e,C,γ,d,h,rfl,hs,I,Same.refl _ _,GxS.refl _ _,H⟩
 |goto l=>exact λR Q e C H γ h B d a hs I=>wp_goto ⟨e,C,γ,d,h,rfl,hs,I,Same.refl _ _,GxS.refl _ _,H⟩
 |region id ops aI=>
  exact λR Q e C H γ h B d a hs I=>zkq hm aH H B d hs I λe' C' γ' a' d' h' q1 q2 q3 q4 q5=>⟨e',C',γ',d',h',rfl,q1,q2,q3,q4,q5⟩
 |seq x y aa ab=>
  intro R Q e C H γ h B d a hs I
  simp only[WA]at H
  have hl:∀i∈Zq x,i∈Zq (x.seq y):=λi hi=>Am _ hi
  have hr:∀i∈Zq y,i∈Zq (x.seq y):=λi hi=>Au _ hi
  have kl:∀i∈zcv pl x,i∈zcv pl (x.seq y):=λi hi=>Am _ hi
  have kr:∀i∈zcv pl y,i∈zcv pl (x.seq y):=λi hi=>Au _ (Am _ hi)
  split at H
  ·refine wp_seq (wp_mono (aa _ _ _ _ H γ h B d a hs I) ?_)
   rintro ex a1 w1 ⟨e1,C1,γ1,d1,h1,rfl,s1,I1,m1,g1,q1⟩
   cases ex with
   |normal=>
    refine wp_mono (ab _ _ _ _ q1 γ1 h1 B d1 a1 s1 I1) ?_
    rintro ex a2 w2 ⟨e2,C2,γ2,d2,h2,rfl,s2,I2,m2,g2,q2⟩
    exact⟨e2,C2,γ2,d2,h2,rfl,s2,I2,(m1.mono hl).trans (m2.mono hr),(g1.mono kl).trans (g2.mono kr),q2⟩
   |_=>exact⟨e1,C1,γ1,d1,h1,rfl,s1,I1,m1.mono hl,g1.mono kl,q1⟩
  ·rename_i J hJ
   have kJ:∀i∈J.ids,i∈zcv pl (x.seq y):=λi hi=>by
    simp only[zcv,hJ]
    exact Au _ (Au _ hi)
   have H':=H (z9v (zar J) λds=>WA P gl tr n pl y R Q (z3e J ds++zgh (Zq x) (J.ids++zcv pl x) e) (chJ J ds++inC J.ro C)) (zm4 λds hq=>hq)
   refine wp_seq (wp_mono (aa _ _ _ _ H' γ h B d a hs (I.part J.ro)) ?_)
   rintro ex a1 w1 ⟨e1,C1,γ1,d1,h1,rfl,s1,I1,m1,g1,q1⟩
   cases ex with
   |normal=>
    obtain⟨ds,q,hv,hq,hk⟩:=zpx q1
    have ax:=zm3 hq
    subst ax
    obtain⟨ai,ah,af,f1⟩:=zgc hv s1 I1
    have aG:=zt6 hs s1.defers s1.size m1 g1 af f1
    rw[<-AQ]at ah
    refine wp_mono (ab _ _ _ _ hk ai h1 B d1 a1 aG ah) ?_
    rintro ex a2 w2 ⟨e2,C2,γ2,d2,h2,rfl,s2,I2,m2,g2,q2⟩
    exact⟨e2,C2,γ2,d2,h2,rfl,s2,I2,(m1.mono hl).trans (m2.mono hr),((g1.mono kl).trans (af.mono kJ)).trans (g2.mono kr),q2⟩
   |_=>exact⟨e1,C1++inC J.ro C,γ1,d1,h1,rfl,s1,by rw[AQ];exact I1,m1.mono hl,g1.mono kl,q1⟩
 |cond c x y aa ab=>
  intro R Q e C H γ h B d a hs I
  simp only[WA]at H
  have hl:∀i∈Zq x,i∈Zq (Ee c x y):=λi hi=>Am _ hi
  have hr:∀i∈Zq y,i∈Zq (Ee c x y):=λi hi=>Au _ hi
  have kl:∀i∈zcv pl x,i∈zcv pl (Ee c x y):=λi hi=>Am _ hi
  have kr:∀i∈zcv pl y,i∈zcv pl (Ee c x y):=λi hi=>Au _ hi
  split at H
  ·rename_i v hv
   split at H
   ·rename_i b hb
    refine wp_cond_split (zf2 hb (zo hs (c:=[]) trivial hv)) (λaE=>?_) (λaB=>?_)
    ·refine wp_mono (aa _ _ _ _ (H.1 aE) γ h B d a hs I) ?_
     rintro ex a2 w2 ⟨e2,C2,γ2,d2,h2,rfl,s2,I2,m2,g2,q2⟩
     exact⟨e2,C2,γ2,d2,h2,rfl,s2,I2,m2.mono hl,g2.mono kl,q2⟩
    ·refine wp_mono (ab _ _ _ _ (H.2 aB) γ h B d a hs I) ?_
     rintro ex a2 w2 ⟨e2,C2,γ2,d2,h2,rfl,s2,I2,m2,g2,q2⟩
     exact⟨e2,C2,γ2,d2,h2,rfl,s2,I2,m2.mono hr,g2.mono kr,q2⟩
   ·exact H.elim
  ·exact H.elim
 |block id x ih=>
  intro R Q e C H γ h B d a hs I
  refine wp_block (wp_mono (ih _ _ _ _ H γ h B d a hs I) ?_)
  rintro ex a1 w1 ⟨e1,C1,γ1,d1,h1,rfl,s1,I1,m1,g1,q1⟩
  cases ex with
  |exit i=>
   simp only[zwu]at q1
   simp only[Exit.inBlock]
   by_cases hb:Nat.beq i id=true
   ·rw[if_pos (Ag hb)]
    simp only[hb,cond_true]at q1
    exact⟨e1,C1,γ1,d1,h1,rfl,s1,I1,m1,g1,q1⟩
   ·rw[if_neg (λhe=>hb (by rw[he];simp))]
    simp only[hb,cond_false]at q1
    exact⟨e1,C1,γ1,d1,h1,rfl,s1,I1,m1,g1,q1⟩
  |_=>exact⟨e1,C1,γ1,d1,h1,rfl,s1,I1,m1,g1,q1⟩
 |loop x ih=>
  intro R Q e C H γ h B d a hs I
  simp only[WA]at H
  split at H
  ·rename_i J hJ
   have kx:∀i∈zcv pl x,i∈zcv pl (Code.loop x):=λi hi=>Am _ hi
   have kJ:∀i∈J.ids,i∈zcv pl (Code.loop x):=λi hi=>by
    simp only[zcv,hJ]
    exact Au _ hi
   have kS:∀i∈J.ids++zcv pl x,i∈zcv pl (Code.loop x):=λi hi=>by
    rcases As.1 hi with hi|hi
    ·exact kJ i hi
    ·exact kx i hi
   obtain⟨Iv,μ,aF,ae⟩:=H
   obtain⟨aA,p0,aC,ak,az⟩:=zpx aF
   obtain⟨γ0,I0,g0,f0⟩:=zgc aC hs (I.part J.ro)
   refine wp_loop_ghost (λm a1 w1=>∃d1 h1 γ1 ds p,w1=mk B d1 h1/\a1.defers=[]/\a1.tmps.size=n/\Same (Zq x) a a1/\GxS (J.ids++zcv pl x) γ γ1/\Inv h0 W M0 (chJ J ds++(inC J.ro C++R)) γ1 h1/\(∀y∈z3e J ds,zkf γ1 (zl a1) y) /\
     zeo (zar J) ds (zm2 (zar J) Iv μ)=some p/\p.1/\p.2=m) p0.2 ⟨d,h,γ0,aA,p0,rfl,hs.defers,hs.size,Same.refl _ _,g0.mono λi hi=>Am _ hi,I0,f0,ak,az,rfl⟩ ?_
   rintro m a1 w1 ⟨d1,h1,γ1,ds,p,rfl,an,ap,Z,g1,I1,f1,hp,ay,rfl⟩
   have s1:SatA n (z3e J ds++zgh (Zq x) (J.ids++zcv pl x) e) γ1 a1:=⟨an,ap,λy hy=>by
    rcases As.1 hy with hy|hy
    ·exact f1 y hy
    ·exact Jq g1 Z hs.all y hy⟩
   have hb:=zi1 hp ae ay
   refine wp_mono (ih _ _ _ _ hb γ1 h1 B d1 a1 s1 I1) ?_
   rintro ex a2 w2 ⟨e2,C2,γ2,d2,h2,rfl,s2,I2,m2,g2,q2⟩
   cases ex with
   |normal=>
    obtain⟨am,q,aj,hq,ar,au⟩:=zpx q2
    obtain⟨γ3,I3,g3,f3⟩:=zgc aj s2 I2
    exact⟨q.2,au,d2,h2,γ3,am,q,rfl,s2.defers,s2.size,Z.trans m2,(g1.trans (g2.mono λi hi=>Au _ hi)).trans (g3.mono λi hi=>Am _ hi),I3,f3,hq,ar,rfl⟩
   |_=>exact⟨e2,C2++inC J.ro C,γ2,d2,h2,rfl,s2,by rw[AQ];exact I2,Z.trans m2,(g1.mono kS).trans (g2.mono kx),q2⟩
  ·exact H.elim
 |_=>exact λR Q e C H=>H.elim
def zpy:Nat->List Arg->qo
 |_,[]=>[]
 |i,a::l=>(i,[],.g (gOf a.t a.x))::zpy (i+1) l
def zr0(e:qo)(i:Nat):Option AV:=match zke e i with
 |some ([],v)=>some v
 |_=>none
def z00(P:Program)(cs:CS)(e:qo):List ResultVar->(List AV->Prop)->Prop
 |[],K=>K []
 |.tmp t::l,K=>match zr0 e t with
  |some v=>z00 P cs e l λvs=>K (v::vs)
  |none=>False
 |.cell a t::l,K=>match zr0 e a with
  |some (.g (.a aa))=>zto P cs t aa none λv=>z00 P cs e l λvs=>K (v::vs)
  |_=>False
def yy(cs:CS):(l:List Ty)->List AV->Option (Els l)
 |[],[]=>some ()
 |[t],[v]=>zb0 cs t v
 |t::t'::l,v::vs=>match zb0 cs t v,yy cs (t'::l) vs with
  |some x,some y=>some (x,y)
  |_,_=>none
 |_,_=>none
theorem zb9{γ:Gh}{cs:CS}(hf:zzy γ cs):∀{l:List Ty} {vs:List AV} {r:Els l} {us:List Value},yy cs l vs=some r->All2 (DenV γ) vs us->RdL γ.M l r us
 |[],[],r,[],_,_=>rfl
 |[],[],_,_::_,_,h=>h.elim
 |[t],[v],r,[u],h,hd=>⟨u,rfl,zam hf (by simpa[yy]using h) hd.1⟩
 |[t],[v],_,[],_,h=>h.elim
 |[t],[v],_,_::_::_,_,h=>h.2.elim
 |t::t'::l,v::vs,r,[],_,h=>h.elim
 |t::t'::l,v::vs,r,u::us,h,hd=>by
  simp only[yy]at h
  split at h
  ·rename_i x y h1 h2
   simp only[Aa]at h
   subst h
   exact⟨u,us,rfl,zam hf h1 hd.1,zb9 hf h2 hd.2⟩
  ·cases h
 |[],_::_,_,_,h,_=>by simp[yy]at h
 |[t],[],_,_,h,_=>by simp[yy]at h
 |[t],_::_::_,_,_,h,_=>by simp[yy]at h
 |t::t'::l,[],_,_,h,_=>by simp[yy]at h
def qcy(P:Program)(rs:List ResultVar)(rt:List Ty)(R:Els rt->Prop):X7:=λx e C=>match x with
 |.normal=>z00 P C e rs λvs=>match yy (frzL (J3 vs) C) rt vs with
  |some r=>R r
  |none=>False
 |.ret=>z00 P C e rs λvs=>match yy (frzL (J3 vs) C) rt vs with
  |some r=>R r
  |none=>False
 |_=>False
theorem zdg{P:Program}{n:Nat}{C:CS}{e:qo}{γ:Gh}{a:Act}{h:za}(hs:SatA n e γ a)(I:Inv h0 W M0 C γ h):∀{l:List ResultVar} {K:List AV->Prop},z00 P C e l K->∃vs us,K vs/\All2 (DenV γ) vs us/\us.length=l.length/\QExec P (l.mapM (zf0 a.tmps)) h us
 |[],K,H=>⟨[],[],H,trivial,rfl,λ_ _=>by simp⟩
 |.tmp t::l,K,H=>by
  simp only[z00]at H
  split at H
  ·rename_i v hv
   obtain⟨vs,us,h1,h2,h3,h4⟩:=zdg hs I H
   have hd:DenV γ v (zl a t):=by
    unfold zr0 at hv
    split at hv
    ·rename_i u hl
     simp only[Aa]at hv
     subst hv
     exact(hs.all _ (x6 hl)).1 trivial
    ·cases hv
   refine⟨v::vs,zl a t::us,h1,⟨hd,h2⟩,by simp[h3],?_⟩
   rw[Ea]
   exact QExec.bind (x:=zl a t) (QExec.pure _) (h4.bind (QExec.pure _))
  ·exact H.elim
 |.cell x t::l,K,H=>by
  simp only[z00]at H
  split at H
  ·rename_i aa hp
   obtain⟨v,hK,hq⟩:=zf4 (h0:=h0) (W:=W) (M0:=M0) H
   obtain⟨vs,us,h1,h2,h3,h4⟩:=zdg hs I hK
   have hd:DenA γ aa (zl a x):=by
    unfold zr0 at hp
    split at hp
    ·rename_i u hl
     simp only[Aa]at hp
     subst hp
     exact(hs.all _ (x6 hl)).1 trivial
    ·cases hp
   obtain⟨u,hu,ab⟩:=hq trivial γ h _ I hd
   refine⟨v::vs,u::us,h1,⟨hu,h2⟩,by simp[h3],?_⟩
   rw[Ea]
   refine QExec.bind (x:=u) ?_ (h4.bind (QExec.pure _))
   have ae:∃p,zl a x=.pointer (some p):=by
    have no:∀aa,(∀k,z0j C k aa=none)->(∀c z i o,aa≠.oelt c z i o)->DenA γ aa (zl a x)->zto P C t aa none (λv=>z00 P C e l λvs=>K (v::vs))->False:=by
     intro aa hn af _ hl
     unfold zto at hl
     split at hl
     ·split at hl
      ·exact af _ _ _ _ rfl
      ·rw[hn]at hl;exact hl
     ·exact hl
    cases aa with
    |box c o=>exact⟨_,hd⟩
    |oelt c z i o=>obtain⟨g,_,e⟩:=hd;exact⟨_,e⟩
    |elt t y o=>obtain⟨b,f,cs,e,_⟩:=hd;exact⟨_,e⟩
    |v y=>exact(no _ (λ_=>rfl) (by simp) hd H).elim
    |d t y=>exact(no _ (λ_=>rfl) (by simp) hd H).elim
    |own c=>exact(no _ (λ_=>rfl) (by simp) hd H).elim
    |dc t y=>exact(no _ (λ_=>rfl) (by simp) hd H).elim
   obtain⟨p,Z⟩:=ae
   rw[Z]at ab
   have e3:a.tmps.getD x undef=.pointer (some p):=Z
   simp only[zf0,e3]
   exact ab
  ·exact H.elim
theorem zne{fn:Func}{rs:List ResultVar}(hr:fn.results.toList=rs){us:List Value}(hl:us.length=rs.length)(hq:QExec P (rs.mapM (zf0 a.tmps)) h us):QExec P (results fn a.tmps) h (zc3 us):=by
 intro B d
 have e0:results fn a.tmps=(fn.results.mapM (zf0 a.tmps) >>= λvs=>Da (if h:vs.size=1 then vs[0]else .tuple vs)):=by
  unfold results
  congr 1
 rw[e0,Array.mapM_eq_mapM_toList,hr,Sem.run_bind,Sem.run_map,hq B d]
 simp only[Result.andThen_ok,Sem.run_pure]
 match us,hl with
 |[],_=>rfl
 |[v],_=>rfl
 |v::u::vs,_=>simp[zc3]
theorem zgi{γ:Gh}{σ:Nat->Value}:∀{l:List Arg} {i:Nat} {us:List Value},Wt γ.M l us->(∀j v,us[j]?=some v->σ (i+j)=v)->∀x∈zpy i l,zkf γ σ x
 |[],_,_,_,_,x,hx=>by cases hx
 |a::l,i,[],h,_,x,hx=>h.elim
 |a::l,i,u::us,h,hσ,x,hx=>by
  simp only[zpy,Af]at hx
  rcases hx with rfl|hx
  ·refine⟨λ_=>?_,λhn=>absurd trivial hn⟩
   have:=hσ 0 u rfl
   simp only at this ⊢
   rw[show σ i=u from this]
   exact zpj h.1
  ·exact zgi h.2 (λj v hj=>by have:=hσ (j+1) v (by simpa using hj);rwa[show i+(j+1)=i+1+j by omega]at this) x hx
theorem zt7(hm:P.follows .mixedOrders=true)(gl:Fr)(tr:TypeId)(pl:PlanA)(args:List Arg){fn:Func}{rs:List ResultVar}{rt:List Ty}(hf:P.funcs[f]?=some fn)(hb:Z9 fn=true)(hr:fn.results.toList=rs)(hn:fn.ntmps=n)
  (hz:Nat.ble args.length n=true) {R:Els rt->Prop} (H:WA P gl tr n pl (codeOf fn) [] (qcy P rs rt R) (zpy 0 args) []):PC P gl f args rt R:=by
 intro h M vs aj ah Z B d
 subst hn
 have af:fn.body=some (codeOf fn):=by
  unfold Z9 at hb
  unfold codeOf
  split at hb
  ·rename_i c hc;rw[hc]
  ·cases hb
 refine calls_of_wp hf af ?_
 have ab:vs.length=args.length:=(All2.length Z).symm
 have ak:vs.length<=fn.ntmps:=by rw[ab];exact BG hz
 let γ:Gh:=⟨M,λ_=>0,λ_=>⟨none,0,0⟩⟩
 have I:Inv h (λ_=>False) M ([]++[]) γ h:={ ag:=ah,frame:=λ_ _ _=>rfl,size:=Ad _,old:=λ_ _=>rfl,le:=Fr.le.refl _,den:=λx hx=>(by cases hx),sep:=λx hx=>(by cases hx),apart:=List.Pairwise.nil }
 have hs:SatA fn.ntmps (zpy 0 args) γ { tmps:=vs.toArray++Ba (fn.ntmps-vs.toArray.size) undef,defers:=[] }:=by
  refine⟨rfl,by simp;omega,zgi Z λj v hj=>?_⟩
  have ae:j<vs.length:=(Av.1 hj).1
  simp only[Ay,zl,A7]
  rw[Ck (by simpa using ae)]
  simp[hj]
 have aa:∀(e:qo) (C:CS) (γ':Gh) (h':za) (a:Act),SatA fn.ntmps e γ' a->Inv h (λ_=>False) M (C++[]) γ' h'->(z00 P C e rs λvs=>match yy (frzL (J3 vs) C) rt vs with|some r=>R r|none=>False) ->
   ∃v,QExec P (results fn a.tmps) h' v/\Keep h.size h h'/\∃M' r,Fr.le M M'/\(∀b,b<h.size->M' b=M b)/\AgM M' h'/\zcu M' rt r v/\R r:=by
  intro e C γ' h' a s1 I1 q
  rw[AW]at I1
  obtain⟨ai,us,hK,hd,hl,hq⟩:=zdg s1 I1 q
  split at hK
  ·rename_i r hc
   obtain⟨γ2,I2,g2⟩:=Inv.frzL (C:=C) (R:=[]) (γ:=γ') (J3 ai) (by simpa using I1)
   rw[AW]at I2
   refine⟨zc3 us,zne hr hl hq,⟨I2.size,λi hi=>I2.frame i hi (λh=>h)⟩,γ2.M,r,I2.le,I2.old,I2.ag,⟨us,zb9 I2.fz hc (hd.imp λv _ u hu=>hu.gx g2 rfl),rfl⟩,hK⟩
  ·exact hK.elim
 refine wp_mono (z0z hm aj _ _ _ _ _ H γ h B d _ hs I) ?_
 rintro ex a w ⟨e1,C1,γ1,d1,h1,rfl,s1,I1,m1,g1,q1⟩
 cases ex with
 |normal=>
  obtain⟨v,hq,k,rest⟩:=aa e1 C1 γ1 h1 a s1 I1 q1
  exact⟨s1.defers,v,hq B d1,v,d1,h1,rfl,rfl,k,rest⟩
 |ret=>
  obtain⟨v,hq,k,rest⟩:=aa e1 C1 γ1 h1 a s1 I1 q1
  exact⟨s1.defers,v,hq B d1,v,d1,h1,rfl,rfl,k,rest⟩
 |_=>exact q1.elim
theorem zt8(hm:P.follows .mixedOrders=true)(gl:Fr)(tr:TypeId)(pl:PlanA)(args:List Arg){fn:Func}{rs:List ResultVar}{rt:List Ty}(hf:P.funcs[f]?=some fn)(hb:Z9 fn=true)(hr:fn.results.toList=rs)(hn:fn.ntmps=n)
  (hz:Nat.ble args.length n=true) {R:Els rt->Prop} {F:Prop} (H:F) (e:F=WA P gl tr n pl (codeOf fn) [] (qcy P rs rt R) (zpy 0 args) []):PC P gl f args rt R:=
 zt7 hm gl tr pl args hf hb hr hn hz (e ▸ H)
end
end Go.X
end
section
namespace Go.X
open Go Go.RowKit
section
variable {P:Program} {f:FuncId} {h:za} {M gl:Fr} {v:Value} {us:List Value}
theorem XC.of_calls{args:Array Value}{R:Value->za->Prop}
  (H:∀B d,Calls P f args (mk B d h) λe w'=>∃v,e=.returned v/\w'.os=B.os/\w'.tape=B.tape/\w'.output=B.output/\R v w'.heap):XC P f args h R:=by
 intro B d
 refine(H B d).mono ?_
 rintro e w' ⟨v,rfl,h1,h2,h3,h4⟩
 refine⟨v,w'.drawn,w'.heap,rfl,?_,h4⟩
 cases w';simp only[mk]at *;subst h1;subst h2;subst h3;rfl
theorem AgM.keep{h h':za}(ag:AgM M h)(k:Keep h.size h h'):AgM M h':=λb c e=>by
 obtain⟨T,m,e'⟩:=ag b c e
 exact⟨T,m,by rw[k.get b (ag.lt e)];exact e'⟩
def zt9:Arg->Option Value
 |⟨.int k,x⟩=>some (.int k x)
 |⟨.bool,x⟩=>some (.bool x)
 |⟨.str,x⟩=>some (.string x)
 |_=>none
def zeh:List Arg->Option (List Value)
 |[]=>some []
 |a::l=>match zt9 a,zeh l with
  |some v,some vs=>some (v::vs)
  |_,_=>none
theorem z01{a:Arg}{v u:Value}(h:zt9 a=some v)(hd:RdV M a.t a.x u):u=v:=by
 obtain⟨t,x⟩:=a
 cases t with
 |int k=>simp only[zt9,Aa]at h;subst h;simpa[RdV,Rd,zhf]using hd
 |bool=>simp only[zt9,Aa]at h;subst h;simpa[RdV,Rd,zhf]using hd
 |str=>simp only[zt9,Aa]at h;subst h;simpa[RdV,Rd,zhf]using hd
 |_=>simp[zt9]at h
theorem zca{M:Fr}:∀{l:List Arg} {vs us:List Value},zeh l=some vs->Wt M l us->us=vs
 |[],vs,us,h,hd=>by
  simp only[zeh,Aa]at h;subst h
  cases us with
  |nil=>rfl
  |cons _ _=>exact hd.elim
 |a::l,vs,us,h,hd=>by
  simp only[zeh]at h
  split at h
  ·rename_i v Z h1 h2
   simp only[Aa]at h;subst h
   cases us with
   |nil=>exact hd.elim
   |cons u us=>rw[z01 h1 hd.1,zca h2 hd.2]
  ·cases h
theorem PC.of_scal{args:List Arg}{rt:List Ty}{R:Els rt->Prop}(aa:zeh args=some us){r:Els rt}(hv:∀M,zcu M rt r v)(hR:R r)
  (H:∀w:World,AgM gl w.heap->Calls P f us.toArray w λe w'=>e=.returned v/\Below w.heap.size w w'):PC P gl f args rt R:=by
 intro h M vs hM ag ha
 rw[zca aa ha]
 refine XC.of_calls λB d=>(H (mk B d h) λb c e=>ag b c (hM b c e)).mono ?_
 rintro e w' ⟨rfl,Z⟩
 have k:Keep h.size h w'.heap:=⟨Z.size,Z.block⟩
 exact⟨v,rfl,Z.os,Z.tape,Z.output,k,M,r,Fr.le.refl _,λ_ _=>rfl,ag.keep k,hv M,hR⟩
theorem PC.of_same{args:List Arg}{rt:List Ty}{R:Els rt->Prop}(Z:zeh args=some us){r:Els rt}(hv:∀M,zcu M rt r v)(hR:R r)
  (H:∀w:World,AgM gl w.heap->Calls P f us.toArray w λe w'=>e=.returned v/\w'=w):PC P gl f args rt R:=
 PC.of_scal Z hv hR λw hw=>(H w hw).mono λe w' ⟨h1,h2⟩=>⟨h1,h2 ▸ Below.refl _ _⟩
theorem zpz(k:IntKind)(i:Int):zcu M [.int k] i (.int k i):=⟨[_],⟨_,rfl,rfl⟩,rfl⟩
theorem zr1(b:Bool):zcu M [.bool] b (.bool b):=⟨[_],⟨_,rfl,rfl⟩,rfl⟩
theorem zgj(s:Bt):zcu M [.str] s (.string s):=⟨[_],⟨_,rfl,rfl⟩,rfl⟩
theorem AgM.glob{w:World}(ag:AgM gl w.heap){b o:Nat}{cs:Array Value}(hb:gl b=some cs)(ho:cs[o]?=some v):w.cell? ⟨b,o,Option.none⟩=some v:=by
 obtain⟨T,m,e⟩:=ag b cs hb
 simp[World.cell?,e,ho]
theorem zei{xs:List Bt}{cells:List Value}(H:RowC M .str xs cells):cells=xs.map Cv:=by
 obtain⟨h1,h2⟩:=H
 simp only[sz,Dc]at h1 h2
 refine List.ext_getElem (by simp[h1]) λi hi hj=>?_
 have hx:i<xs.length:=by omega
 have:=h2 i hx
 have e:(cells.drop i).take 1=[cells[i]]:=by rw[AF hi];rfl
 rw[e]at this
 have:=show[cells[i]]=[Cv xs[i]]from this
 simpa using this
theorem PC.of_ex{args:List Arg}{rt:List Ty}{R:Els rt->Prop}(aa:zeh args=some us)
  (H:∀w:World,AgM gl w.heap->Calls P f us.toArray w λe w'=>∃v r,e=.returned v/\(∀M,zcu M rt r v)/\R r/\Below w.heap.size w w'):PC P gl f args rt R:=by
 intro h M vs hM ag ha
 rw[zca aa ha]
 refine XC.of_calls λB d=>(H (mk B d h) λb c e=>ag b c (hM b c e)).mono ?_
 rintro e w' ⟨v,r,rfl,hv,hR,Z⟩
 have k:Keep h.size h w'.heap:=⟨Z.size,Z.block⟩
 exact⟨v,rfl,Z.os,Z.tape,Z.output,k,M,r,Fr.le.refl _,λ_ _=>rfl,ag.keep k,hv M,hR⟩
end
section
variable {P:Program} {gl M:Fr} {f:FuncId} {h h':za} {vs cs:List Value} {K:Value -> za -> Prop} {t:Ty} {u v:Value} {i:Int} {s:Sl} {k:Nat}
def PX(P:Program)(f:FuncId)(vs:Array Value)(h:za)(M:Fr)(rt:List Ty)(R:Els rt->Prop):Prop:=
 XC P f vs h λv h'=>Keep h.size h h'/\∃M' r,Fr.le M M'/\(∀b,b<h.size->M' b=M b)/\AgM M' h'/\zcu M' rt r v/\R r
theorem PC.px{args:List Arg}{rt:List Ty}{R:Els rt->Prop}(H:PC P gl f args rt R)(hM:Fr.le gl M)(ag:AgM M h)(ha:Wt M args vs):PX P f vs.toArray h M rt R:=H h M vs hM ag ha
structure Later (h:za) (M:Fr) (h':za) (M':Fr):Prop where
 keep:Keep h.size h h'
 le:Fr.le M M'
 old:∀b,b<h.size->M' b=M b
 ag:AgM M' h'
theorem Later.refl(ag:AgM M h):Later h M h M:=⟨Keep.refl _ _,Fr.le.refl _,λ_ _=>rfl,ag⟩
theorem Later.trans{h h' aa:za}{M M' Z:Fr}(a:Later h M h' M')(b:Later h' M' aa Z):Later h M aa Z:=
 ⟨a.keep.trans b.keep a.keep.size,a.le.trans b.le,λx hx=>(b.old x (by have:=a.keep.size;omega)).trans (a.old x hx),b.ag⟩
theorem Later.same(ag:AgM M h)(k:Keep h.size h h'):Later h M h' M:=⟨k,Fr.le.refl _,λ_ _=>rfl,ag.keep k⟩
theorem Later.push(ag:AgM M h)(o:Obj):Later h M (h.push o) M:=Later.same ag (Keep.push _ _ (Ad _))
theorem PX.go{vs:Array Value}{rt:List Ty}{R:Els rt->Prop}(H:PX P f vs h M rt R)(hK:∀v h' M' r,Later h M h' M'->zcu M' rt r v->R r->K v h'):XC P f vs h K:=
 XC.mono H λv h' ⟨k,M',r,e1,e2,e3,e4,e5⟩=>hK v h' M' r ⟨k,e1,e2,e3⟩ e4 e5
theorem PX.of{vs:Array Value}{rt:List Ty}{R:Els rt->Prop}(H:XC P f vs h λv h'=>∃M' r,Later h M h' M'/\zcu M' rt r v/\R r):PX P f vs h M rt R:=
 XC.mono H λv h' ⟨M',r,l,e4,e5⟩=>⟨l.keep,M',r,l.le,l.old,l.ag,e4,e5⟩
theorem PC.go{args:List Arg}{rt:List Ty}{R:Els rt->Prop}(H:PC P gl f args rt R)(hM:Fr.le gl M)(ag:AgM M h)(ha:Wt M args vs)
  (hK:∀v h' M' r,Later h M h' M'->zcu M' rt r v->R r->K v h'):XC P f vs.toArray h K:=(H.px hM ag ha).go hK
theorem zp0{x:El t}(ht:zhf t=false):RdV M t x u↔Rd M t x [u]:=by unfold RdV;rw[ht];simp
theorem zjd{x:El t}:zcu M [t] x v↔RdV M t x v:=by
 constructor
 ·rintro⟨us,⟨u,rfl,h⟩,rfl⟩;exact h
 ·intro h;exact⟨[v],⟨v,rfl,h⟩,rfl⟩
theorem zr2{b:Bool}(h:zcu M [.bool] b v):v=.bool b:=by
 have:=zjd.1 h
 rw[zp0 rfl]at this
 simpa[Rd]using this
theorem qb6{k:IntKind}(h:zcu M [.int k] i v):v=.int k i:=by
 have:=zjd.1 h
 rw[zp0 rfl]at this
 simpa[Rd]using this
theorem qcz{s:Bt}(h:zcu M [.str] s v):v=.string s:=by
 have:=zjd.1 h
 rw[zp0 rfl]at this
 simpa[Rd]using this
theorem xb:Wt M [] []:=trivial
theorem jc{a:Arg}{l:List Arg}{us:List Value}(h:RdV M a.t a.x u)(hl:Wt M l us):Wt M (a::l) (u::us):=⟨h,hl⟩
theorem rdStr(s:Bt):RdV M .str s (.string s):=by rw[zp0 rfl];rfl
theorem Xv(k:IntKind)(i:Int):RdV M (.int k) i (.int k i):=by rw[zp0 rfl];rfl
theorem rdBool(b:Bool):RdV M .bool b (.bool b):=by rw[zp0 rfl];rfl
theorem Xq{s:Bt}(h:RdV M .str s u):u=.string s:=by rw[zp0 rfl]at h;simpa[Rd]using h
theorem yo{k:IntKind}(h:RdV M (.int k) i u):u=.int k i:=by rw[zp0 rfl]at h;simpa[Rd]using h
theorem Yp{v:Tr}(h:RdV M .tree v u):∃sk si:Sl,u=.agg #[.int .i64 v.kind,.string v.text,slV sk,slV si]/\Rd M (.row .str) v.keys [slV sk]/\Rd M (.row .tree) v.items [slV si]:=by
 unfold RdV at h
 simp only[zhf,if_true]at h
 obtain⟨cs,rfl,hr⟩:=h
 obtain⟨vk,vi,rfl,h1,h2⟩:=TrRd.keys hr
 have aa:=h1;have Z:=h2
 obtain⟨w1,e1,a1,c1,q1,_⟩:=aa
 obtain⟨w2,e2,a2,c2,q2,_⟩:=Z
 simp only[Bu,and_true]at e1 e2
 subst e1;subst e2;subst q1;subst q2
 exact⟨⟨a1,v.keys.length,c1⟩,⟨a2,v.items.length,c2⟩,rfl,h1,h2⟩
theorem Wx{v:Tr}{sk si:Sl}(h1:Rd M (.row .str) v.keys [slV sk])(h2:Rd M (.row .tree) v.items [slV si]):RdV M .tree v (.agg #[.int .i64 v.kind,.string v.text,slV sk,slV si]):=by
 unfold RdV
 simp only[zhf,if_true]
 exact⟨[.int .i64 v.kind,.string v.text,slV sk,slV si],rfl,by cases v;exact TrRd.of h1 h2⟩
theorem z5z{xs:List (El t)}(h:RdV M (.row t) xs u):∃s:Sl,u=slV s/\Rd M (.row t) xs [slV s]:=by
 rw[zp0 rfl]at h
 have h':=h
 obtain⟨w,e,a,c,q,_⟩:=h'
 simp only[Bu,and_true]at e
 subst e;subst q
 exact⟨⟨a,xs.length,c⟩,rfl,h⟩
theorem rowLen{xs:List (El t)}(h:Rd M (.row t) xs [slV s]):s.len=xs.length/\xs.length<=140737488355328/\xs.length<=s.cap:=by
 obtain⟨w,e,a,c,q,hn,_⟩:=h
 simp only[Bu,and_true]at e
 subst e
 simp only[slV,AP]at q
 obtain⟨_,h2,h3⟩:=q
 exact⟨h2,hn.1,by rw[h3];exact hn.2⟩
theorem rowAt{xs:List (El t)}(h:Rd M (.row t) xs [slV s])(hk:k<xs.length):∃b o cs,s.a=some ⟨b,o,none⟩/\M b=some cs/\Rd M t xs[k] (cut cs (o+k*sz t) (sz t)):=by
 obtain⟨w,e,a,c,q,hn,hx⟩:=h
 simp only[Bu,and_true]at e
 subst e
 simp only[slV,AP]at q
 obtain⟨h1,h2,h3⟩:=q
 rcases hx with rfl|⟨b,o,cs,e1,e2,e3⟩
 ·simp at hk
 ·exact⟨b,o,cs,by rw[h1,e1],e2,e3 k hk⟩
theorem zwv{M:Fr}{h:za}(ag:AgM M h){b:Nat}{cs:Array Value}(hM:M b=some cs):∀{vs:List Value} {o i:Nat},cut cs (o+i) vs.length=vs->ze h ⟨b,o,none⟩ i vs
 |[],_,_,_=>trivial
 |v::vs,o,i,e=>by
  unfold cut at e
  have Z:o+i<cs.toList.length:=by
   rcases AR (o+i) cs.toList.length with hh|hh
   ·exact hh
   ·rw[Bj hh]at e;simp at e
  rw[AF Z,Aw,Be]at e
  injection e with e1 e2
  refine⟨?_,zwv ag hM (i:=i+1) e2⟩
  rw[zq]
  refine ag.cell hM ?_
  rw[AI (by simpa using Z),<-e1];simp
theorem zww(ag:AgM M h){b:Nat}{cs:Array Value}(hM:M b=some cs){o:Nat}(e:cut cs o 1=[v]):zd h ⟨b,o,none⟩=some v:=by
 have:=zwv (vs:=[v]) (o:=o) (i:=0) ag hM (by simpa using e)
 exact this.1
theorem qn(b o n:Nat):(⟨b,o,none⟩:Addr).add n=⟨b,o+n,none⟩:=zq b o n
theorem z6a(ag:AgM M h){xs:List Bt}(H:Rd M (.row .str) xs [slV s])(hk:k<xs.length)(hi:i=(k:Int)){L:Nat}(hL:L=s.len){Q:Bt->Prop}(hQ:Q xs[k]):
  ∃a:Addr,(s.a=some a/\0<=i/\i<(L:Int))/\∃x:Bt,zd h (a.add (i.toNat*1))=some (.string x)/\Q x:=by
 obtain⟨b,o,cs,e1,e2,e3⟩:=rowAt H hk
 have hl:=(rowLen H).1
 refine⟨_,⟨e1,by omega,by omega⟩,xs[k],?_,hQ⟩
 rw[qn,hi,Ah]
 exact zww ag e2 e3
theorem z3i(ag:AgM M h){xs:List Tr}(H:Rd M (.row .tree) xs [slV s])(hk:k<xs.length):∃(a:Addr) (sk si:Sl),s.a=some a/\ze h (a.add (k*4)) 0 [.int .i64 xs[k].kind,.string xs[k].text,slV sk,slV si]/\Rd M (.row .str) xs[k].keys [slV sk]/\Rd M (.row .tree) xs[k].items [slV si]:=by
 obtain⟨b,o,cs,e1,e2,e3⟩:=rowAt H hk
 have e4:RdV M .tree xs[k] (.agg (cut cs (o+k*sz .tree) (sz .tree)).toArray):=by
  unfold RdV;simp only[zhf,if_true];exact⟨_,rfl,e3⟩
 obtain⟨sk,si,q,h1,h2⟩:=Yp e4
 refine⟨_,sk,si,e1,?_,h1,h2⟩
 rw[qn]
 refine zwv ag e2 (i:=0) ?_
 have:(cut cs (o+k*sz .tree) (sz .tree))=[.int .i64 xs[k].kind,.string xs[k].text,slV sk,slV si]:=by
  injection q with q
  exact congrArg Array.toList q
 exact this
def Mx(M:Fr)(b:Nat)(cs:Array Value):Fr:=λi=>if i=b then some cs else M i
theorem Later.frz(ag:AgM M h)(cs:Array Value)(T:TypeId):Later h M (h.push (.cells cs T)) (Mx M h.size cs) where
 keep:=Keep.push _ _ (Ad _)
 le:=λb c e=>by
  have:=ag.lt e
  unfold Mx;rw[if_neg (by omega)];exact e
 old:=λb hb=>by unfold Mx;rw[if_neg (by omega)]
 ag:=λb c e=>by
  unfold Mx at e
  split at e
  ·rename_i hb
   subst hb
   cases e
   exact⟨T,(0,0),j5 _ _⟩
  ·obtain⟨T',m,e'⟩:=ag b c e
   exact⟨T',m,by rw[(Keep.push h _ (Ad _)).get b (ag.lt e)];exact e'⟩
theorem zwx(M:Fr)(b:Nat)(cs:Array Value):Mx M b cs b=some cs:=by unfold Mx;rw[if_pos rfl]
theorem z6b{T:TypeId}(k:Keep (h.size+1) (h.push (.cells cs.toArray T)) h'):ze h' ⟨h.size,0,none⟩ 0 cs:=
 ((Blk.new h cs.toArray T).keep (k.get _ (by omega))).ld
theorem z6c{T:TypeId}(k:Keep (h.size+1) (h.push (.cells cs.toArray T)) h'){i:Nat}(hv:cs[i]?=some v):zd h' ((⟨h.size,0,none⟩:Addr).add i)=some v:=by
 have:=((Blk.new h cs.toArray T).keep (k.get _ (by omega)))
 exact this.cellAdd (o:=0) (by simpa using hv)
end
end Go.X
end
section
namespace Go.X
open Go Go.ChangeShapes Go.WideShapes Go.RowKit
set_option linter.unusedVariables false
section
variable {a:Addr} {v:Value} {cs:List Value} {fuel:Nat} {t e:TypeId} {P:Program}
def Fz(W:World):Fr:=λb=>match W.heap[b]? with|some (.cells cs _ _)=>some cs|_=>none
theorem Fz.ag(W:World):AgM (Fz W) W.heap:=by
 intro b c e
 unfold Fz at e
 split at e
 ·rename_i cs T m hh;cases e;exact⟨T,m,hh⟩
 ·cases e
theorem Fz.cell{W:World}(h:W.cell? a=some v):∃b o c,a=⟨b,o,none⟩/\Fz W b=some c/\c[o]?=some v:=by
 obtain⟨b,o,sp⟩:=a
 unfold World.cell? at h
 split at h
 ·rename_i c T m hh
  cases sp with
  |some x=>simp at h
  |none=>
   refine⟨b,o,c,rfl,?_,by simpa using h⟩
   unfold Fz
   change W.heap[b]?=_ at hh
   rw[hh]
 ·cases h
theorem Fz.cells{W:World}{n:Nat}(h:W.cells? 0 a n=some cs)(hn:0<n):∃b o c,a=⟨b,o,none⟩/\Fz W b=some c/\cut c o n=cs:=by
 obtain⟨_,hl,hc⟩:=World.cells?_some h
 have h0:=hc 0 hn
 rw[Ai (by omega)]at h0
 obtain⟨b,o,c,e,hb,_⟩:=Fz.cell h0
 obtain⟨ab,ao,sp⟩:=a
 rw[show Al ⟨ab,ao,sp⟩ 0=⟨ab,ao,sp⟩from rfl]at e
 cases e
 refine⟨b,o,c,rfl,hb,?_⟩
 have Z:∀i,i<n->c[o+i]?=cs[i]?:=λi hi=>by
  have h1:=hc i hi
  rw[Ai (by omega)]at h1 ⊢
  obtain⟨b2,o2,c2,e2,aa,h2⟩:=Fz.cell h1
  rw[zq]at e2
  cases e2
  rw[hb]at aa;cases aa
  exact h2
 unfold cut
 apply Bm
 intro i
 by_cases hi:i<n
 ·rw[Az,if_pos hi,AE,<-Z i hi];simp
 ·rw[Az,if_neg hi,BH (by omega)]
theorem z6d{α:Type}{Q:Nat->α->Prop}(n:Nat)(h:∀i,i<n->∃z,Q i z):∃xs:List α,xs.length=n/\∀i (hi:i<xs.length),Q i xs[i]:=by
 refine⟨List.ofFn λi:Fin n=>Classical.choose (h i i.2),by simp,λi hi=>?_⟩
 rw[List.getElem_ofFn]
 exact Classical.choose_spec (h i (by simpa using hi))
section
variable {H : Type} {enc : TypeId × Value -> H} {P : Program} {W : World} {sp : Nat -> Bool} {held : Bool}
def zwy(P:Program)(t:TypeId)(d:DataW H):Prop:=∀n∈d.weights P t,n<=reachBytes
theorem zgk{e:TypeId}{y:DataW H}:∀{l:List (DataW H)},y∈l->∀n∈y.weights P e,n∈DataW.weightsAll P e l
 |x::l,hy,n,hn=>by
  unfold DataW.weightsAll
  rcases Af.1 hy with rfl|hy
  ·exact Am _ hn
  ·exact Au _ (zgk hy n hn)
theorem z94{T : Ty}{x : DataW H × List MemPlace}(ht : P.underlying t = some (.slice e))(hz : P.cellsOf e = sz T)(hp : 0 < sz T)(hby : 0 < P.bytesOf e)
    (hel : ∀ n, n < fuel -> ∀ cs y, DataW.trod enc P W 0 sp held n e cs = some y -> zwy P e y.1 -> ∃ z : El T, Rd (Fz W) T z cs)
    (h : DataW.trod enc P W 0 sp held fuel t cs = some x) (hw : zwy P t x.1) : ∃ xs : List (El T), Rd (Fz W) (.row T) xs cs := by
  rcases DataW.trod_slice ht h with ⟨rfl, _⟩ | ⟨a, len, cap, elems, rest, n, rfl, rfl, hx, _, hlc, hcap, hlen, hi, _, _⟩
  · exact ⟨[], _, rfl, none, 0, rfl, ⟨by simp, by simp⟩, .inl rfl⟩
  · have hwt : ∀ m, m = (elems.length + rest.length) * P.bytesOf e \/ m ∈ DataW.weightsAll P e (elems.map (·.1)) -> m <= reachBytes := λm hm => hw m (by
      rw [hx]
      unfold DataW.weights
      rw [ht]
      simp only [Af, As, A0]
      rcases hm with hm | hm
      · exact .inl hm
      · exact .inr (.inl hm))
    have hmax : len <= 140737488355328 := by
      have h1 := hwt _ (.inl rfl)
      have h2 : elems.length + rest.length <= (elems.length + rest.length) * P.bytesOf e := Dj _ hby
      have h3 : reachBytes <= 140737488355328 := by decide
      omega
    have key : ∀ i, i < len -> ∃ z : El T, ∃ b o c, a.add (i * sz T) = ⟨b, o, none⟩ /\ Fz W b = some c /\ Rd (Fz W) T z (cut c o (sz T)) := λi hil => by
      have h1 := hi i hil
      rw [Ai (by omega), Option.bind_eq_some_iff] at h1
      obtain ⟨cc, h2, h3⟩ := h1
      rw [hz] at h2
      obtain ⟨b, o, c, e1, e2, e3⟩ := Fz.cells h2 hp
      obtain ⟨z, hz⟩ := hel n (by omega) _ _ h3 λm hm => hwt m (.inr (zgk (En.2 ⟨elems[i], AL (by omega), rfl⟩) m hm))
      exact ⟨z, b, o, c, e1, e2, by rw [e3]; exact hz⟩
    obtain ⟨xs, hxl, hxs⟩ := z6d len key
    subst hxl
    refine ⟨xs, _, rfl, some a, cap, rfl, ⟨by omega, hlc⟩, ?_⟩
    by_cases h0 : xs.length = 0
    · exact .inl (AJ h0)
    · obtain ⟨b, o, c, e1, e2, _⟩ := hxs 0 (by omega)
      obtain ⟨ab, ao, asp⟩ := a
      rw [Db, show Al ⟨ab, ao, asp⟩ 0 = ⟨ab, ao, asp⟩ from rfl] at e1
      cases e1
      refine .inr ⟨b, o, c, rfl, e2, λi hil => ?_⟩
      obtain ⟨b', o', c', e1', e2', e3'⟩ := hxs i hil
      rw [zq] at e1'
      cases e1'
      rw [e2] at e2'; cases e2'
      simpa using e3'
theorem z96{x:DataW H×List MemPlace}(ht:P.underlying t=some .string)(h:DataW.trod enc P W 0 sp held fuel t cs=some x):∃s:El .str,Rd (Fz W) .str s cs:=by
 obtain⟨s,rfl,_,_⟩:=DataW.trod_string ht h
 exact⟨s,rfl⟩
theorem z6e{x:DataW H×List MemPlace}(ht:P.underlying t=some (.slice e))(he:P.underlying e=some .string)(hc:P.cellsOf e=1)(Z:0<P.bytesOf e)
  (h:DataW.trod enc P W 0 sp held fuel t cs=some x) (hw:zwy P t x.1):∃xs:List ByteArray,Rd (Fz W) (.row .str) xs cs:=
 z94 (T:=.str) ht hc (by decide) Z (λn _ cs y hy _=>z96 he hy) h hw
end
theorem zp1{f:FuncId}{W:World}{args:List Arg}{vs:Array Value}(H:PC P (Fz W) f args [.bool] (λr=>r=true))(ha:Wt (Fz W) args vs.toList):
  Calls P f vs W λe w'=>e=.returned (.bool true)/\Below W.heap.size W w':=by
 have H':=H W.heap (Fz W) vs.toList (Fr.le.refl _) (Fz.ag W) ha
 rw[Array.toArray_toList]at H'
 refine(H' W W.drawn).mono ?_
 rintro e w' ⟨v,d',h',rfl,rfl,k,M',r,_,_,_,hr,Z⟩
 have Z:r=true:=Z
 subst Z
 rw[zr2 hr]
 exact⟨rfl,rfl,rfl,rfl,k.size,k.get⟩
theorem z6f{M:Fr}{T:Ty}{xs:List (El T)}(h:Rd M (.row T) xs [v]):RdV M (.row T) xs v:=by rw[zp0 rfl];exact h
theorem Fz.var{W:World}{n:String}{g:Nat}{cs:Array Value}(hg:P.globalNamed n=some g)(h:W.var? P n=some cs):Fz W g=some cs:=by
 unfold World.var? at h
 rw[hg]at h
 exact h
end
end Go.X
end
section
namespace Go.Proofs
section
theorem Tryz.mixed:AZ.follows .mixedOrders=true:=by kernel_rfl
noncomputable abbrev Tp:= AZ
end
end Go.Proofs
end
section
namespace Go.X
section
theorem PF{gl:Fr}{args:List Arg}{f:FuncId}{fn:Func}{rt:List Ty}{R:Els rt->Prop}{F:Prop}(pl:PlanA)(rs:List ResultVar)(n:Nat)(hf:AZ.funcs[f]?=some fn)(H:F)(hb:Z9 fn=true:=by kernel_rfl)(hr:fn.results.toList=rs:=by kernel_rfl)(hn:fn.ntmps=n:=by kernel_rfl)(hz:Nat.ble args.length n=true:=by kernel_rfl)(e:F=WA Tp gl 26 n pl (codeOf fn) [] (qcy Tp rs rt R) (zpy 0 args) []:=by kernel_rfl):PC Tp gl f args rt R:=zt8 Tryz.mixed gl 26 pl args hf hb hr hn hz H e
theorem zav(gl:Fr)(l0:List Bt)(R:Bool->Prop)
  (H:∃(a:Int->Prop) (b:Int->Nat),a 0/\∀c:Int,a c->(((bif (decide (c<l0.length))then(decide (c<300))else false)=true->∃d,(0<=c/\l0[c.toNat]?=some d)/\(decide ((d.size:Int)>1024)=true->R false)/\(decide ((d.size:Int)>1024)=false->(a (Ab .i64 (c+1))/\b (Ab .i64 (c+1))<b c)))/\((bif (decide (c<l0.length))then(decide (c<300))else false)=false->R (decide ((l0.length:Int)<=200))))):
  PC Tp gl 18 [Arg.mk (.row .str) l0] [.bool] R:=
 PF ⟨[],[],[(2,⟨[(3,.one (.dat (.int .i64)))],[],[],[100192]⟩)],[]⟩ [.tmp 2] 23 Tryz.func18 H
theorem zgl(gl:Fr)(v0:Tr)(Z:List Bt)(R:(Tr×Bool)->Prop)
  (H:PC Tp gl 88 [Arg.mk .tree (Tr.mk v0.kind v0.text v0.keys v0.items)] [.bool] (λa:Bool=>∃b:Bool->Prop,((!(!a))=true->PC Tp gl 70 [Arg.mk (.row .str) Z] [.bool] b)/\∀c:Bool,((!(!a))=true->b c)->((bif (!a)then true else(!c))=true->R (Tr.mk 0 (⟨#[]⟩:Bt) [] [],false))/\((bif (!a)then true else(!c))=false->PC Tp gl 89 [Arg.mk .tree (Tr.mk v0.kind v0.text v0.keys v0.items),Arg.mk (.row .str) Z] [.row (.int .i64),.tree,.bool] (λd:(List Int)×Tr×Bool=>((!d.2.2)=true->R (Tr.mk 0 (⟨#[]⟩:Bt) [] [],false))/\((!d.2.2)=false->PC Tp gl 90 [Arg.mk .tree (Tr.mk d.2.1.kind d.2.1.text d.2.1.keys d.2.1.items)] [.tree] (λe:Tr=>R (Tr.mk e.kind e.text e.keys e.items,true))))))):
  PC Tp gl 30 [Arg.mk .tree v0,Arg.mk (.row .str) Z] [.tree,.bool] R:=
 PF ⟨[],[],[],[]⟩ [.cell 4 26,.tmp 5] 30 Tryz.func30 H
theorem zaw(gl:Fr)(a0:Tr)(b1:Tr)(R:Bool->Prop)
  (H:((bif (bif (bif (a0.kind != b1.kind)then true else(!(a0.text.toList==b1.text.toList)))then true else((a0.keys.length:Int) != (b1.keys.length:Int)))then true else((a0.items.length:Int) != (b1.items.length:Int)))=true->R false)/\((bif (bif (bif (a0.kind != b1.kind)then true else(!(a0.text.toList==b1.text.toList)))then true else((a0.keys.length:Int) != (b1.keys.length:Int)))then true else((a0.items.length:Int) != (b1.items.length:Int)))=false->∃(a:Int->Prop) (b:Int->Nat),a 0/\∀c:Int,a c->((decide (c<a0.keys.length)=true->∃d,(0<=c/\a0.keys[c.toNat]?=some d)/\∃e,(0<=c/\b1.keys[c.toNat]?=some e)/\((!(d.toList==e.toList))=true->R false)/\((!(d.toList==e.toList))=false->(a (Ab .i64 (c+1))/\b (Ab .i64 (c+1))<b c)))/\(decide (c<a0.keys.length)=false->∃(f:Int->Prop) (g:Int->Nat),f 0/\∀i:Int,f i->((decide (i<a0.items.length)=true->∃j,(0<=i/\a0.items[i.toNat]?=some j)/\∃k,(0<=i/\b1.items[i.toNat]?=some k)/\PC Tp gl 16 [Arg.mk .tree (Tr.mk j.kind j.text j.keys j.items),Arg.mk .tree (Tr.mk k.kind k.text k.keys k.items)] [.bool] (λl:Bool=>((!l)=true->R false)/\((!l)=false->(f (Ab .i64 (i+1))/\g (Ab .i64 (i+1))<g i))))/\(decide (i<a0.items.length)=false->R true)))))):
  PC Tp gl 16 [Arg.mk .tree a0,Arg.mk .tree b1] [.bool] R:=
 PF ⟨[(11,10)],[],[(4,⟨[(5,.one (.dat (.int .i64)))],[],[2,3],[100320]⟩),(9,⟨[(6,.one (.dat (.int .i64)))],[],[2,3],[100384]⟩)],[]⟩ [.tmp 4] 76 Tryz.func16 H
theorem zeq(gl:Fr)(Z:Bt)(R:(Int×Bool)->Prop)
  (H:(((!(bif (Z.toList==(⟨#[]⟩:Bt).toList)then true else(decide ((Z.size:Int)>9))))&&(!(Z.toList==(⟨#[48]⟩:Bt).toList)))=true->(0<=(0:Int)/\(0:Int)<(Z.size:Int)))/\∃a:Bool->Prop,((!(bif (bif (Z.toList==(⟨#[]⟩:Bt).toList)then true else(decide ((Z.size:Int)>9)))then true else(bif (!(Z.toList==(⟨#[48]⟩:Bt).toList))then((zb Z (0:Int).toNat:Int)==48)else false)))=true->PC Tp gl 209 [Arg.mk .str Z,Arg.mk .str (⟨#[43,45,95]⟩:Bt)] [.bool] a)/\∀b:Bool,((!(bif (bif (Z.toList==(⟨#[]⟩:Bt).toList)then true else(decide ((Z.size:Int)>9)))then true else(bif (!(Z.toList==(⟨#[48]⟩:Bt).toList))then((zb Z (0:Int).toNat:Int)==48)else false)))=true->a b)->((bif (bif (bif (Z.toList==(⟨#[]⟩:Bt).toList)then true else(decide ((Z.size:Int)>9)))then true else(bif (!(Z.toList==(⟨#[48]⟩:Bt).toList))then((zb Z (0:Int).toNat:Int)==48)else false))then true else b)=true->R (0,false))/\((bif (bif (bif (Z.toList==(⟨#[]⟩:Bt).toList)then true else(decide ((Z.size:Int)>9)))then true else(bif (!(Z.toList==(⟨#[48]⟩:Bt).toList))then((zb Z (0:Int).toNat:Int)==48)else false))then true else b)=false->PC Tp gl 210 [Arg.mk .str Z] [.int .i64,.err] (λc:Int×Bool=>((!c.2)=true->R (0,false))/\((!c.2)=false->R (c.1,true))))):
  PC Tp gl 135 [Arg.mk .str Z] [.int .i64,.bool] R:=
 PF ⟨[],[],[],[]⟩ [.tmp 2,.tmp 3] 34 Tryz.func135 H
theorem zdh(gl:Fr)(l0:List Tr)(R:Tr->Prop)
  (H:R (Tr.mk 5 (⟨#[]⟩:Bt) [] l0)):
  PC Tp gl 29 [Arg.mk (.row .tree) l0] [.tree] R:=
 PF ⟨[],[],[],[]⟩ [.cell 2 26] 5 Tryz.func29 H
theorem znf(gl:Fr)(n0:Int)(R:Tr->Prop)
  (H:PC Tp gl 110 [Arg.mk (.int .i64) n0] [.pair .bool (.pair .str (.int .i64))] (λa:Bool×Bt×Int=>PC Tp gl 26 [Arg.mk (.pair .bool (.pair .str (.int .i64))) (a.1,(a.2.1,a.2.2))] [.str] (λb:Bt=>R (Tr.mk 3 b [] [])))):
  PC Tp gl 58 [Arg.mk (.int .i64) n0] [.tree] R:=
 PF ⟨[],[],[],[]⟩ [.cell 2 26] 7 Tryz.func58 H
theorem zer(gl:Fr)(s0:Bt)(R:Bool->Prop)
  (H:PC Tp gl 80 [Arg.mk .str s0] [.int .i64,.bool] (λa:Int×Bool=>R a.2)):
  PC Tp gl 134 [Arg.mk .str s0] [.bool] R:=
 PF ⟨[],[],[],[]⟩ [.tmp 2] 11 Tryz.func134 H
theorem zhm(gl:Fr)(n0:Bool×Bt×Int)(R:Bt->Prop)
  (H:PC Tp gl 78 [Arg.mk (.pair .bool (.pair .str (.int .i64))) (n0.1,(n0.2.1,n0.2.2))] [.bool] (λa:Bool=>((!a)=true->R (⟨#[]⟩:Bt))/\((!a)=false->((n0.2.1.toList==(⟨#[]⟩:Bt).toList)=true->R (⟨#[48]⟩:Bt))/\((n0.2.1.toList==(⟨#[]⟩:Bt).toList)=false->∀b:Bt->Prop,(∀c:Bt,(((n0.2.2 != 0)=true->PC Tp gl 79 [Arg.mk (.int .i64) n0.2.2] [.str] (λd:Bt=>Wl (((⟨#[101]⟩:Bt)).size+d.size)/\Wl (c.size+((⟨#[101]⟩:Bt)++d).size)/\R (c++((⟨#[101]⟩:Bt)++d))))/\((n0.2.2 != 0)=false->R c))->b c)->(n0.1=true->Wl (((⟨#[45]⟩:Bt)).size+n0.2.1.size)/\b ((⟨#[45]⟩:Bt)++n0.2.1))/\(n0.1=false->b n0.2.1))))):
  PC Tp gl 26 [Arg.mk (.pair .bool (.pair .str (.int .i64))) n0] [.str] R:=
 PF ⟨[],[],[],[(8,⟨[(3,.one (.dat .str))],[],[1],[100192]⟩)]⟩ [.tmp 2] 26 Tryz.func26 H
theorem zng(gl:Fr)(n0:Int)(R:(Bool×Bt×Int)->Prop)
  (H:PC Tp gl 79 [Arg.mk (.int .i64) n0] [.str] (λa:Bt=>PC Tp gl 25 [Arg.mk .str a] [.pair .bool (.pair .str (.int .i64)),.int .i64] (λb:(Bool×Bt×Int)×Int=>R (b.1.1,(b.1.2.1,b.1.2.2))))):
  PC Tp gl 110 [Arg.mk (.int .i64) n0] [.pair .bool (.pair .str (.int .i64))] R:=
 PF ⟨[],[],[],[]⟩ [.cell 2 46] 12 Tryz.func110 H
theorem zhn(gl:Fr)(s0:Bt)(R:(Int×Bool)->Prop)
  (H:PC Tp gl 150 [Arg.mk .str s0] [.bool] (λa:Bool=>(a=true->R ((s0.size:Int),true))/\(a=false->∃(b:(Bt×Nat)->Prop) (c:(Bt×Nat)->Nat),b (s0,0)/\∀Z:Bt×Nat,b Z->(((nxB Z.1 Z.2)=true->(nxB Z.1 Z.2)=true/\(nxB Z.1 Z.2)=true/\(((nxR Z.1 Z.2:Int) != 65533)=true->(b (Z.1,nxP Z.1 Z.2)/\c (Z.1,nxP Z.1 Z.2)<c Z))/\(((nxR Z.1 Z.2:Int) != 65533)=false->(0<=(Z.2:Int)/\(Z.2:Int)<=(s0.size:Int)/\(s0.size:Int)<=(s0.size:Int))/\PC Tp gl 151 [Arg.mk .str (s0.extract (Z.2:Int).toNat (s0.size:Int).toNat)] [.int .i32,.int .i64] (λd:Int×Int=>((d.2==1)=true->R ((Z.2:Int),false))/\((d.2==1)=false->(b (Z.1,nxP Z.1 Z.2)/\c (Z.1,nxP Z.1 Z.2)<c Z)))))/\((nxB Z.1 Z.2)=false->R ((s0.size:Int),true)))))):
  PC Tp gl 80 [Arg.mk .str s0] [.int .i64,.bool] R:=
 PF ⟨[],[],[(4,⟨[],[(13,[.dat .iter])],[],[1000832]⟩)],[]⟩ [.tmp 2,.tmp 3] 32 Tryz.func80 H
theorem zho(gl:Fr)(v0:Tr)(R:Bool->Prop)
  (H:PC Tp gl 56 [Arg.mk .tree (Tr.mk v0.kind v0.text v0.keys v0.items)] [.int .i64] (λa:Int=>∃b:Int->Prop,(decide (a<=4096)=true->PC Tp gl 161 [Arg.mk .tree (Tr.mk v0.kind v0.text v0.keys v0.items)] [.int .i64] b)/\∀c:Int,(decide (a<=4096)=true->b c)->R (bif (decide (a<=4096))then(decide (c<=32))else false))):
  PC Tp gl 93 [Arg.mk .tree v0] [.bool] R:=
 PF ⟨[],[],[],[]⟩ [.tmp 2] 11 Tryz.func93 H
theorem zkr(gl:Fr)(v0:Tr)(R:Bool->Prop)
  (H:((v0.kind==5)=true->R (bif (!(decide ((v0.keys.length:Int)>0)))then(v0.text.toList==(⟨#[]⟩:Bt).toList)else false))/\((v0.kind==5)=false->((v0.kind==6)=true->PC Tp gl 164 [Arg.mk (.row .str) v0.keys,Arg.mk (.int .i64) (v0.items.length:Int)] [.bool] (λa:Bool=>R (bif a then(v0.text.toList==(⟨#[]⟩:Bt).toList)else false)))/\((v0.kind==6)=false->((bif (decide ((v0.keys.length:Int)>0))then true else(decide ((v0.items.length:Int)>0)))=true->R false)/\((bif (decide ((v0.keys.length:Int)>0))then true else(decide ((v0.items.length:Int)>0)))=false->((v0.kind==1)=true->R (v0.text.toList==(⟨#[]⟩:Bt).toList))/\((v0.kind==1)=false->((v0.kind==2)=true->R (bif (v0.text.toList==(⟨#[116,114,117,101]⟩:Bt).toList)then true else(v0.text.toList==(⟨#[102,97,108,115,101]⟩:Bt).toList)))/\((v0.kind==2)=false->((v0.kind==3)=true->PC Tp gl 165 [Arg.mk .str v0.text] [.pair .bool (.pair .str (.int .i64)),.bool] (λb:(Bool×Bt×Int)×Bool=>R b.2))/\((v0.kind==3)=false->((v0.kind==4)=true->PC Tp gl 166 [Arg.mk .str v0.text] [.bool] (λc:Bool=>R c))/\((v0.kind==4)=false->((v0.kind==7)=true->PC Tp gl 167 [Arg.mk .str v0.text] [.bool] (λd:Bool=>R d))/\((v0.kind==7)=false->R false))))))))):
  PC Tp gl 96 [Arg.mk .tree v0] [.bool] R:=
 PF ⟨[],[],[],[]⟩ [.tmp 2] 79 Tryz.func96 H
theorem zgm(gl:Fr)(n0:Bool×Bt×Int)(R:Bool->Prop)
  (H:(((n0.1==false)&&((n0.2.1.toList==(⟨#[]⟩:Bt).toList)&&((n0.2.2==0)&&true)))=true->R true)/\(((n0.1==false)&&((n0.2.1.toList==(⟨#[]⟩:Bt).toList)&&((n0.2.2==0)&&true)))=false->PC Tp gl 141 [Arg.mk .str n0.2.1] [.bool] (λa:Bool=>((!a)=true->((!a)=true->R false)/\((!a)=false->R (bif (decide (n0.2.2>=(-1000000)))then(decide (n0.2.2<=1000000))else false)))/\((!a)=false->(decide ((n0.2.1.size:Int)>1000)=true->(decide ((n0.2.1.size:Int)>1000)=true->R false)/\(decide ((n0.2.1.size:Int)>1000)=false->R (bif (decide (n0.2.2>=(-1000000)))then(decide (n0.2.2<=1000000))else false)))/\(decide ((n0.2.1.size:Int)>1000)=false->(0<=(0:Int)/\(0:Int)<(n0.2.1.size:Int))/\(((zb n0.2.1 (0:Int).toNat:Int)==48)=true->(((zb n0.2.1 (0:Int).toNat:Int)==48)=true->R false)/\(((zb n0.2.1 (0:Int).toNat:Int)==48)=false->R (bif (decide (n0.2.2>=(-1000000)))then(decide (n0.2.2<=1000000))else false)))/\(((zb n0.2.1 (0:Int).toNat:Int)==48)=false->(0<=(Ab .i64 ((n0.2.1.size:Int)-1))/\(Ab .i64 ((n0.2.1.size:Int)-1))<(n0.2.1.size:Int))/\(((zb n0.2.1 (Ab .i64 ((n0.2.1.size:Int)-1)).toNat:Int)==48)=true->R false)/\(((zb n0.2.1 (Ab .i64 ((n0.2.1.size:Int)-1)).toNat:Int)==48)=false->R (bif (decide (n0.2.2>=(-1000000)))then(decide (n0.2.2<=1000000))else false)))))))):
  PC Tp gl 78 [Arg.mk (.pair .bool (.pair .str (.int .i64))) n0] [.bool] R:=
 PF ⟨[],[],[],[]⟩ [.tmp 2] 34 Tryz.func78 H
theorem zgn(gl:Fr)(s0:Bt)(R:((Bool×Bt×Int)×Int)->Prop)
  (H:PC Tp gl 75 [Arg.mk .str s0] [.pair .bool (.pair .bool (.pair .str (.pair .str .str))),.bool] (λa:(Bool×Bool×Bt×Bt×Bt)×Bool=>PC Tp gl 76 [Arg.mk .str a.1.2.2.2.2,Arg.mk .str (⟨#[48]⟩:Bt)] [.str] (λb:Bt=>((!a.2)=true->R ((false,((⟨#[]⟩:Bt),0)),2))/\((!a.2)=false->((decide ((Ab .i64 ((a.1.2.2.1.size:Int)+(a.1.2.2.2.1.size:Int)))>1000))=true->R ((false,((⟨#[]⟩:Bt),0)),3))/\((decide ((Ab .i64 ((a.1.2.2.1.size:Int)+(a.1.2.2.2.1.size:Int)))>1000))=false->(decide ((b.size:Int)>9)=true->R ((false,((⟨#[]⟩:Bt),0)),4))/\(decide ((b.size:Int)>9)=false->∃(c:Int->Bool->Bt->Int->(Bt×Nat)->Prop) (d:Int->Bool->Bt->Int->(Bt×Nat)->Nat),c 0 false (⟨#[]⟩:Bt) 0 (b,0)/\∀e:Int,∀ae:Bool,∀aa:Bt,∀ab:Int,∀Z:Bt×Nat,c e ae aa ab Z->(((nxB Z.1 Z.2)=true->(nxB Z.1 Z.2)=true/\(c (Ab .i64 ((Ab .i64 (10*e))+(Ab .i64 (Ab .i32 ((nxR Z.1 Z.2)-48))))) ae aa ab (Z.1,nxP Z.1 Z.2)/\d (Ab .i64 ((Ab .i64 (10*e))+(Ab .i64 (Ab .i32 ((nxR Z.1 Z.2)-48))))) ae aa ab (Z.1,nxP Z.1 Z.2)<d e ae aa ab Z))/\((nxB Z.1 Z.2)=false->∀f:Int->Bool->Bt->Int->Prop,(∀g:Int,∀ah:Bool,∀af:Bt,∀ai:Int,(Wl (a.1.2.2.1.size+a.1.2.2.2.1.size)/\PC Tp gl 76 [Arg.mk .str (a.1.2.2.1++a.1.2.2.2.1),Arg.mk .str (⟨#[48]⟩:Bt)] [.str] (λi:Bt=>((i.toList==(⟨#[]⟩:Bt).toList)=true->R ((false,((⟨#[]⟩:Bt),0)),0))/\((i.toList==(⟨#[]⟩:Bt).toList)=false->PC Tp gl 77 [Arg.mk .str i,Arg.mk .str (⟨#[48]⟩:Bt)] [.str] (λj:Bt=>PC Tp gl 78 [Arg.mk (.pair .bool (.pair .str (.int .i64))) (a.1.1,(j,Ab .i64 ((Ab .i64 ((Ab .i64 (g-(a.1.2.2.2.1.size:Int)))+(i.size:Int)))-(j.size:Int))))] [.bool] (λk:Bool=>((!k)=true->R ((false,((⟨#[]⟩:Bt),0)),4))/\((!k)=false->R ((a.1.1,(j,Ab .i64 ((Ab .i64 ((Ab .i64 (g-(a.1.2.2.2.1.size:Int)))+(i.size:Int)))-(j.size:Int)))),0)))))))->f g ah af ai)->(a.1.2.1=true->f (Ab .i64 (0-e)) ae aa ab)/\(a.1.2.1=false->f e ae aa ab))))))))):
  PC Tp gl 25 [Arg.mk .str s0] [.pair .bool (.pair .str (.int .i64)),.int .i64] R:=
 PF ⟨[],[],[(11,⟨[(7,.one (.dat (.int .i64)))],[(2,[.dat .bool,.dat .str,.dat (.int .i64)]),(41,[.dat .iter])],[4],[100448,1000128,1000129,1000130,1002624]⟩)],[(16,⟨[(7,.one (.dat (.int .i64)))],[(2,[.dat .bool,.dat .str,.dat (.int .i64)])],[4],[100448,1000128,1000129,1000130]⟩)]⟩ [.cell 2 46,.tmp 3] 86 Tryz.func25 H
theorem Qf(gl:Fr)(s0:Bt)(R:Bool->Prop)
  (H:∃(a:Bt->Prop) (b:Bt->Nat),a s0/\∀c:Bt,a c->((decide ((c.size:Int)>0)=true->(0<=(0:Int)/\(0:Int)<(c.size:Int))/\(decide ((zb c (0:Int).toNat:Int)<128)=true->(0<=(1:Int)/\(1:Int)<=(c.size:Int)/\(c.size:Int)<=(c.size:Int))/\∃d:Int->Prop,((decide ((((c.extract (1:Int).toNat (c.size:Int).toNat).size:Int):Int)>8))=true->PC Tp gl 217 [Arg.mk .str (c.extract (1:Int).toNat (c.size:Int).toNat)] [.int .u64] d)/\∀e:Int,((decide ((((c.extract (1:Int).toNat (c.size:Int).toNat).size:Int):Int)>8))=true->d e)->((bif (decide ((((c.extract (1:Int).toNat (c.size:Int).toNat).size:Int):Int)>8))then((Ab .u64 (((Ar (Ao .u64) e) &&& (Ar (Ao .u64) 9259542123273814144)).toNat:Int):Int)==0)else false)=true->(0<=(8:Int)/\(8:Int)<=((c.extract (1:Int).toNat (c.size:Int).toNat).size:Int)/\(((c.extract (1:Int).toNat (c.size:Int).toNat).size:Int):Int)<=((c.extract (1:Int).toNat (c.size:Int).toNat).size:Int))/\((decide (((((c.extract (1:Int).toNat (c.size:Int).toNat).extract (8:Int).toNat (((c.extract (1:Int).toNat (c.size:Int).toNat).size:Int):Int).toNat).size:Int):Int)>16))=true->(0<=(8:Int)/\(8:Int)<=(((c.extract (1:Int).toNat (c.size:Int).toNat).extract (8:Int).toNat (((c.extract (1:Int).toNat (c.size:Int).toNat).size:Int):Int).toNat).size:Int)/\((((c.extract (1:Int).toNat (c.size:Int).toNat).extract (8:Int).toNat (((c.extract (1:Int).toNat (c.size:Int).toNat).size:Int):Int).toNat).size:Int):Int)<=(((c.extract (1:Int).toNat (c.size:Int).toNat).extract (8:Int).toNat (((c.extract (1:Int).toNat (c.size:Int).toNat).size:Int):Int).toNat).size:Int)))/\∃f:Int->Prop,((decide (((((c.extract (1:Int).toNat (c.size:Int).toNat).extract (8:Int).toNat (((c.extract (1:Int).toNat (c.size:Int).toNat).size:Int):Int).toNat).size:Int):Int)>16))=true->PC Tp gl 217 [Arg.mk .str ((c.extract (1:Int).toNat (c.size:Int).toNat).extract (8:Int).toNat (((c.extract (1:Int).toNat (c.size:Int).toNat).size:Int):Int).toNat)] [.int .u64] f)/\∀g:Int,((decide (((((c.extract (1:Int).toNat (c.size:Int).toNat).extract (8:Int).toNat (((c.extract (1:Int).toNat (c.size:Int).toNat).size:Int):Int).toNat).size:Int):Int)>16))=true->f g)->∃i:Int->Prop,((decide (((((c.extract (1:Int).toNat (c.size:Int).toNat).extract (8:Int).toNat (((c.extract (1:Int).toNat (c.size:Int).toNat).size:Int):Int).toNat).size:Int):Int)>16))=true->PC Tp gl 217 [Arg.mk .str (((c.extract (1:Int).toNat (c.size:Int).toNat).extract (8:Int).toNat (((c.extract (1:Int).toNat (c.size:Int).toNat).size:Int):Int).toNat).extract (8:Int).toNat ((((c.extract (1:Int).toNat (c.size:Int).toNat).extract (8:Int).toNat (((c.extract (1:Int).toNat (c.size:Int).toNat).size:Int):Int).toNat).size:Int):Int).toNat)] [.int .u64] i)/\∀j:Int,((decide (((((c.extract (1:Int).toNat (c.size:Int).toNat).extract (8:Int).toNat (((c.extract (1:Int).toNat (c.size:Int).toNat).size:Int):Int).toNat).size:Int):Int)>16))=true->i j)->((bif (decide (((((c.extract (1:Int).toNat (c.size:Int).toNat).extract (8:Int).toNat (((c.extract (1:Int).toNat (c.size:Int).toNat).size:Int):Int).toNat).size:Int):Int)>16))then((Ab .u64 (((Ar (Ao .u64) (Ab .u64 (((Ar (Ao .u64) g) ||| (Ar (Ao .u64) j)).toNat:Int))) &&& (Ar (Ao .u64) 9259542123273814144)).toNat:Int):Int)==0)else false)=true->(0<=(16:Int)/\(16:Int)<=(((c.extract (1:Int).toNat (c.size:Int).toNat).extract (8:Int).toNat (((c.extract (1:Int).toNat (c.size:Int).toNat).size:Int):Int).toNat).size:Int)/\((((c.extract (1:Int).toNat (c.size:Int).toNat).extract (8:Int).toNat (((c.extract (1:Int).toNat (c.size:Int).toNat).size:Int):Int).toNat).size:Int):Int)<=(((c.extract (1:Int).toNat (c.size:Int).toNat).extract (8:Int).toNat (((c.extract (1:Int).toNat (c.size:Int).toNat).size:Int):Int).toNat).size:Int))/\∃(k:Bt->Prop) (l:Bt->Nat),k (((c.extract (1:Int).toNat (c.size:Int).toNat).extract (8:Int).toNat (((c.extract (1:Int).toNat (c.size:Int).toNat).size:Int):Int).toNat).extract (16:Int).toNat ((((c.extract (1:Int).toNat (c.size:Int).toNat).extract (8:Int).toNat (((c.extract (1:Int).toNat (c.size:Int).toNat).size:Int):Int).toNat).size:Int):Int).toNat)/\∀m:Bt,k m->((decide ((m.size:Int)>32)=true->(0<=(8:Int)/\(8:Int)<=(m.size:Int)/\(m.size:Int)<=(m.size:Int)))/\(decide ((m.size:Int)>32)=true->(0<=(16:Int)/\(16:Int)<=(m.size:Int)/\(m.size:Int)<=(m.size:Int)))/\(decide ((m.size:Int)>32)=true->(0<=(24:Int)/\(24:Int)<=(m.size:Int)/\(m.size:Int)<=(m.size:Int)))/\∃n:Int->Prop,(decide ((m.size:Int)>32)=true->PC Tp gl 217 [Arg.mk .str m] [.int .u64] n)/\∀o:Int,(decide ((m.size:Int)>32)=true->n o)->∃p:Int->Prop,(decide ((m.size:Int)>32)=true->PC Tp gl 217 [Arg.mk .str (m.extract (8:Int).toNat (m.size:Int).toNat)] [.int .u64] p)/\∀q:Int,(decide ((m.size:Int)>32)=true->p q)->∃r:Int->Prop,(decide ((m.size:Int)>32)=true->PC Tp gl 217 [Arg.mk .str (m.extract (16:Int).toNat (m.size:Int).toNat)] [.int .u64] r)/\∀s:Int,(decide ((m.size:Int)>32)=true->r s)->∃t:Int->Prop,(decide ((m.size:Int)>32)=true->PC Tp gl 217 [Arg.mk .str (m.extract (24:Int).toNat (m.size:Int).toNat)] [.int .u64] t)/\∀u:Int,(decide ((m.size:Int)>32)=true->t u)->((bif (decide ((m.size:Int)>32))then((Ab .u64 (((Ar (Ao .u64) (Ab .u64 (((Ar (Ao .u64) (Ab .u64 (((Ar (Ao .u64) o) ||| (Ar (Ao .u64) q)).toNat:Int))) ||| (Ar (Ao .u64) (Ab .u64 (((Ar (Ao .u64) s) ||| (Ar (Ao .u64) u)).toNat:Int)))).toNat:Int))) &&& (Ar (Ao .u64) 9259542123273814144)).toNat:Int):Int)==0)else false)=true->(0<=(32:Int)/\(32:Int)<=(m.size:Int)/\(m.size:Int)<=(m.size:Int))/\(k (m.extract (32:Int).toNat (m.size:Int).toNat)/\l (m.extract (32:Int).toNat (m.size:Int).toNat)<l m))/\((bif (decide ((m.size:Int)>32))then((Ab .u64 (((Ar (Ao .u64) (Ab .u64 (((Ar (Ao .u64) (Ab .u64 (((Ar (Ao .u64) o) ||| (Ar (Ao .u64) q)).toNat:Int))) ||| (Ar (Ao .u64) (Ab .u64 (((Ar (Ao .u64) s) ||| (Ar (Ao .u64) u)).toNat:Int)))).toNat:Int))) &&& (Ar (Ao .u64) 9259542123273814144)).toNat:Int):Int)==0)else false)=false->(a m/\b m<b c))))/\((bif (decide (((((c.extract (1:Int).toNat (c.size:Int).toNat).extract (8:Int).toNat (((c.extract (1:Int).toNat (c.size:Int).toNat).size:Int):Int).toNat).size:Int):Int)>16))then((Ab .u64 (((Ar (Ao .u64) (Ab .u64 (((Ar (Ao .u64) g) ||| (Ar (Ao .u64) j)).toNat:Int))) &&& (Ar (Ao .u64) 9259542123273814144)).toNat:Int):Int)==0)else false)=false->(a ((c.extract (1:Int).toNat (c.size:Int).toNat).extract (8:Int).toNat (((c.extract (1:Int).toNat (c.size:Int).toNat).size:Int):Int).toNat)/\b ((c.extract (1:Int).toNat (c.size:Int).toNat).extract (8:Int).toNat (((c.extract (1:Int).toNat (c.size:Int).toNat).size:Int):Int).toNat)<b c)))/\((bif (decide ((((c.extract (1:Int).toNat (c.size:Int).toNat).size:Int):Int)>8))then((Ab .u64 (((Ar (Ao .u64) e) &&& (Ar (Ao .u64) 9259542123273814144)).toNat:Int):Int)==0)else false)=false->(a (c.extract (1:Int).toNat (c.size:Int).toNat)/\b (c.extract (1:Int).toNat (c.size:Int).toNat)<b c)))/\(decide ((zb c (0:Int).toNat:Int)<128)=false->(0<=(zb c (0:Int).toNat:Int)/\(zb c (0:Int).toNat:Int)<((256:Nat):Int))/\∃v,zf5 gl 0 (0+(zb c (0:Int).toNat:Int).toNat*1) (.int .u8 v)/\(0<=(v.fdiv (2 ^ 4):Int)/\(v.fdiv (2 ^ 4):Int)<((16:Nat):Int))/\∃w,zf5 gl 1 (0+(v.fdiv (2 ^ 4):Int).toNat*2) (.int .u8 w)/\∃x,zf5 gl 1 (0+(v.fdiv (2 ^ 4):Int).toNat*2+1) (.int .u8 x)/\(((Ab .i64 (Ab .u8 (((Ar (Ao .u8) v) &&& (Ar (Ao .u8) 7)).toNat:Int)):Int)==2)=true->((!(decide ((c.size:Int)<2)))=true->(0<=(1:Int)/\(1:Int)<(c.size:Int)))/\((!(bif (decide ((c.size:Int)<2))then true else(decide ((zb c (1:Int).toNat:Int)<w))))=true->(0<=(1:Int)/\(1:Int)<(c.size:Int)))/\((bif (bif (decide ((c.size:Int)<2))then true else(decide ((zb c (1:Int).toNat:Int)<w)))then true else(decide (x<(zb c (1:Int).toNat))))=true->R false)/\((bif (bif (decide ((c.size:Int)<2))then true else(decide ((zb c (1:Int).toNat:Int)<w)))then true else(decide (x<(zb c (1:Int).toNat))))=false->(0<=(2:Int)/\(2:Int)<=(c.size:Int)/\(c.size:Int)<=(c.size:Int))/\(a (c.extract (2:Int).toNat (c.size:Int).toNat)/\b (c.extract (2:Int).toNat (c.size:Int).toNat)<b c)))/\(((Ab .i64 (Ab .u8 (((Ar (Ao .u8) v) &&& (Ar (Ao .u8) 7)).toNat:Int)):Int)==2)=false->(((Ab .i64 (Ab .u8 (((Ar (Ao .u8) v) &&& (Ar (Ao .u8) 7)).toNat:Int)):Int)==3)=true->((!(decide ((c.size:Int)<3)))=true->(0<=(1:Int)/\(1:Int)<(c.size:Int)))/\((!(bif (decide ((c.size:Int)<3))then true else(decide ((zb c (1:Int).toNat:Int)<w))))=true->(0<=(1:Int)/\(1:Int)<(c.size:Int)))/\((!(bif (bif (decide ((c.size:Int)<3))then true else(decide ((zb c (1:Int).toNat:Int)<w)))then true else(decide (x<(zb c (1:Int).toNat)))))=true->(0<=(2:Int)/\(2:Int)<(c.size:Int)))/\((!(bif (bif (bif (decide ((c.size:Int)<3))then true else(decide ((zb c (1:Int).toNat:Int)<w)))then true else(decide (x<(zb c (1:Int).toNat))))then true else(decide ((zb c (2:Int).toNat:Int)<128))))=true->(0<=(2:Int)/\(2:Int)<(c.size:Int)))/\((bif (bif (bif (bif (decide ((c.size:Int)<3))then true else(decide ((zb c (1:Int).toNat:Int)<w)))then true else(decide (x<(zb c (1:Int).toNat))))then true else(decide ((zb c (2:Int).toNat:Int)<128)))then true else(decide ((191:Int)<(zb c (2:Int).toNat))))=true->R false)/\((bif (bif (bif (bif (decide ((c.size:Int)<3))then true else(decide ((zb c (1:Int).toNat:Int)<w)))then true else(decide (x<(zb c (1:Int).toNat))))then true else(decide ((zb c (2:Int).toNat:Int)<128)))then true else(decide ((191:Int)<(zb c (2:Int).toNat))))=false->(0<=(3:Int)/\(3:Int)<=(c.size:Int)/\(c.size:Int)<=(c.size:Int))/\(a (c.extract (3:Int).toNat (c.size:Int).toNat)/\b (c.extract (3:Int).toNat (c.size:Int).toNat)<b c)))/\(((Ab .i64 (Ab .u8 (((Ar (Ao .u8) v) &&& (Ar (Ao .u8) 7)).toNat:Int)):Int)==3)=false->(((Ab .i64 (Ab .u8 (((Ar (Ao .u8) v) &&& (Ar (Ao .u8) 7)).toNat:Int)):Int)==4)=true->((!(decide ((c.size:Int)<4)))=true->(0<=(1:Int)/\(1:Int)<(c.size:Int)))/\((!(bif (decide ((c.size:Int)<4))then true else(decide ((zb c (1:Int).toNat:Int)<w))))=true->(0<=(1:Int)/\(1:Int)<(c.size:Int)))/\((!(bif (bif (decide ((c.size:Int)<4))then true else(decide ((zb c (1:Int).toNat:Int)<w)))then true else(decide (x<(zb c (1:Int).toNat)))))=true->(0<=(2:Int)/\(2:Int)<(c.size:Int)))/\((!(bif (bif (bif (decide ((c.size:Int)<4))then true else(decide ((zb c (1:Int).toNat:Int)<w)))then true else(decide (x<(zb c (1:Int).toNat))))then true else(decide ((zb c (2:Int).toNat:Int)<128))))=true->(0<=(2:Int)/\(2:Int)<(c.size:Int)))/\((!(bif (bif (bif (bif (decide ((c.size:Int)<4))then true else(decide ((zb c (1:Int).toNat:Int)<w)))then true else(decide (x<(zb c (1:Int).toNat))))then true else(decide ((zb c (2:Int).toNat:Int)<128)))then true else(decide ((191:Int)<(zb c (2:Int).toNat)))))=true->(0<=(3:Int)/\(3:Int)<(c.size:Int)))/\((!(bif (bif (bif (bif (bif (decide ((c.size:Int)<4))then true else(decide ((zb c (1:Int).toNat:Int)<w)))then true else(decide (x<(zb c (1:Int).toNat))))then true else(decide ((zb c (2:Int).toNat:Int)<128)))then true else(decide ((191:Int)<(zb c (2:Int).toNat))))then true else(decide ((zb c (3:Int).toNat:Int)<128))))=true->(0<=(3:Int)/\(3:Int)<(c.size:Int)))/\((bif (bif (bif (bif (bif (bif (decide ((c.size:Int)<4))then true else(decide ((zb c (1:Int).toNat:Int)<w)))then true else(decide (x<(zb c (1:Int).toNat))))then true else(decide ((zb c (2:Int).toNat:Int)<128)))then true else(decide ((191:Int)<(zb c (2:Int).toNat))))then true else(decide ((zb c (3:Int).toNat:Int)<128)))then true else(decide ((191:Int)<(zb c (3:Int).toNat))))=true->R false)/\((bif (bif (bif (bif (bif (bif (decide ((c.size:Int)<4))then true else(decide ((zb c (1:Int).toNat:Int)<w)))then true else(decide (x<(zb c (1:Int).toNat))))then true else(decide ((zb c (2:Int).toNat:Int)<128)))then true else(decide ((191:Int)<(zb c (2:Int).toNat))))then true else(decide ((zb c (3:Int).toNat:Int)<128)))then true else(decide ((191:Int)<(zb c (3:Int).toNat))))=false->(0<=(4:Int)/\(4:Int)<=(c.size:Int)/\(c.size:Int)<=(c.size:Int))/\(a (c.extract (4:Int).toNat (c.size:Int).toNat)/\b (c.extract (4:Int).toNat (c.size:Int).toNat)<b c)))/\(((Ab .i64 (Ab .u8 (((Ar (Ao .u8) v) &&& (Ar (Ao .u8) 7)).toNat:Int)):Int)==4)=false->R false)))))/\(decide ((c.size:Int)>0)=false->R true))):
  PC Tp gl 150 [Arg.mk .str s0] [.bool] R:=
 PF ⟨[],[(7,8,[],[0,1,2,3,4,6,7,5],[]),(9,15,[],[0,1,2,3,4,6,7,10,11,13,14,5,8,9,12],[9])],[(1,⟨[(0,.one (.dat .str))],[],[],[100000]⟩),(9,⟨[(0,.one (.dat .str))],[],[],[100000]⟩)],[]⟩ [.tmp 2] 169 Tryz.func150 H
theorem zks(gl:Fr)(v0:Tr)(R:Int->Prop)
  (H:∃(a:Int->Int->Prop) (b:Int->Int->Nat),a 1 0/\∀c d:Int,a c d->((decide (d<v0.items.length)=true->∃e,(0<=d/\v0.items[d.toNat]?=some e)/\PC Tp gl 56 [Arg.mk .tree (Tr.mk e.kind e.text e.keys e.items)] [.int .i64] (λf:Int=>(a (Ab .i64 (c+f)) (Ab .i64 (d+1))/\b (Ab .i64 (c+f)) (Ab .i64 (d+1))<b c d)))/\(decide (d<v0.items.length)=false->R c))):
  PC Tp gl 56 [Arg.mk .tree v0] [.int .i64] R:=
 PF ⟨[],[],[(3,⟨[(3,.one (.dat (.int .i64))),(9,.one (.dat (.int .i64)))],[],[],[100192,100576]⟩)],[]⟩ [.tmp 2] 19 Tryz.func56 H
theorem zhp(gl:Fr)(v0:Tr)(R:Int->Prop)
  (H:∃(a:Int->Int->Prop) (b:Int->Int->Nat),a 0 0/\∀c d:Int,a c d->((decide (d<v0.items.length)=true->∃e,(0<=d/\v0.items[d.toNat]?=some e)/\PC Tp gl 161 [Arg.mk .tree (Tr.mk e.kind e.text e.keys e.items)] [.int .i64] (λf:Int=>(a (if c<f then f else c) (Ab .i64 (d+1))/\b (if c<f then f else c) (Ab .i64 (d+1))<b c d)))/\(decide (d<v0.items.length)=false->R (Ab .i64 (c+1))))):
  PC Tp gl 161 [Arg.mk .tree v0] [.int .i64] R:=
 PF ⟨[],[],[(3,⟨[(3,.one (.dat (.int .i64))),(9,.one (.dat (.int .i64)))],[],[],[100192,100576]⟩)],[]⟩ [.tmp 2] 20 Tryz.func161 H
theorem zes(gl:Fr)(s0:Bt)(R:((Bool×Bt×Int)×Bool)->Prop)
  (H:PC Tp gl 25 [Arg.mk .str s0] [.pair .bool (.pair .str (.int .i64)),.int .i64] (λa:(Bool×Bt×Int)×Int=>∃b:Bt->Prop,((a.2==0)=true->PC Tp gl 26 [Arg.mk (.pair .bool (.pair .str (.int .i64))) (a.1.1,(a.1.2.1,a.1.2.2))] [.str] b)/\∀c:Bt,((a.2==0)=true->b c)->R ((a.1.1,(a.1.2.1,a.1.2.2)),bif (a.2==0)then(c.toList==s0.toList)else false))):
  PC Tp gl 165 [Arg.mk .str s0] [.pair .bool (.pair .str (.int .i64)),.bool] R:=
 PF ⟨[],[(2,9,[],[0,1,2,3,4,6,5,7,8],[6,7,8])],[],[]⟩ [.cell 2 46,.tmp 3] 20 Tryz.func165 H
theorem zhq(gl:Fr)(s0:Bt)(R:Bool->Prop)
  (H:PC Tp gl 80 [Arg.mk .str s0] [.int .i64,.bool] (λa:Int×Bool=>R a.2)):
  PC Tp gl 166 [Arg.mk .str s0] [.bool] R:=
 PF ⟨[],[],[],[]⟩ [.tmp 2] 11 Tryz.func166 H
theorem zkt(gl:Fr)(s0:Bt)(R:Bool->Prop)
  (H:PC Tp gl 165 [Arg.mk .str s0] [.pair .bool (.pair .str (.int .i64)),.bool] (λa:(Bool×Bt×Int)×Bool=>PC Tp gl 234 [Arg.mk (.pair .bool (.pair .str (.int .i64))) (a.1.1,(a.1.2.1,a.1.2.2))] [.int .i64,.bool] (λb:Int×Bool=>R (bif (bif a.2 then b.2 else false)then(decide (b.1>=0))else false)))):
  PC Tp gl 167 [Arg.mk .str s0] [.bool] R:=
 PF ⟨[],[],[],[]⟩ [.tmp 2] 25 Tryz.func167 H
theorem zgo(gl:Fr)(v0:Tr)(Z:Bt)(R:Int->Prop)
  (H:((v0.kind==6)=true->PC Tp gl 276 [Arg.mk (.row .str) v0.keys,Arg.mk .str Z] [.int .i64] (λa:Int=>R a))/\((v0.kind==6)=false->((v0.kind==5)=true->PC Tp gl 135 [Arg.mk .str Z] [.int .i64,.bool] (λb:Int×Bool=>((bif b.2 then(decide (b.1<v0.items.length))else false)=true->R b.1)/\((bif b.2 then(decide (b.1<v0.items.length))else false)=false->R (-1))))/\((v0.kind==5)=false->R (-1)))):
  PC Tp gl 230 [Arg.mk .tree v0,Arg.mk .str Z] [.int .i64] R:=
 PF ⟨[],[],[],[]⟩ [.tmp 4] 31 Tryz.func230 H
theorem zet(gl:Fr)(s0:Bt)(R:Bool->Prop)
  (H:∃(a:(Bt×Nat)->Prop) (b:(Bt×Nat)->Nat),a (s0,0)/\∀Z:Bt×Nat,a Z->(((nxB Z.1 Z.2)=true->(nxB Z.1 Z.2)=true/\((bif (decide ((nxR Z.1 Z.2:Int)<48))then true else(decide ((nxR Z.1 Z.2:Int)>57)))=true->R false)/\((bif (decide ((nxR Z.1 Z.2:Int)<48))then true else(decide ((nxR Z.1 Z.2:Int)>57)))=false->(a (Z.1,nxP Z.1 Z.2)/\b (Z.1,nxP Z.1 Z.2)<b Z)))/\((nxB Z.1 Z.2)=false->R (!(s0.toList==(⟨#[]⟩:Bt).toList))))):
  PC Tp gl 141 [Arg.mk .str s0] [.bool] R:=
 PF ⟨[],[],[(2,⟨[],[(6,[.dat .iter])],[],[1000384]⟩)],[]⟩ [.tmp 2] 18 Tryz.func141 H
theorem zhr(gl:Fr)(s0:Bt)(R:((Bool×Bool×Bt×Bt×Bt)×Bool)->Prop)
  (H:PC Tp gl 138 [Arg.mk .str s0,Arg.mk .str (⟨#[45]⟩:Bt)] [.str,.bool] (λa:Bt×Bool=>PC Tp gl 139 [Arg.mk .str a.1,Arg.mk .str (⟨#[101,69]⟩:Bt)] [.str,.str,.bool] (λb:Bt×Bt×Bool=>∀c:Bt->Bool->Bool->Bt->Bt->Bt->Prop,(∀d:Bt,∀ah ai:Bool,∀am aj ak:Bt,(PC Tp gl 139 [Arg.mk .str b.1,Arg.mk .str (⟨#[46]⟩:Bt)] [.str,.str,.bool] (λe:Bt×Bt×Bool=>PC Tp gl 141 [Arg.mk .str e.1] [.bool] (λf:Bool=>∃g:Bool->Prop,(((!(!f))&&e.2.2)=true->PC Tp gl 141 [Arg.mk .str e.2.1] [.bool] g)/\∀i:Bool,(((!(!f))&&e.2.2)=true->g i)->((bif (!f)then true else(bif e.2.2 then(!i)else false))=true->R ((ah,(ai,(e.1,(e.2.1,d)))),false))/\((bif (!f)then true else(bif e.2.2 then(!i)else false))=false->((!(e.1.toList==(⟨#[48]⟩:Bt).toList))=true->(0<=(0:Int)/\(0:Int)<(e.1.size:Int)))/\R ((ah,(ai,(e.1,(e.2.1,d)))),bif (e.1.toList==(⟨#[48]⟩:Bt).toList)then true else((zb e.1 (0:Int).toNat:Int) != 48))))))->c d ah ai am aj ak)->(b.2.2=true->PC Tp gl 138 [Arg.mk .str b.2.1,Arg.mk .str (⟨#[45]⟩:Bt)] [.str,.bool] (λj:Bt×Bool=>∀k:Bt->Bool->Bool->Bt->Bt->Bt->Prop,(∀l:Bt,∀ae af:Bool,∀Z aa ab:Bt,(PC Tp gl 141 [Arg.mk .str l] [.bool] (λm:Bool=>((!m)=true->R ((ae,(af,(Z,(aa,ab)))),false))/\((!m)=false->c l ae af Z aa ab)))->k l ae af Z aa ab)->((!j.2)=true->PC Tp gl 140 [Arg.mk .str j.1,Arg.mk .str (⟨#[43]⟩:Bt)] [.str] (λn:Bt=>k n a.2 j.2 (⟨#[]⟩:Bt) (⟨#[]⟩:Bt) (⟨#[]⟩:Bt)))/\((!j.2)=false->k j.1 a.2 j.2 (⟨#[]⟩:Bt) (⟨#[]⟩:Bt) (⟨#[]⟩:Bt))))/\(b.2.2=false->c b.2.1 a.2 false (⟨#[]⟩:Bt) (⟨#[]⟩:Bt) (⟨#[]⟩:Bt))))):
  PC Tp gl 75 [Arg.mk .str s0] [.pair .bool (.pair .bool (.pair .str (.pair .str .str))),.bool] R:=
 PF ⟨[],[(14,8,[],[0,1,2,3,4,5,6,7],[4,5,6,7])],[],[(9,⟨[(4,.one (.dat .str))],[(2,[.dat .bool,.dat .bool,.dat .str,.dat .str,.dat .str])],[],[100256,1000128,1000129,1000130,1000131,1000132]⟩),(7,⟨[(4,.one (.dat .str))],[(2,[.dat .bool,.dat .bool,.dat .str,.dat .str,.dat .str])],[],[100256,1000128,1000129,1000130,1000131,1000132]⟩)]⟩ [.cell 2 102,.tmp 3] 69 Tryz.func75 H
theorem Qg(gl:Fr)(s0:Bt)(R:Int->Prop)
  (H:(false=true->(0<=(0:Int)/\(0:Int)<(s0.size:Int))/\(0<=(1:Int)/\(1:Int)<(s0.size:Int))/\(0<=(2:Int)/\(2:Int)<(s0.size:Int))/\(0<=(3:Int)/\(3:Int)<(s0.size:Int))/\R (Ab .u64 (((Ar (Ao .u64) (Ab .u64 (((Ar (Ao .u64) (Ab .u64 (((Ar (Ao .u64) (Ab .u64 (zb s0 (0:Int).toNat))) ||| (Ar (Ao .u64) (Ab .u64 ((Ab .u64 (zb s0 (1:Int).toNat))*2 ^ 8)))).toNat:Int))) ||| (Ar (Ao .u64) (Ab .u64 ((Ab .u64 (zb s0 (2:Int).toNat))*2 ^ 16)))).toNat:Int))) ||| (Ar (Ao .u64) (Ab .u64 ((Ab .u64 (zb s0 (3:Int).toNat))*2 ^ 24)))).toNat:Int)))/\(false=false->(0<=(0:Int)/\(0:Int)<(s0.size:Int))/\(0<=(1:Int)/\(1:Int)<(s0.size:Int))/\(0<=(2:Int)/\(2:Int)<(s0.size:Int))/\(0<=(3:Int)/\(3:Int)<(s0.size:Int))/\(0<=(4:Int)/\(4:Int)<(s0.size:Int))/\(0<=(5:Int)/\(5:Int)<(s0.size:Int))/\(0<=(6:Int)/\(6:Int)<(s0.size:Int))/\(0<=(7:Int)/\(7:Int)<(s0.size:Int))/\R (Ab .u64 (((Ar (Ao .u64) (Ab .u64 (((Ar (Ao .u64) (Ab .u64 (((Ar (Ao .u64) (Ab .u64 (((Ar (Ao .u64) (Ab .u64 (((Ar (Ao .u64) (Ab .u64 (((Ar (Ao .u64) (Ab .u64 (((Ar (Ao .u64) (Ab .u64 (zb s0 (0:Int).toNat))) ||| (Ar (Ao .u64) (Ab .u64 ((Ab .u64 (zb s0 (1:Int).toNat))*2 ^ 8)))).toNat:Int))) ||| (Ar (Ao .u64) (Ab .u64 ((Ab .u64 (zb s0 (2:Int).toNat))*2 ^ 16)))).toNat:Int))) ||| (Ar (Ao .u64) (Ab .u64 ((Ab .u64 (zb s0 (3:Int).toNat))*2 ^ 24)))).toNat:Int))) ||| (Ar (Ao .u64) (Ab .u64 ((Ab .u64 (zb s0 (4:Int).toNat))*2 ^ 32)))).toNat:Int))) ||| (Ar (Ao .u64) (Ab .u64 ((Ab .u64 (zb s0 (5:Int).toNat))*2 ^ 40)))).toNat:Int))) ||| (Ar (Ao .u64) (Ab .u64 ((Ab .u64 (zb s0 (6:Int).toNat))*2 ^ 48)))).toNat:Int))) ||| (Ar (Ao .u64) (Ab .u64 ((Ab .u64 (zb s0 (7:Int).toNat))*2 ^ 56)))).toNat:Int)))):
  PC Tp gl 217 [Arg.mk .str s0] [.int .u64] R:=
 PF ⟨[],[],[],[]⟩ [.tmp 2] 59 Tryz.func217 H
theorem zku(gl:Fr)(n0:Bool×Bt×Int)(R:(Int×Bool)->Prop)
  (H:PC Tp gl 78 [Arg.mk (.pair .bool (.pair .str (.int .i64))) (n0.1,(n0.2.1,n0.2.2))] [.bool] (λa:Bool=>((bif (bif (!a)then true else(decide (n0.2.2<0)))then true else(decide ((Ab .i64 ((n0.2.1.size:Int)+n0.2.2))>19)))=true->R (0,false))/\((bif (bif (!a)then true else(decide (n0.2.2<0)))then true else(decide ((Ab .i64 ((n0.2.1.size:Int)+n0.2.2))>19)))=false->PC Tp gl 86 [Arg.mk .str (⟨#[48]⟩:Bt),Arg.mk (.int .i64) n0.2.2] [.str] (λb:Bt=>Wl (n0.2.1.size+b.size)/\∀c:Bt->Prop,(∀d:Bt,(((d.toList==(⟨#[]⟩:Bt).toList)=true->R (0,true))/\((d.toList==(⟨#[]⟩:Bt).toList)=false->PC Tp gl 277 [Arg.mk .str d,Arg.mk (.int .i64) 10,Arg.mk (.int .i64) 64] [.int .i64,.err] (λe:Int×Bool=>((!e.2)=true->R (0,false))/\((!e.2)=false->R (e.1,true)))))->c d)->(n0.1=true->Wl (((⟨#[45]⟩:Bt)).size+(n0.2.1++b).size)/\c ((⟨#[45]⟩:Bt)++(n0.2.1++b)))/\(n0.1=false->c (n0.2.1++b)))))):
  PC Tp gl 234 [Arg.mk (.pair .bool (.pair .str (.int .i64))) n0] [.int .i64,.bool] R:=
 PF ⟨[],[(3,5,[],[0,1,2,3,4],[])],[],[(6,⟨[(4,.one (.dat .str))],[],[],[100256]⟩)]⟩ [.tmp 2,.tmp 3] 44 Tryz.func234 H
theorem zkv(gl:Fr)(s0:Bt)(Z:Bt)(R:(Bt×Bt×Bool)->Prop)
  (H:∃(a:Int->Prop) (b:Int->Nat),a 0/\∀c:Int,a c->((decide (c<s0.size)=true->(0<=c/\c<s0.size)/\PC Tp gl 212 [Arg.mk .str Z,Arg.mk (.int .u8) (zb s0 c.toNat)] [.int .i64] (λd:Int=>(decide (d>=0)=true->(0<=(0:Int)/\(0:Int)<=c/\c<=s0.size)/\(0<=(Ab .i64 (c+1))/\(Ab .i64 (c+1))<=(s0.size:Int)/\(s0.size:Int)<=(s0.size:Int))/\R (s0.extract (0:Int).toNat c.toNat,s0.extract (Ab .i64 (c+1)).toNat (s0.size:Int).toNat,true))/\(decide (d>=0)=false->(a (Ab .i64 (c+1))/\b (Ab .i64 (c+1))<b c))))/\(decide (c<s0.size)=false->R (s0,(⟨#[]⟩:Bt),false)))):
  PC Tp gl 139 [Arg.mk .str s0,Arg.mk .str Z] [.str,.str,.bool] R:=
 PF ⟨[],[],[(2,⟨[(10,.one (.dat (.int .i64)))],[],[],[100640]⟩)],[]⟩ [.tmp 4,.tmp 5,.tmp 6] 28 Tryz.func139 H
end
section
abbrev bl(l:List UInt8):Bt:=⟨l.toArray⟩
abbrev lb(s:Bt):List UInt8:=s.data.toList
@[simp] theorem y9(l:List UInt8):lb (bl l)=l:=by simp[lb]
@[simp] theorem zhs(s:Bt):bl (lb s)=s:=by cases s;simp[lb,bl]
theorem znh{s t:Bt}:lb s=lb t↔s=t:=⟨λh=>by rw[<-zhs s,h,zhs],λh=>by rw[h]⟩
theorem zgp(s:Bt):(lb s).length=s.size:=by cases s;simp[lb,ByteArray.size]
theorem zwz(s t:Bt):lb (s++t)=lb s++lb t:=by
 cases s;cases t
 simp[lb]
theorem zua(s:Bt)(a b:Nat):lb (s.extract a b)=((lb s).drop a).take (b-a):=by
 cases s
 simp[lb,ByteArray.data_extract,List.extract_eq_take_drop]
theorem zw0(s:Bt)(i:Nat):zb s i=((((lb s)[i]?).getD 0).toNat:Int):=by
 cases s;simp[lb,zb]
theorem z6g(s:Bt)(i:Nat):s.get! i=((lb s)[i]?).getD 0:=by
 cases s with
 |mk d=>simp[lb,ByteArray.get!,Array.getElem!_eq_getD];rfl
def dec(l:List UInt8):Nat×Nat:=Go.Lib.decodeN l.length (l.getD 0 0).toNat (l.getD 1 0).toNat (l.getD 2 0).toNat (l.getD 3 0).toNat
theorem zr3(s:Bt)(i:Nat):Utf8.decode s i=dec ((lb s).drop i):=by
 rw[Go.Lib.decode_at,dec]
 simp only[z6g,Cz,AE,AC,zgp,Cu]
theorem Qh(l:List UInt8):1<=(dec l).2/\(dec l).2<=4:=by
 unfold dec Go.Lib.decodeN
 repeat' split
 all_goals simp
theorem zw1{l:List UInt8}(h:l≠[]):(dec l).2<=l.length:=by
 have:0<l.length:=Bn.2 h
 unfold dec Go.Lib.decodeN
 repeat' split
 all_goals simp only
 all_goals omega
def zej(d:Nat×Nat):Bool:=d.1==65533&&d.2==1
def wo(l:List UInt8):Bool:=if h:l=[]then true else if zej (dec l)then false else wo (l.drop (dec l).2)
termination_by l.length
decreasing_by
 have h1:=Qh l
 have h2:0<l.length:=Bn.2 h
 simp only[AC];omega
theorem Q1:wo []=true:=by unfold wo;simp
theorem Zd{l:List UInt8}(h:l≠[]):wo l=if zej (dec l)then false else wo (l.drop (dec l).2):=by
 rw[wo];simp[h]
theorem Yq{c:UInt8}{l:List UInt8}(h:c.toNat<128):dec (c::l)=(c.toNat,1):=by
 simp[dec,Go.Lib.decodeN,h]
theorem zub{c:UInt8}{l:List UInt8}(h:c.toNat<128):zej (dec (c::l))=false:=by
 rw[Yq h,zej]
 have:(c.toNat==65533)=false:=by simp;omega
 simp[this]
theorem zje{c:UInt8}{l:List UInt8}(h:c.toNat<128):wo (c::l)=wo l:=by
 rw[Zd (by simp),zub h,Yq h];simp
end
end Go.X
end
section
namespace Go.X
open Go Go.Lib
section
abbrev Bs:=List UInt8
end
end Go.X
end
section
namespace Go.X
section
variable {n b0 b1 b2 b3:Nat}
theorem Wy{n:Int}(h1:-2147483648<=n)(h2:n<=2147483647):Ab .i32 n=n:=by
 unfold Ab
 have e:(2:Int) ^ Ao .i32=4294967296:=by decide
 have e':(2:Int) ^ (Ao .i32-1)=2147483648:=by decide
 simp only[e,e']
 have hs:Di .i32=true:=rfl
 simp only[hs,Cd,decide_eq_true_eq]
 split <;> omega
theorem qd7(h:128<=b0/\b0<194\/245<=b0/\b0<256):Lib.decodeN n b0 b1 b2 b3=(65533,1):=by
 refine Lib.bad_eq _ _ _ _ _ (by omega) ?_
 unfold Lib.firstT
 repeat' split
 all_goals first|rfl|(exfalso;omega)
theorem qd8(h:194<=b0/\b0<224)(h1:b1<256):Lib.decodeN n b0 b1 b2 b3=if 2<=n/\128<=b1/\b1<=191 then((b0-192)*64+(b1-128),2)else(65533,1):=by
 unfold Lib.decodeN
 rw[if_neg (by omega)]
 by_cases hc:2<=n/\128<=b1/\b1<=191
 ·have e:b0 % 32*64+b1 % 64=(b0-192)*64+(b1-128):=by omega
  rw[if_pos (by omega),if_pos (by omega),if_pos hc,e]
 ·rw[if_neg (by omega),if_neg (by omega),if_neg (by omega),if_neg hc]
theorem qd9(h:224<=b0/\b0<240)(h1:b1<256)(h2:b2<256):Lib.decodeN n b0 b1 b2 b3=
  if 3<=n/\(128<=b1/\b1<=191)/\(128<=b2/\b2<=191)/\2048<=((b0-224)*64+(b1-128))*64+(b2-128)/\(((b0-224)*64+(b1-128))*64+(b2-128)<55296\/57344<=((b0-224)*64+(b1-128))*64+(b2-128))
  then(((b0-224)*64+(b1-128))*64+(b2-128),3)else(65533,1):=by
 unfold Lib.decodeN
 rw[if_neg (by omega),if_neg (by omega)]
 by_cases hc:3<=n/\(128<=b1/\b1<=191)/\(128<=b2/\b2<=191)
 ·rw[if_pos (by omega)]
  have e:b0 % 16*4096+b1 % 64*64+b2 % 64=((b0-224)*64+(b1-128))*64+(b2-128):=by omega
  rw[e]
  split <;> rename_i hx
  ·rw[if_pos (by omega)]
  ·rw[if_neg (by omega)]
 ·rw[if_neg (by omega),if_neg (by omega),if_neg (by omega)]
theorem qea(h:240<=b0/\b0<245)(h1:b1<256)(h2:b2<256)(h3:b3<256):Lib.decodeN n b0 b1 b2 b3=
  if 4<=n/\(128<=b1/\b1<=191)/\(128<=b2/\b2<=191)/\(128<=b3/\b3<=191)/\65536<=(((b0-240)*64+(b1-128))*64+(b2-128))*64+(b3-128)/\(((b0-240)*64+(b1-128))*64+(b2-128))*64+(b3-128)<=1114111
  then((((b0-240)*64+(b1-128))*64+(b2-128))*64+(b3-128),4)else(65533,1):=by
 unfold Lib.decodeN
 rw[if_neg (by omega),if_neg (by omega),if_neg (by omega)]
 by_cases hc:4<=n/\(128<=b1/\b1<=191)/\(128<=b2/\b2<=191)/\(128<=b3/\b3<=191)
 ·rw[if_pos (by omega)]
  have e:b0 % 8*262144+b1 % 64*4096+b2 % 64*64+b3 % 64=(((b0-240)*64+(b1-128))*64+(b2-128))*64+(b3-128):=by omega
  rw[e]
  split <;> rename_i hx
  ·rw[if_pos (by omega)]
  ·rw[if_neg (by omega)]
 ·rw[if_neg (by omega),if_neg (by omega)]
end
end Go.X
end
section
namespace Go.X
open Go Go.Proofs Go.Shelf Go.RowKit
section
theorem LF{α : Type}{x y : α}{o : Option α}(h : o = some x)(e : x = y := by kernel_rfl): o = some y := h.trans (congrArg some e)
def zkw:Go.Shelf.Ren:=⟨fun|161=>76|231=>142|227=>143|233=>144|235=>145|228=>214|197=>151|151=>215|260=>218|152=>269|137=>212|119=>300|224=>301|225=>302|217=>268|266=>299|n=>n,fun|9=>9|4=>4|3=>3|5=>5|117=>170|116=>169|0=>0|124=>173|105=>174|21=>21|119=>230|46=>177|139=>233|138=>232|n=>n,fun|3=>0|4=>1|n=>n⟩
theorem zw2:Go.Proofs.Lays.n161 Tp zkw:={
 mixed:=by kernel_rfl
 f119:=LF Tryz.func300
 f137:=LF Eb
 f151:=LF Tryz.func215
 f152:=LF Tryz.func269
 f161:=LF Tryz.func76
 f197:=LF Tryz.func151
 f217:=LF Tryz.func268
 f224:=LF Tryz.func301
 f225:=LF Tryz.func302
 f227:=LF Tryz.func143
 f228:=LF Tryz.func214
 f231:=LF Tryz.func142
 f233:=LF Tryz.func144
 f235:=LF Tryz.func145
 f260:=LF Tryz.func218
 f266:=LF Tryz.func299
 t0:=BW
 a0:=CY
 z0:=CB
 v0:=Cc
 t3:=BB
 a3:=Cm
 z3:=B6
 v3:=BJ
 t4:=BC
 a4:=Cp
 z4:=Cg
 v4:=BO
 t5:=BF
 a5:=Cq
 z5:=Ci
 v5:=BP
 t9:=Br
 a9:=Cn
 z9:=Ca
 v9:=BK
 t21:=CC
 a21:=Dp
 z21:=De
 v21:=CN
 t46:=Tryz.underlying177
 a46:=Tryz.isAgg177
 z46:=Tryz.sizeOf177
 v46:=Tryz.zeroValue177
 t105:=Tryz.underlying174
 a105:=Tryz.isAgg174
 z105:=Tryz.sizeOf174
 v105:=Tryz.zeroValue174
 t116:=Tryz.underlying169
 a116:=Tryz.isAgg169
 z116:=Tryz.sizeOf169
 t117:=Tryz.underlying170
 a117:=Tryz.isAgg170
 z117:=Tryz.sizeOf170
 v117:=Tryz.zeroValue170
 t119:=Tryz.underlying230
 a119:=Tryz.isAgg230
 z119:=Tryz.sizeOf230
 t124:=Tryz.underlying173
 a124:=Tryz.isAgg173
 z124:=Tryz.sizeOf173
 v124:=Tryz.zeroValue173
 t138:=Tryz.underlying232
 a138:=Tryz.isAgg232
 z138:=Tryz.sizeOf232
 v138:=Tryz.zeroValue232
 t139:=Tryz.underlying233
 a139:=Tryz.isAgg233
 z139:=Tryz.sizeOf233
 v139:=Tryz.zeroValue233
 g3:=by kernel_rfl
 g4:=by kernel_rfl }
theorem J7(s:Bt)(c:UInt8)(hc:c.toNat<128)(w:World):
  Calls Tp 76 #[.string s,.string ⟨#[c]⟩] w λe w'=>e=.returned (.string ⟨(Lib.trimLeftB s.data.toList c).toArray⟩)/\w'=w:=Any.strings_TrimLeft_one zw2 s c hc w
def zkx:Go.Shelf.Ren:=⟨fun|162=>77|232=>146|227=>143|234=>147|236=>148|228=>214|271=>216|151=>215|120=>270|197=>151|152=>269|260=>218|137=>212|119=>300|224=>301|225=>302|217=>268|266=>299|n=>n,fun|9=>9|4=>4|3=>3|5=>5|117=>170|116=>169|0=>0|124=>173|21=>21|105=>174|46=>177|119=>230|139=>233|138=>232|n=>n,fun|3=>0|4=>1|n=>n⟩
theorem zw3:Go.Proofs.Lays.n162 Tp zkx:={
 mixed:=by kernel_rfl
 f119:=LF Tryz.func300
 f120:=LF Tryz.func270
 f137:=LF Eb
 f151:=LF Tryz.func215
 f152:=LF Tryz.func269
 f162:=LF Tryz.func77
 f197:=LF Tryz.func151
 f217:=LF Tryz.func268
 f224:=LF Tryz.func301
 f225:=LF Tryz.func302
 f227:=LF Tryz.func143
 f228:=LF Tryz.func214
 f232:=LF Tryz.func146
 f234:=LF Tryz.func147
 f236:=LF Tryz.func148
 f260:=LF Tryz.func218
 f266:=LF Tryz.func299
 f271:=LF Tryz.func216
 t0:=BW
 a0:=CY
 z0:=CB
 v0:=Cc
 t3:=BB
 a3:=Cm
 z3:=B6
 v3:=BJ
 t4:=BC
 a4:=Cp
 z4:=Cg
 v4:=BO
 t5:=BF
 a5:=Cq
 z5:=Ci
 v5:=BP
 t9:=Br
 a9:=Cn
 z9:=Ca
 v9:=BK
 t21:=CC
 a21:=Dp
 z21:=De
 v21:=CN
 t46:=Tryz.underlying177
 a46:=Tryz.isAgg177
 z46:=Tryz.sizeOf177
 v46:=Tryz.zeroValue177
 t105:=Tryz.underlying174
 a105:=Tryz.isAgg174
 z105:=Tryz.sizeOf174
 v105:=Tryz.zeroValue174
 t116:=Tryz.underlying169
 a116:=Tryz.isAgg169
 z116:=Tryz.sizeOf169
 t117:=Tryz.underlying170
 a117:=Tryz.isAgg170
 z117:=Tryz.sizeOf170
 v117:=Tryz.zeroValue170
 t119:=Tryz.underlying230
 a119:=Tryz.isAgg230
 z119:=Tryz.sizeOf230
 t124:=Tryz.underlying173
 a124:=Tryz.isAgg173
 z124:=Tryz.sizeOf173
 v124:=Tryz.zeroValue173
 t138:=Tryz.underlying232
 a138:=Tryz.isAgg232
 z138:=Tryz.sizeOf232
 v138:=Tryz.zeroValue232
 t139:=Tryz.underlying233
 a139:=Tryz.isAgg233
 z139:=Tryz.sizeOf233
 v139:=Tryz.zeroValue233
 g3:=by kernel_rfl
 g4:=by kernel_rfl }
theorem Jr(s:Bt)(c:UInt8)(hc:c.toNat<128)(w:World)(hs:s.size<=9223372036854775807):
  Calls Tp 77 #[.string s,.string ⟨#[c]⟩] w λe w'=>e=.returned (.string ⟨(Lib.trimRightB s.data.toList c).toArray⟩)/\w'=w:=Any.strings_TrimRight_one zw3 s c hc w hs
def zky:Go.Shelf.Ren:=⟨fun|137=>212|217=>268|266=>299|n=>n,fun|9=>9|5=>5|3=>3|n=>n,fun|n=>n⟩
theorem zw4:Go.Proofs.Lays.n137 Tp zky:={
 mixed:=by kernel_rfl
 f137:=LF Eb
 f217:=LF Tryz.func268
 f266:=LF Tryz.func299
 t3:=BB
 a3:=Cm
 z3:=B6
 v3:=BJ
 t5:=BF
 a5:=Cq
 z5:=Ci
 v5:=BP
 t9:=Br
 a9:=Cn
 z9:=Ca
 v9:=BK }
theorem ja(s:Bt)(c:Int)(w:World):
  Calls Tp 212 #[.string s,.int .u8 c] w λe w'=>e=.returned (.int .i64 (Lib.indexByte s.data.toList c.toNat.toUInt8))/\w'=w:=Any.strings_IndexByte zw4 s c w
def zkz:Go.Shelf.Ren:=⟨fun|103=>138|210=>211|206=>227|n=>n,fun|9=>9|4=>4|24=>163|3=>3|n=>n,fun|n=>n⟩
theorem zw5:Go.Proofs.Lays.n103 Tp zkz:={
 mixed:=by kernel_rfl
 f103:=LF Tryz.func138
 f206:=LF Tryz.func227
 f210:=LF Tryz.func211
 t3:=BB
 a3:=Cm
 z3:=B6
 v3:=BJ
 t4:=BC
 a4:=Cp
 z4:=Cg
 v4:=BO
 t9:=Br
 a9:=Cn
 z9:=Ca
 v9:=BK
 t24:=Tryz.underlying163
 a24:=Tryz.isAgg163
 z24:=Tryz.sizeOf163
 v24:=Tryz.zeroValue163 }
theorem zax(s p:Bt)(w:World):
  Calls Tp 138 #[.string s,.string p] w λe w'=>e=.returned (.tuple #[.string ⟨(Lib.trimPrefix s.data.toList p.data.toList).toArray⟩,.bool (Lib.hasPrefix s.data.toList p.data.toList)])/\w'=w:=Any.strings_CutPrefix zw5 s p w
def zk0:Go.Shelf.Ren:=⟨fun|242=>153|278=>220|n=>n,fun|37=>110|21=>21|51=>236|4=>4|5=>5|46=>177|n=>n,fun|n=>n⟩
theorem zw6:Go.Proofs.Lays.n242 Tp zk0:={
 mixed:=by kernel_rfl
 f242:=LF Tryz.func153
 f278:=LF Tryz.func220
 t4:=BC
 a4:=Cp
 z4:=Cg
 v4:=BO
 t5:=BF
 a5:=Cq
 z5:=Ci
 v5:=BP
 t21:=CC
 a21:=Dp
 z21:=De
 v21:=CN
 t37:=Tryz.underlying110
 a37:=Tryz.isAgg110
 z37:=Tryz.sizeOf110
 v37:=Tryz.zeroValue110
 t46:=Tryz.underlying177
 a46:=Tryz.isAgg177
 z46:=Tryz.sizeOf177
 v46:=Tryz.zeroValue177
 t51:=Tryz.underlying236
 a51:=Tryz.isAgg236
 z51:=Tryz.sizeOf236
 v51:=Tryz.zeroValue236 }
theorem Js(B:Nat)(v:Value)(n:Nat)(xs:List Value)(r:Int)(ab:-2147483648<=r)(af:r<=2147483647)(w:World)(Z:w.ownsRow B 5 1 v n xs)(aa:n+4<=140737488355328)(ae:B<=w.heap.size):
  Calls Tp 153 #[v,.int .i32 r] w λe w'=>∃v',e=.returned v'/\w'.ownsRow B 5 1 v' (n+(Lib.runeCells r).length) (xs++Lib.runeCells r)/\∃o,(w.alloc o).grownBy w' v.ownBlock:=Any.utf8_AppendRune_plain zw6 (by kernel_rfl) B v n xs r ab af w Z aa ae
def zht:Go.Shelf.Ren:=⟨fun|171=>79|243=>149|246=>154|283=>221|284=>222|285=>223|286=>224|129=>252|317=>271|318=>272|319=>273|320=>274|337=>303|338=>304|n=>n,fun|3=>3|9=>9|2=>2|4=>4|171=>237|0=>0|53=>238|37=>110|5=>5|173=>241|212=>273|51=>236|20=>20|213=>274|46=>177|232=>306|233=>307|n=>n,fun|17=>2|18=>6|19=>7|n=>n⟩
theorem zuc:Go.Proofs.LaysM.n171 Tp zht:={
 mixed:=by kernel_rfl
 f129:=LF Tryz.func252
 f171:=LF Tryz.func79
 f243:=LF Tryz.func149
 f246:=LF Tryz.func154
 f283:=LF Tryz.func221
 f284:=LF Tryz.func222
 f285:=LF Tryz.func223
 f286:=LF Tryz.func224
 f317:=LF Tryz.func271
 f318:=LF Tryz.func272
 f319:=LF Tryz.func273
 f320:=LF Tryz.func274
 f337:=LF Tryz.func303
 f338:=LF Tryz.func304
 t0:=BW
 a0:=CY
 z0:=CB
 v0:=Cc
 t2:=Tryz.underlying2
 a2:=Tryz.isAgg2
 z2:=Tryz.sizeOf2
 v2:=Tryz.zeroValue2
 t3:=BB
 a3:=Cm
 z3:=B6
 v3:=BJ
 t4:=BC
 a4:=Cp
 z4:=Cg
 v4:=BO
 t5:=BF
 a5:=Cq
 z5:=Ci
 v5:=BP
 t9:=Br
 a9:=Cn
 z9:=Ca
 v9:=BK
 t20:=DD
 a20:=Eo
 z20:=Eh
 v20:=DU
 t37:=Tryz.underlying110
 a37:=Tryz.isAgg110
 z37:=Tryz.sizeOf110
 v37:=Tryz.zeroValue110
 t46:=Tryz.underlying177
 a46:=Tryz.isAgg177
 z46:=Tryz.sizeOf177
 v46:=Tryz.zeroValue177
 t51:=Tryz.underlying236
 a51:=Tryz.isAgg236
 z51:=Tryz.sizeOf236
 v51:=Tryz.zeroValue236
 t53:=Tryz.underlying238
 a53:=Tryz.isAgg238
 z53:=Tryz.sizeOf238
 v53:=Tryz.zeroValue238
 t171:=Tryz.underlying237
 a171:=Tryz.isAgg237
 z171:=Tryz.sizeOf237
 v171:=Tryz.zeroValue237
 t173:=Tryz.underlying241
 a173:=Tryz.isAgg241
 z173:=Tryz.sizeOf241
 v173:=Tryz.zeroValue241
 t212:=Tryz.underlying273
 a212:=Tryz.isAgg273
 z212:=Tryz.sizeOf273
 v212:=Tryz.zeroValue273
 t213:=Tryz.underlying274
 a213:=Tryz.isAgg274
 z213:=Tryz.sizeOf274
 t232:=Tryz.underlying306
 a232:=Tryz.isAgg306
 z232:=Tryz.sizeOf306
 v232:=Tryz.zeroValue306
 t233:=Tryz.underlying307
 a233:=Tryz.isAgg307
 z233:=Tryz.sizeOf307
 v233:=Tryz.zeroValue307
 g17:=by kernel_rfl
 g18:=by kernel_rfl
 g19:=by kernel_rfl
 i0:=by kernel_rfl
 i2:=by kernel_rfl
 i3:=by kernel_rfl
 i4:=by kernel_rfl
 i5:=by kernel_rfl
 i9:=by kernel_rfl
 i20:=by kernel_rfl
 i37:=by kernel_rfl
 i46:=by kernel_rfl
 i51:=by kernel_rfl
 i53:=by kernel_rfl
 i171:=by kernel_rfl
 i173:=by kernel_rfl
 i212:=by kernel_rfl
 i232:=by kernel_rfl
 i233:=by kernel_rfl
 m17:=by kernel_rfl
 m18:=by kernel_rfl
 m19:=by kernel_rfl }
open Go.RowKit Go.Sort Go.Lib in
theorem zhu(n : Int)(h0 : -9223372036854775808 ≤ n)(h1 : n ≤ 9223372036854775807)(w : World)(htab : Lib.TabIs Tp w "internal/strconv.uint64pow10" .u64 Lib.pow10Tab):
  Calls Tp 79 #[.int .i64 n] w λe w'=>e=.returned (.string ⟨(Lib.itoa n).toArray⟩)/\∃k os,w'=grow (w.drewN k) os:=Any.strconv_Itoa zuc n h0 h1 w htab
def zhv:Go.Shelf.Ren:=⟨fun|245=>267|279=>295|280=>296|281=>297|282=>298|316=>317|171=>79|205=>318|243=>149|246=>154|283=>221|284=>222|285=>223|286=>224|129=>252|317=>271|318=>272|319=>273|320=>274|337=>303|338=>304|n=>n,fun|9=>9|3=>3|75=>114|167=>287|4=>4|168=>288|210=>304|37=>110|0=>0|127=>181|145=>315|143=>313|2=>2|171=>237|53=>238|5=>5|173=>241|212=>273|51=>236|20=>20|213=>274|46=>177|232=>306|233=>307|80=>122|n=>n,fun|15=>4|16=>5|17=>2|18=>6|19=>7|n=>n⟩
theorem zud:Go.Proofs.LaysC.n245 Tp zhv:={
 mixed:=by kernel_rfl
 f129:=LF Tryz.func252
 f171:=LF Tryz.func79
 f205:=LF Tryz.func318
 f243:=LF Tryz.func149
 f245:=LF Tryz.func267
 f246:=LF Tryz.func154
 f279:=LF Tryz.func295
 f280:=LF Tryz.func296
 f281:=LF Tryz.func297
 f282:=LF Tryz.func298
 f283:=LF Tryz.func221
 f284:=LF Tryz.func222
 f285:=LF Tryz.func223
 f286:=LF Tryz.func224
 f316:=LF Tryz.func317
 f317:=LF Tryz.func271
 f318:=LF Tryz.func272
 f319:=LF Tryz.func273
 f320:=LF Tryz.func274
 f337:=LF Tryz.func303
 f338:=LF Tryz.func304
 t0:=BW
 a0:=CY
 z0:=CB
 v0:=Cc
 t2:=Tryz.underlying2
 a2:=Tryz.isAgg2
 z2:=Tryz.sizeOf2
 v2:=Tryz.zeroValue2
 t3:=BB
 a3:=Cm
 z3:=B6
 v3:=BJ
 t4:=BC
 a4:=Cp
 z4:=Cg
 v4:=BO
 t5:=BF
 a5:=Cq
 z5:=Ci
 v5:=BP
 t9:=Br
 a9:=Cn
 z9:=Ca
 v9:=BK
 t20:=DD
 a20:=Eo
 z20:=Eh
 v20:=DU
 t37:=Tryz.underlying110
 a37:=Tryz.isAgg110
 z37:=Tryz.sizeOf110
 v37:=Tryz.zeroValue110
 t46:=Tryz.underlying177
 a46:=Tryz.isAgg177
 z46:=Tryz.sizeOf177
 v46:=Tryz.zeroValue177
 t51:=Tryz.underlying236
 a51:=Tryz.isAgg236
 z51:=Tryz.sizeOf236
 v51:=Tryz.zeroValue236
 t53:=Tryz.underlying238
 a53:=Tryz.isAgg238
 z53:=Tryz.sizeOf238
 v53:=Tryz.zeroValue238
 t75:=Tryz.underlying114
 a75:=Tryz.isAgg114
 z75:=Tryz.sizeOf114
 v75:=Tryz.zeroValue114
 t127:=Dq
 a127:=Ei
 z127:=Ec
 v127:=Tryz.zeroValue181
 t143:=Tryz.underlying313
 a143:=Tryz.isAgg313
 z143:=Tryz.sizeOf313
 v143:=Tryz.zeroValue313
 t145:=Tryz.underlying315
 a145:=Tryz.isAgg315
 z145:=Tryz.sizeOf315
 v145:=Tryz.zeroValue315
 t167:=Tryz.underlying287
 a167:=Tryz.isAgg287
 z167:=Tryz.sizeOf287
 v167:=Tryz.zeroValue287
 t168:=Tryz.underlying288
 a168:=Tryz.isAgg288
 z168:=Tryz.sizeOf288
 v168:=Tryz.zeroValue288
 t171:=Tryz.underlying237
 a171:=Tryz.isAgg237
 z171:=Tryz.sizeOf237
 v171:=Tryz.zeroValue237
 t173:=Tryz.underlying241
 a173:=Tryz.isAgg241
 z173:=Tryz.sizeOf241
 v173:=Tryz.zeroValue241
 t210:=Tryz.underlying304
 a210:=Tryz.isAgg304
 z210:=Tryz.sizeOf304
 v210:=Tryz.zeroValue304
 t212:=Tryz.underlying273
 a212:=Tryz.isAgg273
 z212:=Tryz.sizeOf273
 v212:=Tryz.zeroValue273
 t213:=Tryz.underlying274
 a213:=Tryz.isAgg274
 z213:=Tryz.sizeOf274
 t232:=Tryz.underlying306
 a232:=Tryz.isAgg306
 z232:=Tryz.sizeOf306
 v232:=Tryz.zeroValue306
 t233:=Tryz.underlying307
 a233:=Tryz.isAgg307
 z233:=Tryz.sizeOf307
 v233:=Tryz.zeroValue307
 g15:=by kernel_rfl
 g16:=by kernel_rfl
 g17:=by kernel_rfl
 g18:=by kernel_rfl
 g19:=by kernel_rfl
 t80:=Tryz.underlying122
 a80:=Tryz.isAgg122
 z80:=Tryz.sizeOf122
 v80:=Tryz.zeroValue122
 i0:=by kernel_rfl
 i2:=by kernel_rfl
 i3:=by kernel_rfl
 i4:=by kernel_rfl
 i5:=by kernel_rfl
 i9:=by kernel_rfl
 i20:=by kernel_rfl
 i37:=by kernel_rfl
 i46:=by kernel_rfl
 i51:=by kernel_rfl
 i53:=by kernel_rfl
 i75:=by kernel_rfl
 i80:=by kernel_rfl
 i127:=by kernel_rfl
 i143:=by kernel_rfl
 i145:=by kernel_rfl
 i167:=by kernel_rfl
 i168:=by kernel_rfl
 i171:=by kernel_rfl
 i173:=by kernel_rfl
 i210:=by kernel_rfl
 i212:=by kernel_rfl
 i232:=by kernel_rfl
 i233:=by kernel_rfl
 m15:=by kernel_rfl
 m16:=by kernel_rfl
 m17:=by kernel_rfl
 m18:=by kernel_rfl
 m19:=by kernel_rfl
 c0:=by kernel_rfl
 c2:=by kernel_rfl
 c3:=by kernel_rfl
 c4:=by kernel_rfl
 c5:=by kernel_rfl
 c9:=by kernel_rfl
 c20:=by kernel_rfl
 c37:=by kernel_rfl
 c46:=by kernel_rfl
 c51:=by kernel_rfl
 c53:=by kernel_rfl
 c75:=by kernel_rfl
 c80:=by kernel_rfl
 c127:=by kernel_rfl
 c143:=by kernel_rfl
 c145:=by kernel_rfl
 c167:=by kernel_rfl
 c168:=by kernel_rfl
 c171:=by kernel_rfl
 c173:=by kernel_rfl
 c210:=by kernel_rfl
 c212:=by kernel_rfl
 c213:=by kernel_rfl
 c232:=by kernel_rfl
 c233:=by kernel_rfl }
theorem Yr(fn s:Bt)(base Z:Int)(ev:Value)(w:World)(aa:s.size<=281474976710656)(hv:w.cell? ⟨4,0,none⟩=some ev)(ab:ev=.nilIface\/∃te pe,ev=.iface te pe):
  Calls Tp 267 #[.string fn,.string s,.int .i64 base,.int .i64 Z,.iface 287 (.int .i64 2)] w λe w'=>∃N,e=.returned (.iface 288 (.pointer (some ⟨N,0,none⟩)))/\w.heap.size<=N/\w'.heap[N]?=some (.cells #[.string fn,.string s,ev] 304 (0,0))/\Below w.heap.size w w':=Any.strconv_toError_syntax zud fn s base Z ev w aa hv ab
def zhw:Go.Shelf.Ren:=⟨fun|172=>210|244=>266|245=>267|247=>294|279=>295|280=>296|281=>297|282=>298|287=>316|316=>317|171=>79|205=>318|321=>325|322=>326|243=>149|246=>154|283=>221|284=>222|285=>223|286=>224|129=>252|317=>271|318=>272|319=>273|320=>274|337=>303|338=>304|n=>n,fun|9=>9|3=>3|75=>114|76=>117|4=>4|5=>5|167=>287|37=>110|0=>0|85=>277|2=>2|168=>288|53=>238|175=>300|46=>177|210=>304|127=>181|145=>315|143=>313|21=>21|171=>237|173=>241|212=>273|51=>236|20=>20|213=>274|232=>306|233=>307|80=>122|n=>n,fun|15=>4|16=>5|17=>2|18=>6|19=>7|n=>n⟩
theorem zdi:Go.Proofs.LaysC.n172 Tp zhw:={
 mixed:=by kernel_rfl
 f129:=LF Tryz.func252
 f171:=LF Tryz.func79
 f172:=LF Tryz.func210
 f205:=LF Tryz.func318
 f243:=LF Tryz.func149
 f244:=LF Tryz.func266
 f245:=LF Tryz.func267
 f246:=LF Tryz.func154
 f247:=LF Tryz.func294
 f279:=LF Tryz.func295
 f280:=LF Tryz.func296
 f281:=LF Tryz.func297
 f282:=LF Tryz.func298
 f283:=LF Tryz.func221
 f284:=LF Tryz.func222
 f285:=LF Tryz.func223
 f286:=LF Tryz.func224
 f287:=LF Tryz.func316
 f316:=LF Tryz.func317
 f317:=LF Tryz.func271
 f318:=LF Tryz.func272
 f319:=LF Tryz.func273
 f320:=LF Tryz.func274
 f321:=LF Tryz.func325
 f322:=LF Tryz.func326
 f337:=LF Tryz.func303
 f338:=LF Tryz.func304
 t0:=BW
 a0:=CY
 z0:=CB
 v0:=Cc
 t2:=Tryz.underlying2
 a2:=Tryz.isAgg2
 z2:=Tryz.sizeOf2
 v2:=Tryz.zeroValue2
 t3:=BB
 a3:=Cm
 z3:=B6
 v3:=BJ
 t4:=BC
 a4:=Cp
 z4:=Cg
 v4:=BO
 t5:=BF
 a5:=Cq
 z5:=Ci
 v5:=BP
 t9:=Br
 a9:=Cn
 z9:=Ca
 v9:=BK
 t20:=DD
 a20:=Eo
 z20:=Eh
 v20:=DU
 t21:=CC
 a21:=Dp
 z21:=De
 v21:=CN
 t37:=Tryz.underlying110
 a37:=Tryz.isAgg110
 z37:=Tryz.sizeOf110
 v37:=Tryz.zeroValue110
 t46:=Tryz.underlying177
 a46:=Tryz.isAgg177
 z46:=Tryz.sizeOf177
 v46:=Tryz.zeroValue177
 t51:=Tryz.underlying236
 a51:=Tryz.isAgg236
 z51:=Tryz.sizeOf236
 v51:=Tryz.zeroValue236
 t53:=Tryz.underlying238
 a53:=Tryz.isAgg238
 z53:=Tryz.sizeOf238
 v53:=Tryz.zeroValue238
 t75:=Tryz.underlying114
 a75:=Tryz.isAgg114
 z75:=Tryz.sizeOf114
 v75:=Tryz.zeroValue114
 t76:=Tryz.underlying117
 a76:=Tryz.isAgg117
 z76:=Tryz.sizeOf117
 v76:=Tryz.zeroValue117
 t85:=Tryz.underlying277
 a85:=Tryz.isAgg277
 z85:=Tryz.sizeOf277
 v85:=Tryz.zeroValue277
 t127:=Dq
 a127:=Ei
 z127:=Ec
 v127:=Tryz.zeroValue181
 t143:=Tryz.underlying313
 a143:=Tryz.isAgg313
 z143:=Tryz.sizeOf313
 v143:=Tryz.zeroValue313
 t145:=Tryz.underlying315
 a145:=Tryz.isAgg315
 z145:=Tryz.sizeOf315
 v145:=Tryz.zeroValue315
 t167:=Tryz.underlying287
 a167:=Tryz.isAgg287
 z167:=Tryz.sizeOf287
 v167:=Tryz.zeroValue287
 t168:=Tryz.underlying288
 a168:=Tryz.isAgg288
 z168:=Tryz.sizeOf288
 v168:=Tryz.zeroValue288
 t171:=Tryz.underlying237
 a171:=Tryz.isAgg237
 z171:=Tryz.sizeOf237
 v171:=Tryz.zeroValue237
 t173:=Tryz.underlying241
 a173:=Tryz.isAgg241
 z173:=Tryz.sizeOf241
 v173:=Tryz.zeroValue241
 t175:=Tryz.underlying300
 a175:=Tryz.isAgg300
 z175:=Tryz.sizeOf300
 v175:=Tryz.zeroValue300
 t210:=Tryz.underlying304
 a210:=Tryz.isAgg304
 z210:=Tryz.sizeOf304
 v210:=Tryz.zeroValue304
 t212:=Tryz.underlying273
 a212:=Tryz.isAgg273
 z212:=Tryz.sizeOf273
 v212:=Tryz.zeroValue273
 t213:=Tryz.underlying274
 a213:=Tryz.isAgg274
 z213:=Tryz.sizeOf274
 t232:=Tryz.underlying306
 a232:=Tryz.isAgg306
 z232:=Tryz.sizeOf306
 v232:=Tryz.zeroValue306
 t233:=Tryz.underlying307
 a233:=Tryz.isAgg307
 z233:=Tryz.sizeOf307
 v233:=Tryz.zeroValue307
 g15:=by kernel_rfl
 g16:=by kernel_rfl
 g17:=by kernel_rfl
 g18:=by kernel_rfl
 g19:=by kernel_rfl
 t80:=Tryz.underlying122
 a80:=Tryz.isAgg122
 z80:=Tryz.sizeOf122
 v80:=Tryz.zeroValue122
 i0:=by kernel_rfl
 i2:=by kernel_rfl
 i3:=by kernel_rfl
 i4:=by kernel_rfl
 i5:=by kernel_rfl
 i9:=by kernel_rfl
 i20:=by kernel_rfl
 i21:=by kernel_rfl
 i37:=by kernel_rfl
 i46:=by kernel_rfl
 i51:=by kernel_rfl
 i53:=by kernel_rfl
 i75:=by kernel_rfl
 i76:=by kernel_rfl
 i80:=by kernel_rfl
 i85:=by kernel_rfl
 i127:=by kernel_rfl
 i143:=by kernel_rfl
 i145:=by kernel_rfl
 i167:=by kernel_rfl
 i168:=by kernel_rfl
 i171:=by kernel_rfl
 i173:=by kernel_rfl
 i175:=by kernel_rfl
 i210:=by kernel_rfl
 i212:=by kernel_rfl
 i232:=by kernel_rfl
 i233:=by kernel_rfl
 m15:=by kernel_rfl
 m16:=by kernel_rfl
 m17:=by kernel_rfl
 m18:=by kernel_rfl
 m19:=by kernel_rfl
 c0:=by kernel_rfl
 c2:=by kernel_rfl
 c3:=by kernel_rfl
 c4:=by kernel_rfl
 c5:=by kernel_rfl
 c9:=by kernel_rfl
 c20:=by kernel_rfl
 c21:=by kernel_rfl
 c37:=by kernel_rfl
 c46:=by kernel_rfl
 c51:=by kernel_rfl
 c53:=by kernel_rfl
 c75:=by kernel_rfl
 c76:=by kernel_rfl
 c80:=by kernel_rfl
 c85:=by kernel_rfl
 c127:=by kernel_rfl
 c143:=by kernel_rfl
 c145:=by kernel_rfl
 c167:=by kernel_rfl
 c168:=by kernel_rfl
 c171:=by kernel_rfl
 c173:=by kernel_rfl
 c175:=by kernel_rfl
 c210:=by kernel_rfl
 c212:=by kernel_rfl
 c213:=by kernel_rfl
 c232:=by kernel_rfl
 c233:=by kernel_rfl }
def zk1:Go.Shelf.Ren:=⟨fun|321=>325|n=>n,fun|5=>5|n=>n,fun|n=>n⟩
theorem zw7:Go.Proofs.Lays.n321 Tp zk1:={
 mixed:=by kernel_rfl
 f321:=LF Tryz.func325
 t5:=BF
 a5:=Cq
 z5:=Ci
 v5:=BP }
theorem Ys(c:Int)(w:World):
  Calls Tp 325 #[.int .u8 c] w λe w'=>e=.returned (.int .u8 (bits .or .u8 c 32))/\w'=w:=Any.internal_strconv_lower zw7 c w
theorem zdj(s:Bt)(Z:s.size<=9223372036854775806)(v:Int)(h:Lib.atoiAll s.data.toList=.ok v)(w:World):
  Calls Tp 210 #[.string s] w λe w'=>e=.returned (.tuple #[.int .i64 v,.nilIface])/\(w'=w\/∃t,w'=Lib.bytesWorld w 5 t):=Any.strconv_Atoi_ok zdi s Z v h w
theorem Wz(s:Bt)(Z:s.size<=281474976710656)(h:Lib.atoiAll s.data.toList=Lib.atoiAll [])(ev:Value)(w:World)(hv:w.cell? ⟨4,0,none⟩=some ev)(aa:ev=.nilIface\/∃te pe,ev=.iface te pe):
  Calls Tp 210 #[.string s] w λe w'=>∃N,e=.returned (.tuple #[.int .i64 (0),.iface 288 (.pointer (some ⟨N,0,none⟩))])/\w.heap.size<=N/\w'.heap[N]?=some (.cells #[.string ⟨#[65,116,111,105]⟩,.string s,ev] 304 (0,0))/\Below w.heap.size w w':=Any.strconv_Atoi_syntax zdi s Z h ev w hv aa
theorem Xw(s:Bt)(Z:s.size<=281474976710656)(h:Lib.atoiAll s.data.toList=.range)(ev:Value)(w:World)(hv:w.cell? ⟨5,0,none⟩=some ev)(aa:ev=.nilIface\/∃te pe,ev=.iface te pe):
  Calls Tp 210 #[.string s] w λe w'=>∃N,e=.returned (.tuple #[.int .i64 (Lib.atoiSat s.data.toList),.iface 288 (.pointer (some ⟨N,0,none⟩))])/\w.heap.size<=N/\w'.heap[N]?=some (.cells #[.string ⟨#[65,116,111,105]⟩,.string s,ev] 304 (0,0))/\Below w.heap.size w w':=Any.strconv_Atoi_range zdi s Z h ev w hv aa
def zhx:Go.Shelf.Ren:=⟨fun|174=>277|247=>294|245=>267|287=>316|279=>295|280=>296|281=>297|282=>298|321=>325|322=>326|316=>317|171=>79|205=>318|243=>149|246=>154|283=>221|284=>222|285=>223|286=>224|129=>252|317=>271|318=>272|319=>273|320=>274|337=>303|338=>304|n=>n,fun|9=>9|3=>3|2=>2|75=>114|85=>277|4=>4|167=>287|5=>5|53=>238|175=>300|46=>177|168=>288|37=>110|0=>0|210=>304|21=>21|127=>181|145=>315|143=>313|171=>237|173=>241|212=>273|51=>236|20=>20|213=>274|232=>306|233=>307|80=>122|n=>n,fun|15=>4|16=>5|17=>2|18=>6|19=>7|n=>n⟩
theorem zdk:Go.Proofs.LaysC.n174 Tp zhx:={
 mixed:=by kernel_rfl
 f129:=LF Tryz.func252
 f171:=LF Tryz.func79
 f174:=LF Tryz.func277
 f205:=LF Tryz.func318
 f243:=LF Tryz.func149
 f245:=LF Tryz.func267
 f246:=LF Tryz.func154
 f247:=LF Tryz.func294
 f279:=LF Tryz.func295
 f280:=LF Tryz.func296
 f281:=LF Tryz.func297
 f282:=LF Tryz.func298
 f283:=LF Tryz.func221
 f284:=LF Tryz.func222
 f285:=LF Tryz.func223
 f286:=LF Tryz.func224
 f287:=LF Tryz.func316
 f316:=LF Tryz.func317
 f317:=LF Tryz.func271
 f318:=LF Tryz.func272
 f319:=LF Tryz.func273
 f320:=LF Tryz.func274
 f321:=LF Tryz.func325
 f322:=LF Tryz.func326
 f337:=LF Tryz.func303
 f338:=LF Tryz.func304
 t0:=BW
 a0:=CY
 z0:=CB
 v0:=Cc
 t2:=Tryz.underlying2
 a2:=Tryz.isAgg2
 z2:=Tryz.sizeOf2
 v2:=Tryz.zeroValue2
 t3:=BB
 a3:=Cm
 z3:=B6
 v3:=BJ
 t4:=BC
 a4:=Cp
 z4:=Cg
 v4:=BO
 t5:=BF
 a5:=Cq
 z5:=Ci
 v5:=BP
 t9:=Br
 a9:=Cn
 z9:=Ca
 v9:=BK
 t20:=DD
 a20:=Eo
 z20:=Eh
 v20:=DU
 t21:=CC
 a21:=Dp
 z21:=De
 v21:=CN
 t37:=Tryz.underlying110
 a37:=Tryz.isAgg110
 z37:=Tryz.sizeOf110
 v37:=Tryz.zeroValue110
 t46:=Tryz.underlying177
 a46:=Tryz.isAgg177
 z46:=Tryz.sizeOf177
 v46:=Tryz.zeroValue177
 t51:=Tryz.underlying236
 a51:=Tryz.isAgg236
 z51:=Tryz.sizeOf236
 v51:=Tryz.zeroValue236
 t53:=Tryz.underlying238
 a53:=Tryz.isAgg238
 z53:=Tryz.sizeOf238
 v53:=Tryz.zeroValue238
 t75:=Tryz.underlying114
 a75:=Tryz.isAgg114
 z75:=Tryz.sizeOf114
 v75:=Tryz.zeroValue114
 t85:=Tryz.underlying277
 a85:=Tryz.isAgg277
 z85:=Tryz.sizeOf277
 v85:=Tryz.zeroValue277
 t127:=Dq
 a127:=Ei
 z127:=Ec
 v127:=Tryz.zeroValue181
 t143:=Tryz.underlying313
 a143:=Tryz.isAgg313
 z143:=Tryz.sizeOf313
 v143:=Tryz.zeroValue313
 t145:=Tryz.underlying315
 a145:=Tryz.isAgg315
 z145:=Tryz.sizeOf315
 v145:=Tryz.zeroValue315
 t167:=Tryz.underlying287
 a167:=Tryz.isAgg287
 z167:=Tryz.sizeOf287
 v167:=Tryz.zeroValue287
 t168:=Tryz.underlying288
 a168:=Tryz.isAgg288
 z168:=Tryz.sizeOf288
 v168:=Tryz.zeroValue288
 t171:=Tryz.underlying237
 a171:=Tryz.isAgg237
 z171:=Tryz.sizeOf237
 v171:=Tryz.zeroValue237
 t173:=Tryz.underlying241
 a173:=Tryz.isAgg241
 z173:=Tryz.sizeOf241
 v173:=Tryz.zeroValue241
 t175:=Tryz.underlying300
 a175:=Tryz.isAgg300
 z175:=Tryz.sizeOf300
 v175:=Tryz.zeroValue300
 t210:=Tryz.underlying304
 a210:=Tryz.isAgg304
 z210:=Tryz.sizeOf304
 v210:=Tryz.zeroValue304
 t212:=Tryz.underlying273
 a212:=Tryz.isAgg273
 z212:=Tryz.sizeOf273
 v212:=Tryz.zeroValue273
 t213:=Tryz.underlying274
 a213:=Tryz.isAgg274
 z213:=Tryz.sizeOf274
 t232:=Tryz.underlying306
 a232:=Tryz.isAgg306
 z232:=Tryz.sizeOf306
 v232:=Tryz.zeroValue306
 t233:=Tryz.underlying307
 a233:=Tryz.isAgg307
 z233:=Tryz.sizeOf307
 v233:=Tryz.zeroValue307
 g15:=by kernel_rfl
 g16:=by kernel_rfl
 g17:=by kernel_rfl
 g18:=by kernel_rfl
 g19:=by kernel_rfl
 t80:=Tryz.underlying122
 a80:=Tryz.isAgg122
 z80:=Tryz.sizeOf122
 v80:=Tryz.zeroValue122
 i0:=by kernel_rfl
 i2:=by kernel_rfl
 i3:=by kernel_rfl
 i4:=by kernel_rfl
 i5:=by kernel_rfl
 i9:=by kernel_rfl
 i20:=by kernel_rfl
 i21:=by kernel_rfl
 i37:=by kernel_rfl
 i46:=by kernel_rfl
 i51:=by kernel_rfl
 i53:=by kernel_rfl
 i75:=by kernel_rfl
 i80:=by kernel_rfl
 i85:=by kernel_rfl
 i127:=by kernel_rfl
 i143:=by kernel_rfl
 i145:=by kernel_rfl
 i167:=by kernel_rfl
 i168:=by kernel_rfl
 i171:=by kernel_rfl
 i173:=by kernel_rfl
 i175:=by kernel_rfl
 i210:=by kernel_rfl
 i212:=by kernel_rfl
 i232:=by kernel_rfl
 i233:=by kernel_rfl
 m15:=by kernel_rfl
 m16:=by kernel_rfl
 m17:=by kernel_rfl
 m18:=by kernel_rfl
 m19:=by kernel_rfl
 c0:=by kernel_rfl
 c2:=by kernel_rfl
 c3:=by kernel_rfl
 c4:=by kernel_rfl
 c5:=by kernel_rfl
 c9:=by kernel_rfl
 c20:=by kernel_rfl
 c21:=by kernel_rfl
 c37:=by kernel_rfl
 c46:=by kernel_rfl
 c51:=by kernel_rfl
 c53:=by kernel_rfl
 c75:=by kernel_rfl
 c80:=by kernel_rfl
 c85:=by kernel_rfl
 c127:=by kernel_rfl
 c143:=by kernel_rfl
 c145:=by kernel_rfl
 c167:=by kernel_rfl
 c168:=by kernel_rfl
 c171:=by kernel_rfl
 c173:=by kernel_rfl
 c175:=by kernel_rfl
 c210:=by kernel_rfl
 c212:=by kernel_rfl
 c213:=by kernel_rfl
 c232:=by kernel_rfl
 c233:=by kernel_rfl }
theorem Zm(s:Bt)(Z:s.size<=9223372036854775806)(v:Int)(h:Lib.parseIntB 64 s.data.toList=.ok v)(w:World):
  Calls Tp 277 #[.string s,.int .i64 10,.int .i64 64] w λe w'=>e=.returned (.tuple #[.int .i64 v,.nilIface])/\(w'=w\/∃t,w'=Lib.bytesWorld w 5 t):=Any.strconv_ParseInt_10_at64_ok zdk s Z v h w
theorem ww(s:Bt)(Z:s.size<=281474976710656)(h:Lib.parseIntB 64 s.data.toList=Lib.parseIntB 64 [])(ev:Value)(w:World)(hv:w.cell? ⟨4,0,none⟩=some ev)(aa:ev=.nilIface\/∃te pe,ev=.iface te pe):
  Calls Tp 277 #[.string s,.int .i64 10,.int .i64 64] w λe w'=>∃N,e=.returned (.tuple #[.int .i64 (0),.iface 288 (.pointer (some ⟨N,0,none⟩))])/\w.heap.size<=N/\w'.heap[N]?=some (.cells #[.string ⟨#[80,97,114,115,101,73,110,116]⟩,.string s,ev] 304 (0,0))/\Below w.heap.size w w':=Any.strconv_ParseInt_10_at64_syntax zdk s Z h ev w hv aa
theorem xd(s:Bt)(Z:s.size<=281474976710656)(h:Lib.parseIntB 64 s.data.toList=.range)(ev:Value)(w:World)(hv:w.cell? ⟨5,0,none⟩=some ev)(aa:ev=.nilIface\/∃te pe,ev=.iface te pe):
  Calls Tp 277 #[.string s,.int .i64 10,.int .i64 64] w λe w'=>∃N,e=.returned (.tuple #[.int .i64 (Lib.intSat 64 s.data.toList),.iface 288 (.pointer (some ⟨N,0,none⟩))])/\w.heap.size<=N/\w'.heap[N]?=some (.cells #[.string ⟨#[80,97,114,115,101,73,110,116]⟩,.string s,ev] 304 (0,0))/\Below w.heap.size w w':=Any.strconv_ParseInt_10_at64_range zdk s Z h ev w hv aa
def zni:Go.Shelf.Ren:=⟨fun|99=>156|206=>227|n=>n,fun|9=>9|4=>4|3=>3|n=>n,fun|n=>n⟩
theorem z02:Go.Proofs.Lays.n99 Tp zni:={
 mixed:=by kernel_rfl
 f99:=LF Tryz.func156
 f206:=LF Tryz.func227
 t3:=BB
 a3:=Cm
 z3:=B6
 v3:=BJ
 t4:=BC
 a4:=Cp
 z4:=Cg
 v4:=BO
 t9:=Br
 a9:=Cn
 z9:=Ca
 v9:=BK }
open Go.RowKit Go.Lib in
theorem zay(s p:Bt)(w:World):
  Calls Tp 156 #[.string s,.string p] w λe w'=>e=.returned (.bool (Lib.hasPrefix s.data.toList p.data.toList))/\w'=w:=Any.strings_HasPrefix z02 s p w
def zk2:Go.Shelf.Ren:=⟨fun|101=>140|208=>213|206=>227|n=>n,fun|9=>9|4=>4|3=>3|n=>n,fun|n=>n⟩
theorem zw8:Go.Proofs.Lays.n101 Tp zk2:={
 mixed:=by kernel_rfl
 f101:=LF Tryz.func140
 f206:=LF Tryz.func227
 f208:=LF Tryz.func213
 t3:=BB
 a3:=Cm
 z3:=B6
 v3:=BJ
 t4:=BC
 a4:=Cp
 z4:=Cg
 v4:=BO
 t9:=Br
 a9:=Cn
 z9:=Ca
 v9:=BK }
open Go.RowKit Go.Lib in
theorem Xx(s p:Bt)(w:World):
  Calls Tp 140 #[.string s,.string p] w λe w'=>e=.returned (.string ⟨(Lib.trimPrefix s.data.toList p.data.toList).toArray⟩)/\w'=w:=Any.strings_TrimPrefix zw8 s p w
def zk3:Go.Shelf.Ren:=⟨fun|197=>151|260=>218|n=>n,fun|9=>9|21=>21|3=>3|4=>4|5=>5|105=>174|119=>230|0=>0|46=>177|139=>233|138=>232|n=>n,fun|3=>0|4=>1|n=>n⟩
theorem zw9:Go.Proofs.Lays.n197 Tp zk3:={
 mixed:=by kernel_rfl
 f197:=LF Tryz.func151
 f260:=LF Tryz.func218
 t0:=BW
 a0:=CY
 z0:=CB
 v0:=Cc
 t3:=BB
 a3:=Cm
 z3:=B6
 v3:=BJ
 t4:=BC
 a4:=Cp
 z4:=Cg
 v4:=BO
 t5:=BF
 a5:=Cq
 z5:=Ci
 v5:=BP
 t9:=Br
 a9:=Cn
 z9:=Ca
 v9:=BK
 t21:=CC
 a21:=Dp
 z21:=De
 v21:=CN
 t46:=Tryz.underlying177
 a46:=Tryz.isAgg177
 z46:=Tryz.sizeOf177
 v46:=Tryz.zeroValue177
 t105:=Tryz.underlying174
 a105:=Tryz.isAgg174
 z105:=Tryz.sizeOf174
 v105:=Tryz.zeroValue174
 t119:=Tryz.underlying230
 a119:=Tryz.isAgg230
 z119:=Tryz.sizeOf230
 t138:=Tryz.underlying232
 a138:=Tryz.isAgg232
 z138:=Tryz.sizeOf232
 v138:=Tryz.zeroValue232
 t139:=Tryz.underlying233
 a139:=Tryz.isAgg233
 z139:=Tryz.sizeOf233
 v139:=Tryz.zeroValue233
 g3:=by kernel_rfl
 g4:=by kernel_rfl }
def zk4:Go.Shelf.Ren:=⟨fun|150=>209|153=>265|152=>269|226=>293|227=>143|228=>214|137=>212|119=>300|224=>301|225=>302|217=>268|266=>299|n=>n,fun|9=>9|4=>4|3=>3|5=>5|21=>21|117=>170|116=>169|0=>0|46=>177|124=>173|n=>n,fun|n=>n⟩
theorem zxa:Go.Proofs.Lays.n150 Tp zk4:={
 mixed:=by kernel_rfl
 f119:=LF Tryz.func300
 f137:=LF Eb
 f150:=LF Tryz.func209
 f152:=LF Tryz.func269
 f153:=LF Tryz.func265
 f217:=LF Tryz.func268
 f224:=LF Tryz.func301
 f225:=LF Tryz.func302
 f226:=LF Tryz.func293
 f227:=LF Tryz.func143
 f228:=LF Tryz.func214
 f266:=LF Tryz.func299
 t0:=BW
 a0:=CY
 z0:=CB
 v0:=Cc
 t3:=BB
 a3:=Cm
 z3:=B6
 v3:=BJ
 t4:=BC
 a4:=Cp
 z4:=Cg
 v4:=BO
 t5:=BF
 a5:=Cq
 z5:=Ci
 v5:=BP
 t9:=Br
 a9:=Cn
 z9:=Ca
 v9:=BK
 t21:=CC
 a21:=Dp
 z21:=De
 v21:=CN
 t46:=Tryz.underlying177
 a46:=Tryz.isAgg177
 z46:=Tryz.sizeOf177
 v46:=Tryz.zeroValue177
 t116:=Tryz.underlying169
 a116:=Tryz.isAgg169
 z116:=Tryz.sizeOf169
 t117:=Tryz.underlying170
 a117:=Tryz.isAgg170
 z117:=Tryz.sizeOf170
 v117:=Tryz.zeroValue170
 t124:=Tryz.underlying173
 a124:=Tryz.isAgg173
 z124:=Tryz.sizeOf173
 v124:=Tryz.zeroValue173 }
open Go.RowKit Go.Lib in
theorem Qp(s Z:Bt)(w:World)(hs:s.size<4294967281)(aa:Z.size<4294967281)(ab:∀(j:Nat) b,s.data.toList[j]?=some b->b.toNat<128)(ae:∀(j:Nat) b,Z.data.toList[j]?=some b->b.toNat<128):
  Calls Tp 209 #[.string s,.string Z] w λe w'=>e=.returned (.bool (Lib.containsAny s.data.toList Z.data.toList))/\Below w.heap.size w w':=Any.strings_ContainsAny_laid zxa (by kernel_rfl) s Z w hs aa ab ae
def zcb:Go.Shelf.Ren:=⟨fun|105=>86|212=>155|99=>156|165=>157|166=>85|170=>158|169=>87|263=>225|264=>226|206=>227|240=>152|241=>228|276=>219|277=>275|n=>n,fun|9=>9|3=>3|4=>4|20=>20|0=>0|46=>177|109=>178|5=>5|72=>112|76=>117|51=>236|146=>243|53=>238|148=>245|70=>109|37=>110|75=>114|127=>181|164=>234|80=>122|n=>n,fun|n=>n⟩
theorem zxb:Go.Proofs.Lays.n105 Tp zcb:={
 mixed:=by kernel_rfl
 f99:=LF Tryz.func156
 f105:=LF Tryz.func86
 f165:=LF Tryz.func157
 f166:=LF Tryz.func85
 f169:=LF Tryz.func87
 f170:=LF Tryz.func158
 f206:=LF Tryz.func227
 f212:=LF Tryz.func155
 f240:=LF Tryz.func152
 f241:=LF Tryz.func228
 f263:=LF Tryz.func225
 f264:=LF Tryz.func226
 f276:=LF Tryz.func219
 f277:=LF Tryz.func275
 t0:=BW
 a0:=CY
 z0:=CB
 v0:=Cc
 t3:=BB
 a3:=Cm
 z3:=B6
 v3:=BJ
 t4:=BC
 a4:=Cp
 z4:=Cg
 v4:=BO
 t5:=BF
 a5:=Cq
 z5:=Ci
 v5:=BP
 t9:=Br
 a9:=Cn
 z9:=Ca
 v9:=BK
 t20:=DD
 a20:=Eo
 z20:=Eh
 v20:=DU
 t37:=Tryz.underlying110
 a37:=Tryz.isAgg110
 z37:=Tryz.sizeOf110
 v37:=Tryz.zeroValue110
 t46:=Tryz.underlying177
 a46:=Tryz.isAgg177
 z46:=Tryz.sizeOf177
 v46:=Tryz.zeroValue177
 t51:=Tryz.underlying236
 a51:=Tryz.isAgg236
 z51:=Tryz.sizeOf236
 v51:=Tryz.zeroValue236
 t53:=Tryz.underlying238
 a53:=Tryz.isAgg238
 z53:=Tryz.sizeOf238
 v53:=Tryz.zeroValue238
 t70:=Tryz.underlying109
 a70:=Tryz.isAgg109
 z70:=Tryz.sizeOf109
 v70:=Tryz.zeroValue109
 t72:=Tryz.underlying112
 a72:=Tryz.isAgg112
 z72:=Tryz.sizeOf112
 v72:=Tryz.zeroValue112
 t75:=Tryz.underlying114
 a75:=Tryz.isAgg114
 z75:=Tryz.sizeOf114
 v75:=Tryz.zeroValue114
 t76:=Tryz.underlying117
 a76:=Tryz.isAgg117
 z76:=Tryz.sizeOf117
 v76:=Tryz.zeroValue117
 t109:=Tryz.underlying178
 a109:=Tryz.isAgg178
 z109:=Tryz.sizeOf178
 v109:=Tryz.zeroValue178
 t127:=Dq
 a127:=Ei
 z127:=Ec
 v127:=Tryz.zeroValue181
 t146:=Tryz.underlying243
 a146:=Tryz.isAgg243
 z146:=Tryz.sizeOf243
 v146:=Tryz.zeroValue243
 t148:=Tryz.underlying245
 a148:=Tryz.isAgg245
 z148:=Tryz.sizeOf245
 v148:=Tryz.zeroValue245
 t164:=Tryz.underlying234
 a164:=Tryz.isAgg234
 z164:=Tryz.sizeOf234
 v164:=Tryz.zeroValue234 }
theorem zaz:Builder.Extra Tp zcb:={
 sizeBuilder:=by kernel_rfl
 liesBuilder:=by kernel_rfl
 t5:=BF
 a5:=Cq
 z5:=Ci
 v5:=BP
 infoByte:=by kernel_rfl
 cellsByte:=by kernel_rfl
 sizeByte:=by kernel_rfl
 neB5:=by decide }
open Go.RowKit Go.Lib in
theorem zeu(s:Bt)(c:Nat)(w:World)(hc:c<=9223372036854775807)(Z:s.size*c<=140737488355328):
  Calls Tp 86 #[.string s,.int .i64 c] w λe w'=>e=.returned (.string ⟨(Lib.repeatL s.data.toList c).toArray⟩)/\Below w.heap.size w w':=Any.strings_Repeat zxb zaz s c w hc Z
open Go.RowKit Go.Lib in
theorem Q8(s:Bt)(w:World)(hT:Lib.Utf8Tabs 0 1 w):
  Calls Tp 151 #[.string s] w λe w'=>e=.returned (.tuple #[.int .i32 (Lib.decodeGo s).1,.int .i64 (Lib.decodeGo s).2])/\Below w.heap.size w w':=Any.utf8_DecodeRuneInString zw9 s w hT
def zk5:Go.Shelf.Ren:=⟨fun|109=>276|n=>n,fun|31=>23|9=>9|3=>3|0=>0|4=>4|n=>n,fun|n=>n⟩
theorem znj:Go.Proofs.Lays.n109 Tp zk5:={
 mixed:=by kernel_rfl
 f109:=LF Tryz.func276
 t0:=BW
 a0:=CY
 z0:=CB
 v0:=Cc
 t3:=BB
 a3:=Cm
 z3:=B6
 v3:=BJ
 t4:=BC
 a4:=Cp
 z4:=Cg
 v4:=BO
 t9:=Br
 a9:=Cn
 z9:=Ca
 v9:=BK
 t31:=Tryz.underlying23
 a31:=Tryz.isAgg23
 z31:=Tryz.sizeOf23
 v31:=Tryz.zeroValue23 }
open Go.Lib in
theorem W0(b off n c:Nat)(zs:List Bt)(x:Bt)(w:World)(hz:n<=zs.length)(Z:n<=9223372036854775807)(hc:∀j,j<zs.length->w.cell? ⟨b,off+j,none⟩=some (.string (zs.getD j DZ))):
  Calls Tp 276 #[.slice (some ⟨b,off,none⟩) n c,.string x] w λe w'=>e=.returned (.int .i64 (Lib.idxOfS (zs.take n) x))/\w'=w:=Any.slices_Index_string znj b off n c zs x w hz Z hc
open Go.Lib in
theorem Qi(a:Option Addr)(c:Nat)(x:Bt)(w:World):
  Calls Tp 276 #[.slice a 0 c,.string x] w λe w'=>e=.returned (.int .i64 (Lib.idxOfS [] x))/\w'=w:=Any.slices_Index_string_empty znj a c x w
end
end Go.X
end
section
namespace Go.X
open Go Go.X Go.Proofs Go.RowKit
section
variable {gl M:Fr} {s:Bt} {R:Int -> Prop}
theorem W4{c:Int}(h:R (Lib.indexByte (lb s) c.toNat.toUInt8)):PC Tp gl 212 [Arg.mk .str s,Arg.mk (.int .u8) c] [.int .i64] R:=
 PC.of_same rfl (λ_=>zpz _ _) h λw _=>ja s c w
theorem znk{s p:Bt}{R:Bt×Bool->Prop}(h:R (bl (Lib.trimPrefix (lb s) (lb p)),Lib.hasPrefix (lb s) (lb p))):PC Tp gl 138 [Arg.mk .str s,Arg.mk .str p] [.str,.bool] R:=
 PC.of_same rfl (λM=>⟨[_,_],⟨_,_,rfl,rfl,_,rfl,rfl⟩,rfl⟩) h λw _=>zax s p w
theorem zk6{s p:Bt}{R:Bt->Prop}(h:R (bl (Lib.trimPrefix (lb s) (lb p)))):PC Tp gl 140 [Arg.mk .str s,Arg.mk .str p] [.str] R:=
 PC.of_same rfl (λ_=>zgj _) h λw _=>Xx s p w
theorem zp2{c:UInt8}(hc:c.toNat<128){R:Bt->Prop}(h:R (bl (Lib.trimLeftB (lb s) c))):PC Tp gl 76 [Arg.mk .str s,Arg.mk .str ⟨#[c]⟩] [.str] R:=
 PC.of_same rfl (λ_=>zgj _) h λw _=>J7 s c hc w
theorem znl{c:UInt8}(hc:c.toNat<128)(hs:s.size<=9223372036854775807){R:Bt->Prop}(h:R (bl (Lib.trimRightB (lb s) c))):PC Tp gl 77 [Arg.mk .str s,Arg.mk .str ⟨#[c]⟩] [.str] R:=
 PC.of_same rfl (λ_=>zgj _) h λw _=>Jr s c hc w hs
def z3j(gl:Fr):Prop:=∃(cs:Array Value) (m:Int),gl 3=some cs/\cs[0]?=some (.int .i64 m)
theorem zgq(w:World)(n:Nat):Below w.heap.size w (w.drewN n):=⟨rfl,rfl,rfl,Ad _,λ_ _=>rfl⟩
theorem zxc{c:Nat}(hc:c<=9223372036854775807)(Z:s.size*c<=140737488355328){R:Bt->Prop}(h:R (bl (Lib.repeatL (lb s) c))):PC Tp gl 86 [Arg.mk .str s,Arg.mk (.int .i64) (c:Int)] [.str] R:=
 PC.of_scal rfl (λ_=>zgj _) h λw hw=>zeu s c w hc Z
def Tabs(gl:Fr):Prop:=(∃cs:Array Value,gl 0=some cs/\∀c,c<256->cs[c]?=some (.int .u8 (Lib.firstT c)))/\∃cs:Array Value,gl 1=some cs/\∀i,i<16->cs[2*i]?=some (.int .u8 (Lib.accLo i))/\cs[2*i+1]?=some (.int .u8 (Lib.accHi i))
theorem Tabs.at(h:Tabs gl){w:World}(hw:AgM gl w.heap):Lib.Utf8Tabs 0 1 w:=by
 obtain⟨⟨c1,a1,b1⟩,c2,a2,b2⟩:=h
 exact⟨λc hc=>hw.glob a1 (b1 c hc),λi hi=>⟨hw.glob a2 (b2 i hi).1,hw.glob a2 (b2 i hi).2⟩⟩
theorem znm(hg:Tabs gl){R:Int×Int->Prop}(h:R ((Lib.decodeGo s).1,(Lib.decodeGo s).2)):PC Tp gl 151 [Arg.mk .str s] [.int .i32,.int .i64] R:=
 PC.of_scal rfl (λM=>⟨[_,_],⟨_,_,rfl,rfl,_,rfl,rfl⟩,rfl⟩) h λw hw=>Q8 s w (hg.at hw)
theorem zue(w:World)(k:Nat)(os:Array Obj):Below w.heap.size w (Go.Sort.grow (w.drewN k) os):=⟨rfl,rfl,rfl,by simp[Go.Sort.grow,World.drewN],λi hi=>by
 show((w.drewN k).heap++os)[i]?=_
 exact Ck hi⟩
def Pow(gl : Fr): Prop := ∃ b cs, Tryz.prog.globalNamed "internal/strconv.uint64pow10" = some b ∧ gl b = some cs ∧ cs = (Lib.pow10Tab.map λz => Value.int .u64 z).toArray
theorem zxd(hg:Pow gl){n:Int}(h0:-9223372036854775808<=n)(h1:n<=9223372036854775807){R:Bt->Prop}(h:R (bl (Lib.itoa n))):PC Tp gl 79 [Arg.mk (.int .i64) n] [.str] R:=by
 obtain⟨b,cs,e1,e2,e3⟩:=hg
 refine PC.of_scal rfl (λ_=>zgj _) h λw hw=>(zhu n h0 h1 w ?_).mono λe w' ⟨he,k,os,Z⟩=>⟨he,Z ▸ zue w k os⟩
 obtain⟨T,m,e4⟩:=hw b cs e2
 unfold Lib.TabIs World.var?
 rw[e1]
 simp only[CK,e4,e3]
def z6h(l:List UInt8):Int×Bool:=match Lib.atoiAll l with
 |.ok v=>(v,true)
 |.range=>(Lib.atoiSat l,false)
 |_=>(0,false)
def zk7(gl:Fr):Prop:=(∃(cs:Array Value) (e:Value),gl 4=some cs/\cs[0]?=some e/\(e=.nilIface\/∃te pe,e=.iface te pe))/\∃(cs:Array Value) (e:Value),gl 5=some cs/\cs[0]?=some e/\(e=.nilIface\/∃te pe,e=.iface te pe)
theorem zgr(k:IntKind)(i:Int)(t:TypeId)(u:Value):zcu M [.int k,.err] (i,false) (.tuple #[.int k i,.iface t u]):=⟨[_,_],⟨_,_,rfl,rfl,.iface t u,rfl,⟨_,rfl,.inr ⟨rfl,_,_,rfl⟩⟩⟩,rfl⟩
theorem zgs(k:IntKind)(i:Int):zcu M [.int k,.err] (i,true) (.tuple #[.int k i,.nilIface]):=⟨[_,_],⟨_,_,rfl,rfl,.nilIface,rfl,⟨_,rfl,.inl ⟨rfl,rfl⟩⟩⟩,rfl⟩
theorem z6i(hg:zk7 gl)(hs:s.size<=281474976710656){R:Int×Bool->Prop}(h:R (z6h (lb s))):PC Tp gl 210 [Arg.mk .str s] [.int .i64,.err] R:=by
 unfold z6h at h
 cases hx:Lib.atoiAll (lb s)with
 |ok v=>
  rw[hx]at h
  refine PC.of_ex rfl λw hw=>(zdj s (by omega) v hx w).mono λe w' ⟨he,aa⟩=>⟨_,(v,true),he,λM=>zgs _ _,h,?_⟩
  rcases aa with rfl|⟨t,rfl⟩
  ·exact Below.refl _ _
  ·exact Lib.bytesWorld_below _ _ _
 |range=>
  rw[hx]at h
  obtain⟨_,⟨cs,ev,e1,e2,e3⟩⟩:=hg
  exact PC.of_ex rfl λw hw=>(Xw s hs hx ev w (hw.glob e1 e2) e3).mono λe w' ⟨N,he,_,_,Z⟩=>⟨_,(Lib.atoiSat (lb s),false),he,λM=>zgr _ _ _ _,h,Z⟩
 |_=>
  rw[hx]at h
  obtain⟨⟨cs,ev,e1,e2,e3⟩,_⟩:=hg
  exact PC.of_ex rfl λw hw=>(Wz s hs hx ev w (hw.glob e1 e2) e3).mono λe w' ⟨N,he,_,_,Z⟩=>⟨_,(0,false),he,λM=>zgr _ _ _ _,h,Z⟩
def zgt(l:List UInt8):Int×Bool:=match Lib.parseIntB 64 l with
 |.ok v=>(v,true)
 |.range=>(Lib.intSat 64 l,false)
 |_=>(0,false)
theorem zp3(hg:zk7 gl)(hs:s.size<=281474976710656){R:Int×Bool->Prop}(h:R (zgt (lb s))):PC Tp gl 277 [Arg.mk .str s,Arg.mk (.int .i64) 10,Arg.mk (.int .i64) 64] [.int .i64,.err] R:=by
 unfold zgt at h
 cases hx:Lib.parseIntB 64 (lb s)with
 |ok v=>
  rw[hx]at h
  refine PC.of_ex rfl λw hw=>(Zm s (by omega) v hx w).mono λe w' ⟨he,aa⟩=>⟨_,(v,true),he,λM=>zgs _ _,h,?_⟩
  rcases aa with rfl|⟨t,rfl⟩
  ·exact Below.refl _ _
  ·exact Lib.bytesWorld_below _ _ _
 |range=>
  rw[hx]at h
  obtain⟨_,⟨cs,ev,e1,e2,e3⟩⟩:=hg
  exact PC.of_ex rfl λw hw=>(xd s hs hx ev w (hw.glob e1 e2) e3).mono λe w' ⟨N,he,_,_,Z⟩=>⟨_,(Lib.intSat 64 (lb s),false),he,λM=>zgr _ _ _ _,h,Z⟩
 |_=>
  rw[hx]at h
  obtain⟨⟨cs,ev,e1,e2,e3⟩,_⟩:=hg
  exact PC.of_ex rfl λw hw=>(ww s hs hx ev w (hw.glob e1 e2) e3).mono λe w' ⟨N,he,_,_,Z⟩=>⟨_,(0,false),he,λM=>zgr _ _ _ _,h,Z⟩
theorem zhy{s c:Bt}(hs:s.size<4294967281)(hc:c.size<4294967281)(Z:∀(j:Nat) b,(lb s)[j]?=some b->b.toNat<128)(aa:∀(j:Nat) b,(lb c)[j]?=some b->b.toNat<128){R:Bool->Prop}(h:R (Lib.containsAny (lb s) (lb c))):
  PC Tp gl 209 [Arg.mk .str s,Arg.mk .str c] [.bool] R:=
 PC.of_scal rfl (λ_=>zr1 _) h λw hw=>Qp s c w hs hc Z aa
theorem zhz{xs:List Bt}{x:Bt}(h:R (Lib.idxOfS xs x)):PC Tp gl 276 [Arg.mk (.row .str) xs,Arg.mk .str x] [.int .i64] R:=by
 intro hp M vs hM ag ha
 match vs,ha with
 |[u,v],⟨h1,h2,_⟩=>
  have aa:Rd M (.row .str) xs [u]:=by simpa[RdV,zhf]using h1
  have Z:v=.string x:=by simpa[RdV,zhf,Rd]using h2
  subst Z
  obtain⟨s,rfl,hl,hn,cells,hc,ha⟩:=Rd.rowC ag aa
  have:=zei hc
  subst this
  have key:∀w:World,w.heap=hp->Calls Tp 276 #[slV s,.string x] w λe w'=>e=.returned (.int .i64 (Lib.idxOfS xs x))/\w'=w:=by
   intro w hw
   rcases ha with h0|⟨b,o,e1,e2,e3⟩
   ·have hx:xs=[]:=by simpa using h0
    subst hx
    have:=Qi s.a s.cap x w
    simp only[slV,hl];exact this
   ·have:=W0 b o s.len s.cap xs x w (by omega) (by omega) (λj hj=>by
     have:=e3 j (.string (xs.getD j DZ)) (by rw[BS,Ai hj,Cz,Ai hj];rfl)
     rw[<-hw]at this
     exact this)
    rw[hl,Bb]at this
    simp only[slV,e1,hl];exact this
  refine XC.of_calls λB d=>(key (mk B d hp) rfl).mono ?_
  rintro e w' ⟨rfl,rfl⟩
  exact⟨_,rfl,rfl,rfl,rfl,Keep.refl _ _,M,_,Fr.le.refl _,λ_ _=>rfl,ag,zpz _ _,h⟩
end
end Go.X
end
section
namespace Go.X
open Go Go.Lib
section
theorem zj(l:Bs):(bl l).size=l.length:=by rw[<-zgp,y9]
theorem xu(l:Bs)(a b:Nat):(bl l).extract a b=bl ((l.drop a).take (b-a)):=by rw[<-znh,zua,y9,y9]
theorem Yt(a b:Bs):bl a++bl b=bl (a++b):=by rw[<-znh,zwz,y9,y9,y9]
theorem jk(l:Bs)(i:Nat):zb (bl l) i=((l[i]?.getD 0).toNat:Int):=by rw[zw0,y9]
theorem Yu(s:Bt):s.toList=lb s:=by
 cases s with
 |mk d=>exact Go.Lib.toList_data ⟨d⟩
theorem zev(a b:Bs):((bl a).toList==(bl b).toList)=decide (a=b):=by
 rw[Yu,Yu,y9,y9]
 rw[AH];simp
theorem z3k{a b:Bs}:bl a=bl b↔a=b:=by rw[<-znh,y9,y9]
theorem znn(l:Bs)(p:Nat):nxB (bl l) p=decide (p<l.length):=by
 rw[AH];simp[nxB,zj]
theorem zr4(l:Bs)(p:Nat):nxR (bl l) p=((dec (l.drop p)).1:Int):=by rw[nxR,zr3,y9]
theorem zjf(l:Bs)(p:Nat)(h:p<l.length):nxP (bl l) p=p+(dec (l.drop p)).2:=by
 rw[nxP,zr3,y9]
 have:Nat.blt p (bl l).size=true:=by simp[zj,h]
 rw[this];rfl
theorem zr5{l:Bs}{i:Nat}(h:i<l.length):l[i]?.getD 0=l[i]:=by rw[Ai h];rfl
def qs(c:UInt8):Bool:=decide (48<=c.toNat)&&decide (c.toNat<=57)
def J8(l:Bs):Bool:=l.all qs && !l.isEmpty
abbrev Nm:=Bool×Bs×Int
abbrev nmB(n:Nm):Bool×Bt×Int:=(n.1,(bl n.2.1,n.2.2))
def W5(n:Nm):Bool:=!n.1&&(n.2.1.isEmpty&&n.2.2==0)
def yr(n:Nm):Bool:=W5 n||(J8 n.2.1&&decide (n.2.1.length<=1000)&&n.2.1.head? != some 48&&n.2.1.getLast? != some 48&&decide (-1000000<=n.2.2)&&decide (n.2.2<=1000000))
def ye(n:Nm):Bs:=if yr n then(if n.2.1=[]then [48]else(if n.1 then [45]else [])++n.2.1++(if n.2.2=0 then []else 101::Go.Lib.itoa n.2.2))else []
theorem zgu{n:Nm}(h:yr n=true)(e:n.2.1=[]):W5 n=true:=by
 unfold yr at h
 rcases BN _ _ ▸ h with h|h
 ·exact h
 ·simp[J8,e]at h
theorem za0{n:Nm}(h:yr n=true):n.2.1.length<=1000/\-1000000<=n.2.2/\n.2.2<=1000000:=by
 unfold yr W5 at h
 obtain⟨a,d,e⟩:=n
 simp at h
 rcases h with⟨_,h,h'⟩|h
 ·subst h;subst h';simp
 ·simp only;omega
def cutAt(p:UInt8->Bool):Bs->Bs×Bs×Bool
 |[]=>([],[],false)
 |c::l=>if p c then([],l,true)else(c::(cutAt p l).1,(cutAt p l).2)
theorem Xr{p:UInt8->Bool}:∀{l},(∀c∈l,p c=false)->cutAt p l=(l,[],false)
 |[],_=>rfl
 |c::l,h=>by
  unfold cutAt
  rw[if_neg (by simp[h c (by simp)]),Xr λc hc=>h c (by simp[hc])]
theorem zk8{p:UInt8->Bool}:∀{l:Bs} {k:Nat} (hk:k<l.length),(∀i (hi:i<k),p (l[i]'(by omega))=false)->p l[k]=true->cutAt p l=(l.take k,l.drop (k+1),true)
 |c::l,0,_,_,h=>by
  unfold cutAt
  rw[if_pos (by simpa using h)];simp
 |c::l,k+1,hk,h0,h=>by
  unfold cutAt
  have h1:p c=false:=h0 0 (by omega)
  rw[if_neg (by simp[h1]),zk8 (k:=k) (by simpa using hk) (λi hi=>by simpa using h0 (i+1) (by omega)) (by simpa using h)]
  simp
structure Lit where
 neg:Bool
 whole:Bs
 rest:Bs
 low:Bool
 exp:Bs
def zxe(s:Bs):Bs:=if s.head?==some 45 then s.tail else s
def isE(c:UInt8):Bool:=c==101||c==69
def zp4(c:UInt8):Bool:=c==46
def Yv(s:Bs):Bs×Bs×Bool:=cutAt isE (zxe s)
def Q2(s:Bs):Bool:=(Yv s).2.2&&(Yv s).2.1.head?==some 45
def zjg(s:Bs):Bs:=if Q2 s then(Yv s).2.1.tail else if(Yv s).2.1.head?==some 43 then(Yv s).2.1.tail else(Yv s).2.1
def Zw(s:Bs):Bs×Bs×Bool:=cutAt zp4 (Yv s).1
def zgv(s:Bs):Bool:=(!(Yv s).2.2||J8 (zjg s))&&J8 (Zw s).1&&(!(Zw s).2.2||J8 (Zw s).2.1)&&((Zw s).1==[48]||(Zw s).1.head? != some 48)
def zew(s:Bs):Lit:=⟨s.head?==some 45,(Zw s).1,(Zw s).2.1,Q2 s,if(Yv s).2.2 then zjg s else []⟩
def W6(s:Bs):Option Lit:=if zgv s then some (zew s)else none
theorem zgw{s:Bs}{x:Lit}(h:W6 s=some x):zgv s=true/\x=zew s:=by
 unfold W6 at h
 split at h
 ·rename_i e;exact⟨e,(Aq h).symm⟩
 ·exact absurd h (by simp)
theorem zdl{p:UInt8->Bool}:∀{l:Bs},(cutAt p l).2.2=false->(cutAt p l).1=l/\(cutAt p l).2.1=[]
 |[],_=>⟨rfl,rfl⟩
 |c::l,h=>by
  unfold cutAt at h ⊢
  split
  ·rename_i e;rw[if_pos e]at h;exact absurd h (by simp)
  ·rename_i e
   rw[if_neg e]at h
   have:=zdl h
   exact⟨by simp[this.1],this.2⟩
def yu(l:Bs):Bs:=((l.dropWhile (· == 48)).reverse.dropWhile (· == 48)).reverse
def zk(l:Bs):Nat:=l.foldl (λn c=>10*n+(c.toNat-48)) 0
def zn(s:Bs):Nm×Int:=match W6 s with
 |none=>((false,[],0),2)
 |some x=>
  if x.whole.length+x.rest.length>1000 then((false,[],0),3)
  else if(x.exp.dropWhile (· == 48)).length>9 then((false,[],0),4)
  else
   let e:Int:=if x.low then-(zk (x.exp.dropWhile (· == 48)):Int)else zk (x.exp.dropWhile (· == 48))
   let d:=(x.whole++x.rest).dropWhile (· == 48)
   let Z:=yu (x.whole++x.rest)
   if d=[]then((false,[],0),0)
   else if -1000000<=e-x.rest.length+d.length-Z.length/\e-x.rest.length+d.length-Z.length<=1000000 then((x.neg,Z,e-x.rest.length+d.length-Z.length),0)
   else((false,[],0),4)
def z03(n:Nm):Int×Bool:=
 if yr n&&decide (0<=n.2.2)&&decide ((n.2.1.length:Int)+n.2.2<=19)then
  let v:Int:=if n.1 then-((zk n.2.1*10 ^ n.2.2.toNat:Nat):Int)else(zk n.2.1*10 ^ n.2.2.toNat:Nat)
  if -9223372036854775808<=v/\v<=9223372036854775807 then(v,true)else(0,false)
 else(0,false)
end
end Go.X
end
section
namespace Go.X
section
variable {n:Nat} {l:Bs} {gl:Fr} {R:Bool -> Prop}
theorem Xy{k n:Nat}(h:k<n)(hn:n<=4611686018427387904):Ab .i64 ((k:Int)+1)=((k+1:Nat):Int):=zvr (by omega)
theorem z6j(h:l≠[]):(48<=(dec l).1/\(dec l).1<=57)->(dec l).2=1/\∃c t,l=c::t/\qs c=true/\(dec l).1=c.toNat:=by
 obtain⟨c,t,rfl⟩:=A6 h
 intro hh
 by_cases hc:c.toNat<128
 ·rw[Yq hc]at hh ⊢
  exact⟨rfl,c,t,rfl,by simp[qs];simpa using hh,rfl⟩
 ·exfalso
  unfold dec at hh
  have b0:((c::t).getD 0 0).toNat=c.toNat:=rfl
  rw[b0]at hh
  have:=c.toNat_lt
  have b1:=((c::t).getD 1 0).toNat_lt;have b2:=((c::t).getD 2 0).toNat_lt;have b3:=((c::t).getD 3 0).toNat_lt
  generalize ((c::t).getD 1 0).toNat=x1 at *
  generalize ((c::t).getD 2 0).toNat=x2 at *
  generalize ((c::t).getD 3 0).toNat=x3 at *
  generalize c.toNat=x0 at *
  unfold Lib.decodeN at hh
  rw[if_neg hc]at hh
  split at hh
  ·split at hh <;> simp only at hh <;> omega
  ·split at hh
   ·split at hh <;> simp only at hh <;> omega
   ·split at hh
    ·split at hh <;> simp only at hh <;> omega
    ·simp only at hh;omega
theorem zcc(h:R (J8 l)):PC Tp gl 141 [Arg.mk .str (bl l)] [.bool] R:=by
 apply zet
 refine⟨λp=>p.1=bl l/\p.2<=l.length/\(l.drop p.2).all qs=l.all qs,λp=>l.length-p.2,⟨rfl,by omega,by simp⟩,?_⟩
 rintro⟨_,p⟩ ⟨rfl,hp,h2⟩
 simp only at hp h2 ⊢
 rw[znn,zr4]
 refine⟨λhc=>⟨hc,λhx=>?_,λhx=>?_⟩,λhc=>?_⟩
 all_goals first
  |have ab:p<l.length:=by simpa using hc
  |have ab:¬p<l.length:=by simpa using hc
 ·have aa:l.drop p≠[]:=λe=>by have:=congrArg Dd e;simp at this;omega
  have hd:¬(48<=(dec (l.drop p)).1/\(dec (l.drop p)).1<=57):=by
   rw[Ce]at hx
   rcases BN _ _ ▸ hx with hx|hx <;> simp at hx <;> omega
  have hf:l.all qs=false:=by
   rw[<-h2]
   obtain⟨c,t,e⟩:=A6 aa
   rw[e]
   cases Z:qs c with
   |false=>simp[Z]
   |true=>
    exfalso;apply hd
    have:c.toNat<128:=by simp[qs]at Z;omega
    rw[e,Yq this]
    simpa[qs]using Z
  have:J8 l=false:=by simp[J8,hf]
  rw[this]at h;exact h
 ·have aa:l.drop p≠[]:=λe=>by have:=congrArg Dd e;simp at this;omega
  have hd:48<=(dec (l.drop p)).1/\(dec (l.drop p)).1<=57:=by
   rw[Ce]at hx
   have:=BZ.1 hx
   simp at this;omega
  obtain⟨h1,c,t,e,Z,_⟩:=z6j aa hd
  rw[zjf l p ab,h1]
  refine⟨⟨trivial,by omega,?_⟩,by omega⟩
  have e2:l.drop (p+1)=t:=by rw[<-BR,e];rfl
  rw[e2,<-h2,e];simp[Z]
 ·have:l.drop p=[]:=Bj (by omega)
  rw[this]at h2
  have e:J8 l=!(decide (l=[])):=by
   rw[J8,<-h2];cases l <;> simp
  have:=zev l []
  rw[show(⟨#[]⟩:Bt)=bl []from rfl,this,<-e];exact h
abbrev tN:Ty:=.pair .bool (.pair .str (.int .i64))
theorem zr6(h:0<l.length):(((l[0]?.getD 0).toNat:Int) != 48)=(l.head? != some 48):=by
 cases l with
 |nil=>simp at h
 |cons c t=>
  rw[AH];simp
  constructor
  ·intro h1 h2;exact h1 (by rw[h2];rfl)
  ·intro h1 h2;exact h1 (D3.1 (by(have:c.toNat=48:=by omega);rw[this];rfl))
theorem z04(h:0<l.length):(((l[l.length-1]?.getD 0).toNat:Int) != 48)=(l.getLast? != some 48):=by
 rw[List.getLast?_eq_getElem?]
 rw[Ai (by omega)]
 rw[AH];simp
 constructor
 ·intro h1 h2;exact h1 (by rw[h2];rfl)
 ·intro h1 h2;exact h1 (D3.1 (by(have:l[l.length-1].toNat=48:=by omega);rw[this];rfl))
theorem zr7(h:J8 l=true):0<l.length:=by
 cases l with
 |nil=>simp[J8]at h
 |cons=>simp
theorem z6k(h:0<n)(hn:n<=4611686018427387904):Ab .i64 ((n:Int)-1)=((n-1:Nat):Int):=by
 rw[wrap64 (by omega) (by omega)];omega
theorem zk9{n:Nm}(hn:n.2.1.length<=4611686018427387904)(h:R (yr n)):PC Tp gl 78 [Arg.mk tN (nmB n)] [.bool] R:=by
 apply zgm
 simp only[show(⟨#[]⟩:Bt)=bl []from rfl,zev,zj,jk]
 have e:((n.1==false)&&(decide (n.2.1=[])&&((n.2.2==0)&&true)))=W5 n:=by
  unfold W5
  rcases n with⟨_|_,_|⟨_,_⟩,e⟩ <;> simp
 rw[e]
 refine⟨λh1=>?_,λh1=>?_⟩
 ·have:yr n=true:=by simp[yr,h1]
  rw[this]at h;exact h
 ·unfold yr at h
  rw[h1,Dx]at h
  refine zcc ⟨λh2=>⟨λ_=>?_,λh3=>?_⟩,λh2=>⟨λh3=>⟨λ_=>?_,λh4=>?_⟩,λh3=>⟨?_,λh4=>⟨λ_=>?_,λh5=>?_⟩,λh4=>⟨?_,λh5=>?_,λh5=>?_⟩⟩⟩⟩
  ·have:J8 n.2.1=false:=by simpa using h2
   rw[this]at h;simpa using h
  ·rw[h2]at h3;cases h3
  ·have:decide (n.2.1.length<=1000)=false:=by simp at h3 ⊢;omega
   rw[this]at h;simpa using h
  ·rw[h3]at h4;cases h4
  all_goals
   have hd:J8 n.2.1=true:=by simpa using h2
   have hp:=zr7 hd
   have Z:decide (n.2.1.length<=1000)=true:=by simp at h3 ⊢;omega
   have eh:=zr6 hp
   have el:=z04 hp
  ·omega
  ·have:(n.2.1.head? != some 48)=false:=by
    rw[<-eh];simp at h4 ⊢;exact h4
   rw[this]at h;simpa using h
  ·rw[h4]at h5;cases h5
  ·rw[z6k hp hn];omega
  ·have:(n.2.1.getLast? != some 48)=false:=by
    rw[<-el];rw[z6k hp hn]at h5;simp at h5 ⊢;exact h5
   rw[this]at h;simpa using h
  ·have e1:(n.2.1.head? != some 48)=true:=by
    rw[<-eh];simp at h4 ⊢;exact h4
   have e2:(n.2.1.getLast? != some 48)=true:=by
    rw[<-el];rw[z6k hp hn]at h5;simp at h5 ⊢;exact h5
   rw[hd,Z,e1,e2]at h
   simp only[Cd]at h
   rw[Bool.cond_false_right]
   exact h
end
end Go.X
end
section
namespace Go.X
open Go Go.Lib
section
variable {n k:Nat} {l s:Bs}
theorem u8n{c:UInt8}(hn:n<256):c=BX n↔c.toNat=n:=by
 constructor
 ·rintro rfl;simp;omega
 ·intro h;rw[<-h];simp
theorem wy(c:UInt8):∀l:Bs,-1<=indexByte l c/\(0<=indexByte l c↔c∈l)
 |[]=>by simp[indexByte]
 |b::l=>by
  have ih:=wy c l
  unfold indexByte
  by_cases h:b=c
  ·simp[h]
  ·have h':¬c=b:=λe=>h e.symm
   simp only[beq_iff_eq,h,if_false,Af,h',false_or]
   obtain⟨i1,i2⟩:=ih
   split
   ·rename_i e
    rw[e]at i2
    exact⟨by omega,by rw[<-i2]⟩
   ·rename_i e
    refine⟨by omega,?_⟩
    rw[<-i2];omega
theorem Jt(u:Nat):(decDigits u).length<=u+1:=by
 rw[decDigits]
 split
 ·simp
 ·rename_i h
  have:=Jt (u / 10)
  simp;omega
theorem itoa_len(n:Int):(itoa n).length<=n.natAbs+2:=by
 unfold itoa
 split
 ·have:=Jt n.natAbs;simp;omega
 ·have:=Jt n.toNat;omega
theorem zcd(l:Bs)(c:UInt8):hasPrefix l [c]=(l.head?==some c):=by
 cases l with
 |nil=>rfl
 |cons b t=>simp[hasPrefix,List.isPrefixOf];rw[AH];simp;exact eq_comm
theorem X8(l:Bs)(c:UInt8):trimPrefix l [c]=if l.head?==some c then l.tail else l:=by
 unfold trimPrefix
 rw[zcd]
 split <;> simp
theorem zgx(l:Bs)(c:UInt8):zk (l++[c])=10*zk l+(c.toNat-48):=by simp[zk,List.foldl_append]
theorem zgy(hk:k<l.length):zk (l.take (k+1))=10*zk (l.take k)+(l[k].toNat-48):=by
 rw[AD hk,zgx]
theorem zr8{p:UInt8->Bool}(h:l.all p=true)(k:Nat):(l.take k).all p=true:=by
 rw[AX]at h ⊢
 exact λx hx=>h x (List.mem_of_mem_take hx)
theorem z3l(h:l.all qs=true)(hk:k<l.length):48<=l[k].toNat/\l[k].toNat<=57:=by
 have:=AX.1 h _ (AL hk)
 simpa[qs]using this
theorem zno:∀(n:Nat) (l:Bs),l.length=n->l.all qs=true->zk l<10 ^ n
 |0,l,h,_=>by
  have:l=[]:=AJ h
  subst this;simp[zk]
 |n+1,l,h,hd=>by
  have hl:l=l.take (n+1):=by rw[<-h,Bb]
  rw[hl,zgy (by omega)]
  have h1:=zno n (l.take n) (by simp;omega) (zr8 hd n)
  have h2:=z3l hd (k:=n) (by omega)
  rw[DV];omega
theorem W7(hn:l.length<=n)(h:l.all qs=true):zk l<10 ^ n:=
 Dk (zno _ l rfl h) (Nat.pow_le_pow_right (by omega) hn)
theorem Xs(h:J8 l=true):l.all qs=true:=by
 unfold J8 at h;exact(Bool.and_eq_true_iff.1 h).1
theorem Ju{p q:UInt8->Bool}(h:l.all p=true):(l.dropWhile q).all p=true:=by
 rw[AX]at h ⊢
 exact λx hx=>h x ((List.dropWhile_sublist q).mem hx)
theorem wz(l:Bs)(q:UInt8->Bool):(l.dropWhile q).length<=l.length:=(List.dropWhile_sublist q).length_le
theorem X9{q:UInt8->Bool}:∀c,(l.dropWhile q).head?=some c->q c=false:=by
 induction l with
 |nil=>simp
 |cons b t ih=>
  intro c h
  rw[List.dropWhile_cons]at h
  split at h
  ·exact ih c h
  ·rename_i hq;simp at h;subst h;exact Bool.eq_false_iff.2 hq
theorem zce(h:l.all qs=true)(Z:l.dropWhile (· == 48)≠[]):J8 (yu l)=true/\(yu l).length<=(l.dropWhile (· == 48)).length/\((yu l).head? != some 48)=true/\((yu l).getLast? != some 48)=true:=by
 unfold yu
 obtain⟨c,t,hd⟩:=A6 Z
 have hc:(c==48)=false:=by
  have:=X9 (l:=l) (q:=(· == 48)) c (by rw[hd];rfl)
  simpa using this
 have key:∀(t:Bs),∃u,((c::t).reverse.dropWhile (· == 48)).reverse=c::u:=by
  intro t
  rw[List.reverse_cons]
  have hx:∀(r:Bs),∃u,(r++[c]).dropWhile (· == 48)=u++[c]:=by
   intro r
   induction r with
   |nil=>exact⟨[],by simp[hc]⟩
   |cons b r ih=>
    rw[AO,List.dropWhile_cons]
    split
    ·exact ih
    ·exact⟨b::r,rfl⟩
  obtain⟨u,e⟩:=hx t.reverse
  exact⟨u.reverse,by rw[e];simp⟩
 rw[hd]
 obtain⟨u,e⟩:=key t
 refine⟨?_,?_,?_,?_⟩
 ·rw[J8,Bool.and_eq_true_iff]
  refine⟨?_,by rw[e];rfl⟩
  rw[List.all_reverse]
  apply Ju
  rw[List.all_reverse,<-hd]
  exact Ju h
 ·rw[List.length_reverse]
  refine D6 (wz _ _) ?_
  simp
 ·rw[e];simp;simpa using hc
 ·rw[List.getLast?_reverse]
  cases hh:((c::t).reverse.dropWhile (· == 48)).head? with
  |none=>rfl
  |some x=>
   have:=X9 (l:=(c::t).reverse) (q:=(· == 48)) x hh
   simpa using this
theorem zjh(h:l.all qs=true)(Z:l.dropWhile (· == 48)≠[])(hl:l.length<=1000)(neg:Bool)(e:Int):yr (neg,yu l,e)=(decide (-1000000<=e)&&decide (e<=1000000)):=by
 obtain⟨h1,h2,h3,h4⟩:=zce h Z
 have h5:=wz l (· == 48)
 have hp:(yu l).isEmpty=false:=by
  rw[J8]at h1
  have:=(Bool.and_eq_true_iff.1 h1).2
  simpa using this
 unfold yr W5
 simp only[h1,h3,h4,hp,Bool.and_false,DL,Dx,Cd]
 have:decide ((yu l).length<=1000)=true:=by simp;omega
 rw[this];simp
theorem zgz{x:Lit}(h:W6 s=some x):J8 x.whole=true/\x.rest.all qs=true/\x.exp.all qs=true:=by
 obtain⟨Z,rfl⟩:=zgw h
 unfold zgv at Z
 simp only[AY]at Z
 obtain⟨⟨⟨h1,h2⟩,h3⟩,h4⟩:=Z
 refine⟨h2,?_,?_⟩
 ·show(Zw s).2.1.all qs=true
  cases hp:(Zw s).2.2 with
  |true=>rw[hp]at h3;exact Xs (by simpa using h3)
  |false=>rw[show(Zw s).2.1=[]from(zdl hp).2];rfl
 ·show(if(Yv s).2.2 then zjg s else []).all qs=true
  cases hm:(Yv s).2.2 with
  |true=>rw[hm]at h1;simpa using Xs (by simpa using h1)
  |false=>rfl
theorem zdm(p:UInt8->Bool)(l:Bs):(cutAt p l).1.length+(cutAt p l).2.1.length<=l.length:=by
 induction l with
 |nil=>simp[cutAt]
 |cons c t ih=>unfold cutAt;split <;> simp <;> omega
theorem zji{x:Lit}(h:W6 s=some x):x.whole.length+x.rest.length+x.exp.length<=s.length:=by
 obtain⟨Z,rfl⟩:=zgw h
 have h1:(zxe s).length<=s.length:=by unfold zxe;split <;> simp
 have h2:=zdm isE (zxe s)
 have h3:=zdm zp4 (Yv s).1
 have h4:(zjg s).length<=(Yv s).2.1.length:=by
  unfold zjg
  split
  ·simp
  ·split <;> simp
 have h5:(if(Yv s).2.2 then zjg s else []).length<=(Yv s).2.1.length:=by
  split
  ·exact h4
  ·simp
 show(Zw s).1.length+(Zw s).2.1.length+(if(Yv s).2.2 then zjg s else []).length<=s.length
 unfold Zw
 unfold Yv at *
 omega
end
end Go.X
end
