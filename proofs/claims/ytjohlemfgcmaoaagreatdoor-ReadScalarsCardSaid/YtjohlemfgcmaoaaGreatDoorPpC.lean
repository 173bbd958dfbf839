/- A part of the proof: nothing is stated here for its own sake. -/
import Derived.Test.YtjohlemfgcmaoaaGreatDoorPpB
import Derived.ProofKit
import Derived.OpenShut
import Derived.ShutString
import Derived.SizedLaws
import Derived.LaidSub
import Derived.Lib.LaidU8
import Derived.Test.YtjohlemfgcmaoaaGreatDoorProg
import Derived.Lib.Replace
import Derived.Shelf.Strings.Trim
import Derived.Shelf.Small.Bits
import Derived.Shelf.Small.Wraps
import Derived.Shelf.Strings.BuilderRune
import Derived.Shelf.Utf8.AppendRune
import Derived.Shelf.Utf8.AppendRunePlain
import Derived.Shelf.Strconv.Itoa3
import Derived.Shelf.Strconv.AtoiErr
import Derived.Shelf.Strconv.ErrVarAll
import Derived.Shelf.Strconv.ErrVarParseInt
import Derived.Shelf.Pu.ParseUintPublic10
import Derived.Shelf.Sort.Plain
import Derived.Shelf.Unicode.Decode
import Derived.Shelf.Strings.IndexAnyAll
import Derived.Shelf.Strings.Repeat
import Derived.Shelf.Unicode.DecodeLast
import Derived.Shelf.Strings.BuilderCap
import Derived.Shelf.Slices.Turned
import Derived.Shelf.Slices.Clone
import Derived.Shelf.Slices.SearchI
import Derived.Shelf.Slices.In.SortNone
import Derived.Shelf.SlicesE.Clone
open _root_.Go.Addr renaming add->AD
open _root_.Array renaming getD_eq_getD_getElem?->BO,getElem?_append_left->CN,getElem?_eq_getElem->A0,getElem?_eq_some_iff->Au,getElem?_push->Cq,range->Et,replicate->Br,toList_map->Dc
open _root_.BitVec renaming ofInt->AH,ofInt_natCast->DN,toNat_ofNat->Eb
open _root_.Bool renaming and_eq_false_iff->CW,and_eq_true->BP,cond_true_left->Cr,eq_iff_iff->A6,false_and->DL,false_eq_true->Bv,false_or->DD,not_eq_true'->Dh,or_eq_false_iff->Cu,or_eq_true->Cb,true_and->Dj
open _root_.Go.Builtin renaming append_->AU
open _root_.Go.Code renaming cond->Ei,region->Em
open _root_.Go.Instr renaming fill->Eu
open _root_.Int renaming toNat_natCast->AK
open _root_.Go.IntKind renaming bits->AB,signed->Do,wrap->Ar
open _root_.List renaming all_eq_true->A5,append_assoc->Bo,append_nil->Bu,cons_append->A8,drop_drop->Bq,drop_eq_getElem_cons->A9,drop_eq_nil_of_le->BJ,drop_zero->Cc,eq_nil_of_length_eq_zero->Bb,exists_cons_of_ne_nil->BK,ext_getElem?->BB,getD_eq_getElem?_getD->Df,getElem?_drop->AY,getElem?_eq_getElem->AE,getElem?_eq_none->Ce,getElem?_eq_some_iff->AQ,getElem?_take->AR,getElem_mem->BG,getElem_of_mem->BR,length->Db,length_append->AF,length_cons->AN,length_drop->AW,length_eq_zero_iff->Bj,length_erase_of_mem->C3,length_pos_iff->BC,length_range->DG,mapM_cons->Ee,map_cons->Cf,mem_append->AP,mem_append_left->AJ,mem_append_right->AO,mem_cons->Ay,mem_cons_of_mem->Aw,mem_cons_self->AC,mem_range->BF,mem_singleton->BQ,nodup_range->Dm,pairwise_cons->BW,range->BS,take_append_drop->Cm,take_length->BL,take_of_length_le->Cv,take_succ_cons->Bw,take_succ_eq_append_getElem->Ba
open _root_.List.cons renaming injEq->Ca
open _root_.Nat renaming add_mul->Cp,add_zero->CM,blt_eq->CC,eq_of_beq_eq_true->Az,le_of_ble_eq_true->Cd,le_refl->Av,le_trans->Ec,lt_of_lt_of_le->Dr,lt_or_ge->A1,mod_eq_of_lt->DW,mul_comm->C4,mul_one->C5,or_lt_two_pow->DI,strongRecOn->DC,sub_zero->Dv,zero_add->AX,zero_le->Da
open _root_.Go.Next renaming value->Dt
open _root_.Option renaming bind_some->CX
open _root_.Option.some renaming inj->AL,injEq->As
open _root_.Pure renaming pure->Dg
open _root_.Go.Proofs.Tryz renaming func212->Eg,isAgg0->Di,isAgg21->DV,isAgg3->CJ,isAgg4->CQ,isAgg5->CK,isAgg9->CL,prog->A7,sizeOf0->C9,sizeOf21->DF,sizeOf3->Cy,sizeOf4->CF,sizeOf5->Cz,sizeOf9->CB,underlying0->Cw,underlying21->C6,underlying3->BZ,underlying4->B6,underlying5->BU,underlying9->BM,zeroValue0->CE,zeroValue21->Dd,zeroValue3->Cg,zeroValue4->Co,zeroValue5->Ci,zeroValue9->Cj
open _root_.UInt8 renaming ofNat->Be,toNat_inj->D7
open _root_.Go.Utf8 renaming decode->Es
open _root_.Go.Value.slice renaming injEq->A4
set_option linter.unusedVariables false
set_option maxRecDepth 100000
namespace Go.X
end Go.X
namespace Go.Proofs
end Go.Proofs
open Go Go.X Go.Proofs
section
namespace Go.X
section
variable {P:Program} {t tr tx:TypeId} {n d m i id:Nat} {cs R C:CS} {γ:Gh} {h:Za} {o:Oper} {sv:AV} {gl:Fr} {c:Zr} {ops:Array Oper} {pu ord:List Nat} {listed pl:Array Bool} {a:Act}
variable {h0 : Za} {W : Nat -> Prop} {M0 : Fr}
structure It where
 k:Nat
 dst:Option Nat
 ch:Zr
 av:AV
 nb:Option (Nat×Ch)
 us:Option Nat:=none
def itE:List It->Qe
 |[]=>[]
 |i::l=>match i.dst with
  |some s=>(s,i.ch,i.av)::itE l
  |none=>itE l
def itC:List It->CS
 |[]=>[]
 |i::l=>match i.nb with
  |some b=>b::itC l
  |none=>itC l
theorem zce{x:Nat×Zr×AV}:∀{l:List It},x∈itE l↔∃i∈l,i.dst=some x.1/\i.ch=x.2.1/\i.av=x.2.2
 |[]=>by simp[itE]
 |i::l=>by
  simp only[itE]
  split
  ·rename_i s hs
   rw[Ay,zce (l:=l)]
   constructor
   ·rintro(rfl|⟨j,hj,h⟩)
    ·exact⟨i,AC,hs,rfl,rfl⟩
    ·exact⟨j,Aw _ hj,h⟩
   ·rintro⟨j,hj,h1,h2,h3⟩
    rcases Ay.1 hj with rfl|hj
    ·left;rw[hs]at h1;cases h1;rw[h2,h3]
    ·exact .inr ⟨j,hj,h1,h2,h3⟩
  ·rename_i hs
   rw[zce (l:=l)]
   constructor
   ·rintro⟨j,hj,h⟩;exact⟨j,Aw _ hj,h⟩
   ·rintro⟨j,hj,h1,h2,h3⟩
    rcases Ay.1 hj with rfl|hj
    ·rw[hs]at h1;cases h1
    ·exact⟨j,hj,h1,h2,h3⟩
def zbo(S:List Nat):Qe->Qe
 |[]=>[]
 |(i,c,v)::e=>bif memN S i then(i,c,v)::zbo S e else zbo S e
theorem zag{S:List Nat}{x:Nat×Zr×AV}:∀{e:Qe},x∈zbo S e->x∈e/\x.1∈S
 |[],h=>by cases h
 |(i,c,v)::e,h=>by
  simp only[zbo]at h
  cases hm:memN S i with
  |true=>
   rw[hm]at h
   rcases Ay.1 h with rfl|h
   ·exact⟨AC,zou hm⟩
   ·exact⟨Aw _ (zag h).1,(zag h).2⟩
  |false=>rw[hm]at h;exact⟨Aw _ (zag h).1,(zag h).2⟩
def qc6(P:Program)(tr:TypeId)(t:TypeId)(n:Nat)(ps:List (Nat×AV))(cs:CS)(K:AV->Prop):Prop:=
 match z1u P t with
 |some el=>match z4n P tr 8 el,zgl P el (n*Qh P el)with
  |some ty,some zs=>bif Nat.beq (Qh P el) (sz ty)then(bif Nat.ble (n*Qh P el) 16777216 then(bif Nat.blt 0 (Qh P el)then(match zoi (λi=>some (i*Qh P el,Qh P el)) (zs.map .v) ps with
   |some r=>match za3 cs ty n r with
    |some (ys,[])=>K (.g (.a (.dc ty ys)))
    |_=>False
   |none=>False)else False)else False)else False
  |_,_=>False
 |none=>False
theorem zju{t el:TypeId}(hu:P.underlying t=some (.slice el))(ae:Z6 P el=true)(ah:n*Qh P el<=16777216){zs:List Value}(Z:zgl P el (n*Qh P el)=some zs){ps:Array (Nat×Value)}{c1:List Value}
  (e6:Eu (λi=>some (i*Qh P el,Qh P el)) zs.toArray ps.toList=some c1.toArray) (B:World) (e:Nat) (h:Za):
  (Instr.buildSlice t n ps).run P (mk B e h)=.ok (.slice (some ⟨h.size,0,none⟩) n n) (mk B e (h.push (.cells c1.toArray el))):=by
 have hq:=QExec.underlying (h:=h) hu B e
 have hs:=QExec.sizeOf (P:=P) (h:=h) (Q7 ae).choose_spec B e
 unfold Instr.buildSlice
 rw[Sem.run_bind,hq]
 simp only[Result.andThen_ok]
 rw[Sem.run_bind,hs]
 simp only[Result.andThen_ok]
 rw[if_neg (by omega)]
 unfold zgl at Z
 by_cases aa:n*Qh P el=0
 ·rw[if_pos aa]
  rw[aa]at Z ⊢
  simp at Z
  subst Z
  simp only[Sem.run_bind,Sem.run_pure,Result.andThen_ok]
  have e7:Array.map (λx=>(#[]:Array Value)[x % (#[]:Array Value).size]!) (Et 0)=([]:List Value).toArray:=by simp
  rw[e7,e6]
  rfl
 ·rw[if_neg aa]
  have hb:Nat.beq (n*Qh P el) 0=false:=by
   cases hh:Nat.beq (n*Qh P el) 0 with
   |false=>rfl
   |true=>exact absurd (Az hh) aa
  rw[hb]at Z
  simp only[cond_false]at Z
  split at Z
  ·rename_i z af
   have ab:=zaf af h B e
   simp only[As]at Z
   rw[Sem.run_bind,ab]
   simp only[Result.andThen_ok,Sem.run_bind,Sem.run_pure]
   have e7:Array.map (λx=>z.cells[x % z.cells.size]!) (Et (n*Qh P el))=zs.toArray:=by
    rw[<-Z]
   rw[e7,e6]
   rfl
  ·cases Z
theorem Inv.newFrozen(I:Inv h0 W M0 cs γ h)(Z:Array Value)(el:TypeId):Inv h0 W M0 cs (zg7 γ h.size Z) (h.push (.cells Z el))/\Gx none γ (zg7 γ h.size Z)/\(zg7 γ h.size Z).M h.size=some Z:=by
 have ab:γ.M h.size=none:=I.ag.none (Av _)
 have hM:Fr.le γ.M (zg7 γ h.size Z).M:=by
  intro b cc eM
  have:Nat.beq b h.size=false:=by
   cases hb:Nat.beq b h.size with
   |false=>rfl
   |true=>rw[Az hb,ab]at eM;cases eM
  simp[zg7,this,eM]
 have aa:AgM (zg7 γ h.size Z).M (h.push (.cells Z el)):=by
  intro b cc eM
  by_cases hb:b=h.size
  ·subst hb
   have:cc=Z:=by simp[zg7]at eM;exact eM.symm
   subst this
   exact⟨_,_,Jh _ _⟩
  ·have:Nat.beq b h.size=false:=by
    cases hb':Nat.beq b h.size with
    |false=>rfl
    |true=>exact absurd (Az hb') hb
   simp only[zg7,this,cond_false]at eM
   obtain⟨T',m,e'⟩:=I.ag b cc eM
   exact⟨T',m,by rw[Cq,if_neg hb];exact e'⟩
 refine⟨I.call (Keep.push h _ (Av _)) hM (λb hb=>?_) aa,⟨hM,λ_ _=>⟨rfl,rfl⟩⟩,by simp[zg7]⟩
 have:Nat.beq b h.size=false:=by
  cases hb':Nat.beq b h.size with
  |false=>rfl
  |true=>have:=Az hb';omega
 simp[this]
def z6p:Option (Nat×Ch)->CS->CS
 |none,C=>C
 |some c,C=>zaz c.1 C
def zi1(h0:Za)(W:Nat->Prop)(M0:Fr)(P:Program)(o:Oper)(a:Act)(γ:Gh)(h:Za)(cs:CS)(nb:Option (Nat×Ch))(Ka:AV->Prop)(eat:Option (Nat×Ch):=none):Prop:=
 ExA P (execOp a.eval o) h λv h'=>∃av γ',Ka av/\DenV γ' av v/\Inv h0 W M0 (nb.toList++z6p eat cs) γ' h'/\Gx (nb.map (·.1)) γ γ'
theorem z6q{Z:Array (Nat×Operand)}(ho:o.op=.buildSlice t n Z){ps:List (Nat×AV)}{ρ:Operand->Option AV}(ah:zff ρ Z.toList=some ps){K:AV->Prop}(H:qc6 P tr t n ps cs K):
  ∃av,K av/\∀(γ:Gh) (h:Za) (a:Act) (Y:CS),Inv h0 W M0 (Y++cs) γ h->(∀x av,ρ x=some av->DenV γ av (a.eval x))->zi1 h0 W M0 P o a γ h (Y++cs) none (· = av):=by
 unfold qc6 at H
 split at H
 ·rename_i el af
  obtain⟨hu,am⟩:=zad af
  split at H
  ·rename_i ty zs ap aj
   cases hz:Nat.beq (Qh P el) (sz ty)with
   |false=>rw[hz]at H;exact H.elim
   |true=>
   rw[hz]at H
   cases hb1:Nat.ble (n*Qh P el) 16777216 with
   |false=>rw[hb1]at H;exact H.elim
   |true=>
   rw[hb1]at H
   cases hb2:Nat.blt 0 (Qh P el)with
   |false=>rw[hb2]at H;exact H.elim
   |true=>
   rw[hb2]at H
   simp only[cond_true]at H
   split at H
   ·rename_i r hr
    split at H
    ·rename_i ys an
     refine⟨_,H,λγ h a Y I hρ=>?_⟩
     have I1:Inv h0 W M0 cs γ h:=I.sub (by simp)
     obtain⟨ws,e1,e2⟩:=za1 hr (Wb γ zs) (zcz hρ ah)
     obtain⟨c1,c2,rfl,r3,r4,r5⟩:=zdz I1.fz an e2
     cases c2 with
     |cons _ _=>exact r5.elim
     |nil=>
     rw[Bu]at *
     have aa:=Az hz
     have ae:0<Qh P el:=by simpa[CC]using hb2
     have ak:n*Qh P el<=16777216:=Cd hb1
     have hn:n<=n*Qh P el:=Nat.le_mul_of_pos_right _ ae
     have ar:c1.length=n*Qh P el:=by rw[r3.1,r4,aa]
     obtain⟨I2,g2,ai⟩:=I.newFrozen c1.toArray el
     intro B e
     refine .inl ⟨.slice (some ⟨h.size,0,none⟩) n n,e,_,?_,_,_,rfl,?_,I2,g2⟩
     ·have e5:(Z.map λx=>(x.1,a.eval x.2)).toList=Z.toList.map λx=>(x.1,a.eval x.2):=by rw[Dc]
      simp only[execOp,ho]
      refine Xn ?_
      exact zju hu am ak aj (by
       show Eu _ _ (Z.map λx=>(x.1,a.eval x.2)).toList=_
       rw[e5];exact e1) B e h
     ·have ab:=(r3.mono g2.1).rd (b:=h.size) (o:=0) (c:=n) (cs:=c1.toArray) ai (by rw[Cc,Cv (by rw[r4,<-aa];simp;omega)]) ⟨by omega,by omega⟩
      rw[r4]at ab
      exact⟨⟨some ⟨h.size,0,none⟩,n,n⟩,rfl,rfl,ab⟩
    ·exact H.elim
   ·exact H.elim
  ·exact H.elim
 ·exact H.elim
def qc7:AV->Bool
 |.g (.a (.dc _ _))=>true
 |_=>false
theorem z6r{bv sv:AV}{c:Call}(ho:o.op=.call c)(hc:c.callee=.builtin .append){s x:Operand}(aj:c.args.toList=[s,x])(ap:c.argTypes.toList=[t,tx]){K:AV->Prop}(ak:qc7 bv=true)
  (H:zcd P tr t tx bv sv 0 [] cs (λav _ _=>K av)) {ρ:Operand->Option AV} (hs:ρ s=some bv) (hx:ρ x=some sv):
  ∀(γ:Gh) (h:Za) (a:Act) (Y:CS),Inv h0 W M0 (Y++cs) γ h->(∀x av,ρ x=some av->DenV γ av (a.eval x))->zi1 h0 W M0 P o a γ h (Y++cs) none K:=by
 intro γ h a Y I hρ
 have aC:=hρ _ _ hs
 have aH:=hρ _ _ hx
 have I1:Inv h0 W M0 ([]++cs) γ h:=I.sub (by simp)
 have key:∀{K':Value->Za->Prop},XRun P (AU #[t,tx] o.type #[a.eval s,a.eval x]) h K'->ExA P (execOp a.eval o) h K':=by
  intro K' aL B e
  obtain⟨v,d',h',r,hp⟩:=aL B e
  refine .inl ⟨v,d',h',?_,hp⟩
  have ee:execOp a.eval o=(AU c.argTypes o.type (c.args.map a.eval) >>= λx=>(Dg (Dt x):Sem Next)):=by
   simp only[execOp,ho,resolve,hc]
   rfl
  rw[ee,toList_eq aj,toList_eq ap]
  refine Xn ?_
  simpa using r
 refine key ?_
 clear key
 unfold zcd at H
 split at H
 ·rename_i el aG
  obtain⟨hu,aO⟩:=zad aG
  split at H
  ·rename_i ty aN
   split at H
   ·rename_i b ys hb aF
    obtain⟨⟨z,T⟩,an⟩:=zkv hu hb
    obtain⟨news,af,ab⟩:=zs9 I1 aF T.pos aH
    split at H
    ·cases ak
    ·cases ak
    ·rename_i t' aP
     split at H
     ·rename_i xs ai
      obtain⟨am,hK⟩:=H
      have ay:=zfj an am
      obtain⟨e1,e2⟩:=Xi ai
      subst e1
      simp only at e2
      subst e2
      generalize a.eval s=u at *
      generalize a.eval x=v at *
      obtain⟨s2,e,aS,az⟩:=(show ∃s:Sl,u=slV s/\s.cap=s.len/\Rd γ.M (.row t') xs [u]from aC)
      subst e
      obtain⟨s3,e,Z,aM,cells,aa,ar⟩:=az.rowC I.ag
      have e':s2=s3:=by cases s2;cases s3;simp only[slV,A4]at e;simp[e]
      subst e'
      have ah:cells.length=s2.len*sz t':=by rw[Z];exact aa.1
      intro B dr
      by_cases hm:ys.length=0
      ·have aE:ys=[]:=Bb hm
       subst aE
       have aJ:news=[]:=Bb (by rw[af.1];simp)
       subst aJ
       have hr:=Xh (P:=P) (ty:=o.type) T (s:=s2) (h':=h) (ab B dr) (by simp;omega) (λp hp=>by simp[storeCells]) (λ_=>rfl)
       refine⟨_,dr,h,hr,_,γ,hK,?_,I,Gx.refl _ _⟩
       rw[Bu]
       exact az
      ·obtain⟨cp,ae,hr,aB,aQ,aT,aA⟩:=za5 (P:=P) (ty:=o.type) (base:=0) T ah (λB d=>Xg ar ah T.pos B d) ab (by rw[Z];exact am) (by rw[Z];exact ay) (Da _) (by omega) B dr
       obtain⟨I2,g2,aI⟩:=I.newFrozen ae el
       refine⟨_,dr+1,_,hr,_,_,hK,?_,I2,g2⟩
       have au:=((aa.append af).mono g2.1).rd (b:=h.size) (o:=0) (c:=cp) (cs:=ae) aI (by rw[Cc,AF,<-Z];exact aA) (by rw[AF,<-Z];exact⟨by rw[Z];exact ay,aB⟩)
       rw[AF,<-Z]at au
       exact au
     ·exact H.elim
    ·exact H.elim
   ·exact H.elim
  ·exact H.elim
 ·exact H.elim
def z6s(P:Program)(gl:Fr)(tr:TypeId)(o:Oper)(ρ:Operand->Option AV)(cs:CS)(K:AV->Prop):Prop:=
 match o.op with
 |.call c=>match c.callee with
  |.value x=>match qad x with
   |some f=>bif Zp P f then(match z6h P tr f,zq9 ρ c.args.toList with
    |some (ts,rt),some vs=>match Q9 cs ts vs with
     |some args=>PC P gl f args rt λr=>K (z9m rt r)
     |none=>False
    |_,_=>False)else False
   |none=>False
  |_=>False
 |_=>False
theorem z2c(aa:Fr.le gl M0){ρ:Operand->Option AV}{K:AV->Prop}(H:z6s P gl tr o ρ cs K):
  ∀(γ:Gh) (h:Za) (a:Act) (Y:CS),Inv h0 W M0 (Y++cs) γ h->(∀x av,ρ x=some av->DenV γ av (a.eval x))->zi1 h0 W M0 P o a γ h (Y++cs) none K:=by
 intro γ h a Y I hρ
 unfold z6s at H
 split at H
 ·rename_i c ho
  split at H
  ·rename_i x hx
   split at H
   ·rename_i f hf
    cases hcal:Zp P f with
    |false=>rw[hcal]at H;exact H.elim
    |true=>
     rw[hcal]at H
     simp only[cond_true]at H
     split at H
     ·rename_i ts rt vs hs ab
      split at H
      ·rename_i args Z
       intro B d
       have e:=zma hf
       subst e
       have I1:Inv h0 W M0 cs γ h:=I.sub (by simp)
       have ha:=Yt I1.fz Z (zcc hρ ab)
       refine .inr (.inr ⟨f,c.args.map a.eval,zfh ho hx hcal rfl _,?_⟩)
       have e2:c.args.map a.eval=(c.args.toList.map a.eval).toArray:=by rw[<-Dc]
       rw[e2]
       refine(zmb aa H I ha).mono ?_
       rintro v h' ⟨r,γ',h1,h2,h3,h4,_⟩
       exact⟨_,γ',h1,h2,h3,h4⟩
      ·exact H.elim
     ·exact H.elim
   ·exact H.elim
  ·exact H.elim
 ·exact H.elim
theorem zvv(aa:Fr.le gl M0){ρ:Operand->Option AV}{b:Bool}{K:AV->Prop}(H:zvm P gl tr o ρ b cs K)(hb:b=true):
  ∀(γ:Gh) (h:Za) (a:Act) (Y:CS),Inv h0 W M0 (Y++cs) γ h->(∀x av,ρ x=some av->DenV γ av (a.eval x))->zi1 h0 W M0 P o a γ h (Y++cs) none K:=by
 intro γ h a Y I hρ
 unfold zvm at H
 split at H
 ·rename_i c ho
  split at H
  ·rename_i x hx
   split at H
   ·rename_i f hf
    cases hcal:Zp P f with
    |false=>rw[hcal]at H;exact H.elim
    |true=>
     rw[hcal]at H
     simp only[cond_true]at H
     split at H
     ·rename_i ts rt vs hs ab
      split at H
      ·rename_i args Z
       obtain⟨J,h1,h2⟩:=H
       intro B d
       have e:=zma hf
       subst e
       have I1:Inv h0 W M0 cs γ h:=I.sub (by simp)
       have ha:=Yt I1.fz Z (zcc hρ ab)
       refine .inr (.inr ⟨f,c.args.map a.eval,zfh ho hx hcal rfl _,?_⟩)
       have e2:c.args.map a.eval=(c.args.toList.map a.eval).toArray:=by rw[<-Dc]
       rw[e2]
       refine(zmb aa (h1 hb) I ha).mono ?_
       rintro v h' ⟨r,γ',g1,g2,g3,g4,_⟩
       exact⟨_,γ',h2 r (λ_=>g1),g2,g3,g4⟩
      ·exact H.elim
     ·exact H.elim
   ·exact H.elim
  ·exact H.elim
 ·exact H.elim
theorem zyd(ho:o.op=.alloc t){z:Value}(hz:zeroOf P t=some z)(aa:itB (z.cells.toList.map .v)=false):
  ∀(γ:Gh) (h:Za) (a:Act) (Y:CS),Inv h0 W M0 (Y++cs) γ h->Qf d (Y++cs)=true->zi1 h0 W M0 P o a γ h (Y++cs) (some (d,.box (z.cells.toList.map .v))) (· = .g (.a (.box d 0))):=by
 intro γ h a Y I hR B e
 refine .inl ⟨.pointer (some ⟨h.size,0,none⟩),e,h.push (.cells z.cells t),?_,_,zwx γ d h.size,rfl,?_,?_,zb8 _ _ _⟩
 ·have Z:=zaf hz h B e
  simp only[execOp,ho]
  refine Xn ?_
  unfold Instr.alloc
  rw[Sem.run_bind,Z]
  simp only[Result.andThen_ok]
  rw[Sem.run_bind,zc0]
  rfl
 ·simp only[DenV,DenG,DenA,J9]
 ·have:=Inv.newBox (C:=[]) (R:=Y++cs) (by simpa using I) (c:=d) hR (Wb γ z.cells.toList) (zgk d _) aa t
  simpa[Qi,z6p]using this
theorem z6t{x:Operand}(ho:o.op=.box t x){l:List AA}(hm:znr d l=false)(Z:itB l=false):
  ∀(γ:Gh) (h:Za) (a:Act) (Y:CS),Inv h0 W M0 (Y++cs) γ h->Qf d (Y++cs)=true->All2 (DenA γ) l (a.eval x).cells.toList->zi1 h0 W M0 P o a γ h (Y++cs) (some (d,.box l)) (· = .g (.a (.box d 0))):=by
 intro γ h a Y I hR hl B e
 refine .inl ⟨.pointer (some ⟨h.size,0,none⟩),e,h.push (.cells (a.eval x).cells t),?_,_,zwx γ d h.size,rfl,?_,?_,zb8 _ _ _⟩
 ·simp only[execOp,ho]
  refine Xn ?_
  unfold Instr.box
  rw[Sem.run_bind,zc0]
  rfl
 ·simp only[DenV,DenG,DenA,J9]
 ·have:=Inv.newBox (C:=[]) (R:=Y++cs) (by simpa using I) (c:=d) hR hl hm Z t
  simpa[Qi,z6p]using this
def Qv(o:Oper):Bool:=match o.op with
 |.call c=>match c.callee with
  |.builtin .append=>true
  |.builtin _=>false
  |_=>true
 |_=>false
def zfm:List AA->Bool
 |[]=>true
 |.v _::l=>zfm l
 |.d _ _::l=>zfm l
 |.elt _ _ _::l=>zfm l
 |.dc _ _::l=>zfm l
 |_::_=>false
theorem W7{c:Nat}:∀{l:List AA},zfm l=true->znr c l=false
 |[],_=>rfl
 |.v _::l,h=>by simp only[znr,zve,cond_false];exact W7 (l:=l) h
 |.d _ _::l,h=>by simp only[znr,zve,cond_false];exact W7 (l:=l) h
 |.elt _ _ _::l,h=>by simp only[znr,zve,cond_false];exact W7 (l:=l) h
 |.dc _ _::l,h=>by simp only[znr,zve,cond_false];exact W7 (l:=l) h
 |.box _ _::_,h=>by cases h
 |.own _::_,h=>by cases h
 |.oelt _ _ _ _::_,h=>by cases h
theorem zg9:∀l:List Value,zfm (l.map .v)=true
 |[]=>rfl
 |_::l=>zg9 l
def zye(P:Program)(gl:Fr)(tr:TypeId)(o:Oper)(e:Qe)(ch:Zr)(cs:CS)(K:AV->Option (Nat×Ch)->Prop):Prop:=
 match o.op with
 |.alloc t=>match ch,o.dst,zeroOf P t with
  |[],some d,some z=>bif Qf d cs then(bif itB (z.cells.toList.map .v)then False else K (.g (.a (.box d 0))) (some (d,.box (z.cells.toList.map .v))))else False
  |_,_,_=>False
 |.box t x=>match ch,o.dst,zhg e [] x with
  |[],some d,some av=>match zvk av with
   |some l=>bif Qf d cs then(bif zfm l then(bif itB l then False else K (.g (.a (.box d 0))) (some (d,.box l)))else False)else False
   |none=>False
  |_,_,_=>False
 |.buildSlice t n Z=>match ch,zff (zhg e []) Z.toList with
  |[],some ps=>qc6 P tr t n ps cs λav=>K av none
  |_,_=>False
 |.call c=>match c.callee with
  |.builtin .append=>match ch,c.args.toList,c.argTypes.toList with
   |[],[s,x],[t,tx]=>match zhg e [] s,zhg e [] x with
    |some bv,some sv=>bif qc7 bv then zcd P tr t tx bv sv 0 [] cs (λav _ _=>K av none)else False
    |_,_=>False
   |_,_,_=>False
  |.builtin _=>z2b P gl o e ch cs λav=>K av none
  |_=>match ch with
   |[]=>z6s P gl tr o (zhg e []) cs λav=>K av none
   |_=>match za0 e ch with
    |some (some b)=>zvm P gl tr o (zhg e ch) b cs λav=>K av none
    |_=>False
 |_=>z2b P gl o e ch cs λav=>K av none
structure Spec (h0:Za) (W:Nat->Prop) (M0:Fr) (P:Program) (o:Oper) (e:Qe) (ch:Zr) (cs:CS) (nb:Option (Nat×Ch)) (Kan:AV->Prop) (eat:Option (Nat×Ch):=none):Prop where
 yes:∀(n:Nat) (γ:Gh) (h:Za) (a:Act) (Y:CS),SatA n e γ a->Inv h0 W M0 (Y++cs) γ h->(∀b,nb=some b->Qf b.1 (Y++cs)=true)->(∀c,eat=some c->c∈Y++cs/\∀x∈Y++cs,x.1=c.1->x.2=c.2)->(∀d,o.dst=some d->eat≠none->Qf d (Y++cs)=true)->valid (Zl a) ch->zi1 h0 W M0 P o a γ h (Y++cs) nb Kan eat
 no:∀(n:Nat) (γ:Gh) (a:Act),SatA n e γ a->¬valid (Zl a) ch->nb=none/\eat=none/\∃av,Kan av
 box:∀b,nb=some b->Qf b.1 cs=true/\o.dst=some b.1/\(((∃l,b.2=.box l/\zfm l=true)/\Kan=(· = .g (.a (.box b.1 0))))\/((∃e t xs,b.2=.row e t xs)/\Kan=(· = .g (.a (.own b.1)))))
 dn:eat≠none->∃d,o.dst=some d/\Qf d cs=true
theorem Spec.ofQ(Z:Fr.le gl M0){e:Qe}{ch:Zr}{K:AV->Option (Nat×Ch)->Prop}(H:z2b P gl o e ch cs λav=>K av none):∃nb Kan,Spec h0 W M0 P o e ch cs nb Kan/\(∀av,Kan av->K av nb)/\∃av,Kan=(· = av):=by
 obtain⟨av,h1,h2⟩:=zk1 (h0:=h0) (W:=W) (M0:=M0) Z H
 refine⟨none,(· = av),⟨λn γ h a Y hs I _ _ _ hv=>?_,λn γ a hs hv=>⟨rfl,rfl,av,rfl⟩,λb hb=>(by cases hb),λhx=>absurd rfl hx⟩,λaa e=>e ▸ h1,av,rfl⟩
 obtain⟨v,hd,hq⟩:=h2 n γ a h hs (I.sub (by simp)) hv
 exact λB d=>.inl ⟨v,d,h,hq B d,av,γ,rfl,hd,I,Gx.refl _ _⟩
theorem zrd(aa:Fr.le gl M0){e:Qe}{ch:Zr}{K:AV->Option (Nat×Ch)->Prop}(H:zye P gl tr o e ch cs K):
  ∃nb Kan,Spec h0 W M0 P o e ch cs nb Kan/\(∀av,Kan av->K av nb)/\(Qv o=false->∃av,Kan=(· = av)):=by
 unfold zye at H
 split at H
 ·rename_i t ho
  split at H
  ·rename_i d z hd hz
   cases hR:Qf d cs with
   |false=>rw[hR]at H;exact H.elim
   |true=>
    rw[hR]at H
    cases hit:itB (z.cells.toList.map .v)with
    |true=>rw[hit]at H;exact H.elim
    |false=>
    rw[hit]at H
    refine⟨_,(· = .g (.a (.box d 0))),⟨λn γ h a Y hs I hn _ _ _=>zyd ho hz hit γ h a Y I (hn _ rfl),λn γ a hs hv=>absurd trivial hv,λb hb=>?_,λhx=>absurd rfl hx⟩,λav e=>e ▸ H,λ_=>⟨_,rfl⟩⟩
    cases hb
    exact⟨hR,hd,.inl ⟨⟨_,rfl,zg9 _⟩,rfl⟩⟩
  ·exact H.elim
 ·rename_i t x ho
  split at H
  ·rename_i d av hd af
   split at H
   ·rename_i l hl
    cases hR:Qf d cs with
    |false=>rw[hR]at H;exact H.elim
    |true=>
     rw[hR]at H
     cases hm:zfm l with
     |false=>rw[hm]at H;exact H.elim
     |true=>
      rw[hm]at H
      cases hit:itB l with
      |true=>rw[hit]at H;exact H.elim
      |false=>
      rw[hit]at H
      refine⟨_,(· = .g (.a (.box d 0))),⟨λn γ h a Y hs I hn _ _ _=>z6t ho (W7 hm) hit γ h a Y I (hn _ rfl) (zfd hl (Zn hs (c:=[]) trivial af)),λn γ a hs hv=>absurd trivial hv,λb hb=>?_,λhx=>absurd rfl hx⟩,λav e=>e ▸ H,λ_=>⟨_,rfl⟩⟩
      cases hb
      exact⟨hR,hd,.inl ⟨⟨_,rfl,hm⟩,rfl⟩⟩
   ·exact H.elim
  ·exact H.elim
 ·rename_i t n ah ho
  split at H
  ·rename_i ps aj
   obtain⟨av,h1,h2⟩:=z6q (h0:=h0) (W:=W) (M0:=M0) ho aj H
   exact⟨none,(· = av),⟨λn γ h a Y hs I _ _ _ _=>h2 γ h a Y I λx av hx=>Zn hs (c:=[]) trivial hx,λn γ a hs hv=>absurd trivial hv,λb hb=>(by cases hb),λhx=>absurd rfl hx⟩,λap e=>e ▸ h1,λ_=>⟨_,rfl⟩⟩
  ·exact H.elim
 ·rename_i c ho
  split at H
  ·rename_i hc
   have Z:Qv o=true:=by simp[Qv,ho,hc]
   split at H
   ·rename_i s x t tx ab ae
    split at H
    ·rename_i bv sv ai ak
     cases hdc:qc7 bv with
     |false=>rw[hdc]at H;exact H.elim
     |true=>
      rw[hdc]at H
      simp only[cond_true]at H
      exact⟨none,λav=>K av none,⟨λn γ h a Y hs I _ _ _ _=>z6r ho hc ab ae hdc H ai ak γ h a Y I λx av hx=>Zn hs (c:=[]) trivial hx,λn γ a hs hv=>absurd trivial hv,λb hb=>(by cases hb),λhx=>absurd rfl hx⟩,λav e=>e,λhn=>by rw[Z]at hn;cases hn⟩
    ·exact H.elim
   ·exact H.elim
  ·obtain⟨nb,Kan,h1,h2,h3⟩:=Spec.ofQ (h0:=h0) (W:=W) (M0:=M0) aa H
   exact⟨nb,Kan,h1,h2,λ_=>h3⟩
  ·rename_i an am
   have Z:Qv o=true:=by
    simp only[Qv,ho]
   split at H
   ·exact⟨none,λav=>K av none,⟨λn γ h a Y hs I _ _ _ _=>z2c aa H γ h a Y I λx av hx=>Zn hs (c:=[]) trivial hx,λn γ a hs hv=>absurd trivial hv,λb hb=>(by cases hb),λhx=>absurd rfl hx⟩,λav e=>e,λhn=>by rw[Z]at hn;cases hn⟩
   ·split at H
    ·rename_i b hb
     refine⟨none,λav=>K av none,⟨λn γ h a Y hs I _ _ _ hv=>zvv aa H (Jb hs hb hv) γ h a Y I λx av hx=>Zn hs hv hx,λn γ a hs hv=>⟨rfl,rfl,?_⟩,λb hb=>(by cases hb),λhx=>absurd rfl hx⟩,λav e=>e,λhn=>by rw[Z]at hn;cases hn⟩
     have:=zdt hs hb hv
     simp only[As]at this
     exact(zdx (h0:=#[]) (W:=λ_=>False) (M0:=λ_=>none) H).1 this
    ·exact H.elim
 ·obtain⟨nb,Kan,h1,h2,h3⟩:=Spec.ofQ (h0:=h0) (W:=W) (M0:=M0) aa H
  exact⟨nb,Kan,h1,h2,λ_=>h3⟩
def z2d:List Nat->Nat->Option (Option Nat)
 |[],_=>none
 |x::l,k=>bif Nat.ble 2000000 x then(bif Nat.beq (x-2000000) k then some none else z2d l k)else(bif Nat.ble 1000000 x then(bif Nat.beq ((x-1000000) / 1000) k then some (some ((x-1000000) % 1000))else z2d l k)else z2d l k)
def zgn(k:Nat):List It->Option (Nat×Ch)
 |[]=>none
 |i::l=>bif (match i.us with
  |some j=>Nat.beq j k
  |none=>false)then(match i.nb with
  |some b=>some b
  |none=>zgn k l)else zgn k l
theorem zd3{k:Nat}{c:Nat×Ch}:∀{l:List It},zgn k l=some c->∃i∈l,i.nb=some c/\i.us=some k
 |[],h=>by cases h
 |i::l,h=>by
  simp only[zgn]at h
  cases hb:(match i.us with
   |some j=>Nat.beq j k
   |none=>false)with
  |false=>
   rw[hb]at h
   obtain⟨x,hx,q⟩:=zd3 h
   exact⟨x,Aw _ hx,q⟩
  |true=>
   rw[hb]at h
   simp only[cond_true]at h
   split at h
   ·rename_i b Z
    cases h
    refine⟨i,AC,Z,?_⟩
    split at hb
    ·rename_i j hj;rw[hj,Az hb]
    ·cases hb
   ·obtain⟨x,hx,q⟩:=zd3 h
    exact⟨x,Aw _ hx,q⟩
def qc8(P:Program)(tr:TypeId)(t:TypeId)(n:Nat)(K:Ch->Prop):Prop:=bif Nat.beq n 0 then(match z1u P t with
 |some el=>match z4n P tr 8 el,zgl P el (0*Qh P el)with
  |some ty,some []=>bif Nat.beq (Qh P el) (sz ty)then(bif Nat.ble (0*Qh P el) 16777216 then(bif Nat.blt 0 (Qh P el)then K (.row el ty [])else False)else False)else False
  |_,_=>False
 |none=>False)else False
theorem z6u{Z:Array (Nat×Operand)}(ho:o.op=.buildSlice t n Z)(hp:Z.toList=[]){K:Ch->Prop}(H:qc8 P tr t n K):
  ∃el ty,K (.row el ty [])/\∀(γ:Gh) (h:Za) (a:Act) (L:CS),Inv h0 W M0 L γ h->Qf d L=true->ExA P (execOp a.eval o) h (zdw h0 W M0 L γ λav C' c=>av=.g (.a (.own d))/\C'=[(d,.row el ty [])]/\c=some d):=by
 unfold qc8 at H
 cases hn:Nat.beq n 0 with
 |false=>rw[hn]at H;exact H.elim
 |true=>
  rw[hn]at H
  obtain rfl:=Az hn
  simp only[cond_true]at H
  split at H
  ·rename_i el aa
   split at H
   ·rename_i ty ae ab
    cases h1:Nat.beq (Qh P el) (sz ty)with
    |false=>rw[h1]at H;exact H.elim
    |true=>
     rw[h1]at H
     cases h2:Nat.ble (0*Qh P el) 16777216 with
     |false=>rw[h2]at H;exact H.elim
     |true=>
      rw[h2]at H
      cases h3:Nat.blt 0 (Qh P el)with
      |false=>rw[h3]at H;exact H.elim
      |true=>
       rw[h3]at H
       refine⟨el,ty,H,λγ h a L I hd=>?_⟩
       refine zdf (tr:=tr) (ps:=[]) ho (ρ:=λ_=>none) (by rw[hp];rfl) (C:=[]) (R:=L) (d:=d) ?_ (by simpa using I) (λx av hx=>by cases hx)
       unfold za4
       rw[aa]
       simp only
       rw[ae,ab]
       simp only
       rw[h1,h2,h3,hd]
       simp[zoi,za3,qae,zbn,frzL,Qi]
   ·exact H.elim
  ·exact H.elim
def qc9(P:Program)(tx:TypeId)(ty:Ty):AV->Option (List (El ty))
 |.g (.a (.d (.row t) xs))=>match P.underlying tx with
  |some (.slice _)=>Wk (.row t) (.row ty) xs
  |_=>none
 |.g (.a (.dc t xs))=>match P.underlying tx with
  |some (.slice _)=>Wk (.row t) (.row ty) xs
  |_=>none
 |.g (.a (.v (.slice none 0 0)))=>match P.underlying tx with
  |some (.slice _)=>some []
  |_=>none
 |_=>none
def qda(P:Program)(tr:TypeId)(t tx:TypeId)(e0:TypeId)(t0:Ty)(xs:List (El t0))(sv:AV)(K:TypeId->(ty:Ty)->List (El ty)->Prop):Prop:=match z1u P t with
 |some el=>match z4n P tr 8 el with
  |some ty=>match zhx P el ty,qc9 P tx ty sv with
   |some b,some ys=>match Wk (.row t0) (.row ty) xs with
    |some xs=>bif Nat.beq e0 el then((xs.length+ys.length)*b<=140737488355328/\K el ty (xs++ys))else False
    |none=>False
   |_,_=>False
  |none=>False
 |none=>False
theorem zyf{L:CS}{ty:Ty}{ys:List (El ty)}(h:qc9 P tx ty sv=some ys):z6l P L tx ty sv=some ys:=by
 unfold qc9 at h
 split at h
 ·rename_i t xs
  split at h
  ·rename_i e he
   simp only[z6l,he,rowOf]
   exact h
  ·cases h
 ·rename_i t xs
  split at h
  ·rename_i e he
   simp only[z6l,he,rowOf]
   exact h
  ·cases h
 ·split at h
  ·rename_i e he
   simp only[z6l,he]
   exact h
  ·cases h
 ·cases h
theorem zow{c:Nat}:∀{l:CS},Qf c l=true->Qi c l=l
 |[],_=>rfl
 |(j,k)::l,h=>by
  simp only[Qf]at h
  cases hb:(bif Nat.beq j c then true else zgh c k)with
  |true=>rw[hb]at h;cases h
  |false=>
   rw[hb]at h
   simp only[Qi]
   rw[hb,cond_false,zow h]
theorem zfn{c d:Nat}:∀{l:CS},Qf c l=true->Qf c (zaz d l)=true
 |[],_=>rfl
 |(j,k)::l,h=>by
  simp only[Qf]at h
  cases hb:(bif Nat.beq j c then true else zgh c k)with
  |true=>rw[hb]at h;cases h
  |false=>
   rw[hb]at h
   simp only[zaz]
   cases Nat.beq j d with
   |true=>exact zfn h
   |false=>
    simp only[cond_false,Qf]
    rw[hb]
    exact zfn h
theorem zk2{c:Nat×Ch}:∀{l:CS},c∈l->(∀x∈l,x.1=c.1->x.2=c.2)->Xe l c.1=some c.2
 |[],h,_=>by cases h
 |(j,k)::l,h,hu=>by
  simp only[Xe]
  cases hb:Nat.beq c.1 j with
  |true=>
   have:=Az hb
   have:=hu (j,k) AC this.symm
   simp only at this
   rw[cond_true,this]
  |false=>
   rw[cond_false]
   rcases Ay.1 h with rfl|h
   ·simp at hb
   ·exact zk2 h λx hx=>hu x (Aw _ hx)
theorem z6v{c:Call}(ho:o.op=.call c)(hc:c.callee=.builtin .append){s x:Operand}(aa:c.args.toList=[s,x])(ae:c.argTypes.toList=[t,tx]){e0:TypeId}{t0:Ty}{xs:List (El t0)}{K:TypeId->(ty:Ty)->List (El ty)->Prop}
  (H:qda P tr t tx e0 t0 xs sv K):∃el ty ys,K el ty ys/\∀(γ:Gh) (h:Za) (a:Act) (L:CS) (c0:Nat),Inv h0 W M0 L γ h->Xe L c0=some (.row e0 t0 xs)->DenV γ (.g (.a (.own c0))) (a.eval s)->DenV γ sv (a.eval x) ->
   ExA P (execOp a.eval o) h (zdw h0 W M0 [] γ λav C' cc=>av=.g (.a (.own d))/\C'=(d,.row el ty ys)::Qi d (zaz c0 L)/\cc=some d):=by
 unfold qda at H
 split at H
 ·rename_i el ah
  split at H
  ·rename_i ty ai
   split at H
   ·rename_i b ys hb aj
    split at H
    ·rename_i af Z
     cases hee:Nat.beq e0 el with
     |false=>rw[hee]at H;exact H.elim
     |true=>
      rw[hee]at H
      obtain⟨ab,hK⟩:=H
      refine⟨el,ty,af++ys,hK,λγ h a L c0 I hf hs hx=>?_⟩
      have ak:zcd P tr t tx (.g (.a (.own c0))) sv d L [] (λav C' cc=>av=.g (.a (.own d))/\C'=(d,.row el ty (af++ys))::Qi d (zaz c0 L)/\cc=some d):=by
       unfold zcd
       rw[ah]
       simp only
       rw[ai]
       simp only
       rw[hb,Bu,zyf aj]
       simp only
       rw[hf]
       simp only
       rw[Z]
       simp only
       rw[hee]
       first|exact⟨ab,rfl,rfl,rfl⟩|exact⟨ab,trivial,trivial,trivial⟩|exact⟨ab,by simp⟩
      have:=zkw (ty':=o.type) ak (by simpa using I) hs hx
      intro B e
      obtain⟨v,d',h',r,hp⟩:=this B e
      refine .inl ⟨v,d',h',?_,hp⟩
      have ee:execOp a.eval o=(AU c.argTypes o.type (c.args.map a.eval) >>= λx=>(Dg (Dt x):Sem Next)):=by
       simp only[execOp,ho,resolve,hc]
       rfl
      rw[ee,toList_eq aa,toList_eq ae]
      refine Xn ?_
      simpa using r
    ·exact H.elim
   ·exact H.elim
  ·exact H.elim
 ·exact H.elim
def z6w(P:Program)(tr:TypeId)(o:Oper)(k:Nat)(e:Qe)(IL:List It)(cs:CS)(own:Bool)(K:AV->Option (Nat×Ch)->Option (Nat×Ch)->Prop):Prop:=
 match o.op,o.dst with
 |.buildSlice t n parts,some d=>bif own then(bif Qf d cs then(match parts.toList with
  |[]=>qc8 P tr t n λch=>K (.g (.a (.own d))) (some (d,ch)) none
  |_=>False)else False)else False
 |.call c,some d=>match c.callee,c.args.toList,c.argTypes.toList,zgn k IL with
  |.builtin .append,[s,x],[t,tx],some (c0,.row e0 t0 xs)=>match zhg e [] s,zhg e [] x with
   |some (.g (.a (.own c1))),some sv=>bif Nat.beq c1 c0 then(bif Qf d cs then qda P tr t tx e0 t0 xs sv (λel ty ys=>bif own then K (.g (.a (.own d))) (some (d,.row el ty ys)) (some (c0,.row e0 t0 xs))else K (.g (.a (.d (.row ty) ys))) none (some (c0,.row e0 t0 xs)))else False)else False
   |_,_=>False
  |_,_,_,_=>False
 |_,_=>False
theorem zre{k:Nat}{e:Qe}{IL:List It}{own:Bool}{K:AV->Option (Nat×Ch)->Option (Nat×Ch)->Prop}(H:z6w P tr o k e IL cs own K):
  ∃nb eat av,Spec h0 W M0 P o e [] cs nb (· = av) eat/\K av nb eat/\∀c,eat=some c->zgn k IL=some c:=by
 unfold z6w at H
 split at H
 ·rename_i t n ai d ho hd
  cases own with
  |false=>exact H.elim
  |true=>
   simp only[cond_true]at H
   cases hR:Qf d cs with
   |false=>rw[hR]at H;exact H.elim
   |true=>
    rw[hR]at H
    simp only[cond_true]at H
    split at H
    ·rename_i hp
     obtain⟨el,ty,hK,hx⟩:=z6u (h0:=h0) (W:=W) (M0:=M0) (d:=d) ho hp H
     refine⟨_,none,_,⟨λn γ h a Y hs I hn _ _ _=>?_,λn γ a hs hv=>absurd trivial hv,λb hb=>?_,λhx=>absurd rfl hx⟩,hK,λc hc=>by cases hc⟩
     ·refine(hx γ h a (Y++cs) I (hn _ rfl)).mono ?_
      rintro v h' ⟨av,C',c,γ',⟨rfl,rfl,rfl⟩,h2,h3,h4⟩
      exact⟨_,γ',rfl,h2,h3,h4⟩
     ·cases hb
      exact⟨hR,hd,.inr ⟨⟨_,_,_,rfl⟩,rfl⟩⟩
    ·exact H.elim
 ·rename_i c d ho hd
  split at H
  ·rename_i s x t tx c0 e0 t0 xs hc Z aa af
   split at H
   ·rename_i c1 sv ak aj
    cases hb:Nat.beq c1 c0 with
    |false=>rw[hb]at H;exact H.elim
    |true=>
     obtain rfl:=Az hb
     rw[hb]at H
     simp only[cond_true]at H
     cases hR:Qf d cs with
     |false=>rw[hR]at H;exact H.elim
     |true=>
      rw[hR]at H
      simp only[cond_true]at H
      obtain⟨el,ty,ys,hK,hx⟩:=z6v (h0:=h0) (W:=W) (M0:=M0) (d:=d) ho hc Z aa H
      have run:∀(n:Nat) (γ:Gh) (h:Za) (a:Act) (Y:CS),SatA n e γ a->Inv h0 W M0 (Y++cs) γ h->(∀cc,(some (c1,Ch.row e0 t0 xs):Option (Nat×Ch))=some cc->cc∈Y++cs/\∀x∈Y++cs,x.1=cc.1->x.2=cc.2)->Qf d (Y++cs)=true ->
        ExA P (execOp a.eval o) h λv h'=>∃γ',DenV γ' (.g (.a (.own d))) v/\Inv h0 W M0 ((d,.row el ty ys)::zaz c1 (Y++cs)) γ' h'/\Gx (some d) γ γ':=by
       intro n γ h a Y hs I he hn
       obtain⟨h1,h2⟩:=he _ rfl
       have hf:=zk2 h1 h2
       refine(hx γ h a (Y++cs) c1 I hf (Zn hs (c:=[]) trivial ak) (Zn hs (c:=[]) trivial aj)).mono ?_
       rintro v h' ⟨av,C',cc,γ',⟨rfl,rfl,rfl⟩,q2,q3,q4⟩
       rw[Bu,zow (zfn hn)]at q3
       exact⟨γ',q2,q3,q4⟩
      cases own with
      |true=>
       refine⟨some (d,.row el ty ys),some (c1,.row e0 t0 xs),.g (.a (.own d)),⟨λn γ h a Y hs I hn he ah _=>?_,λn γ a hs hv=>absurd trivial hv,λb hb=>?_,λ_=>⟨d,hd,hR⟩⟩,hK,λc hc=>by cases hc;exact af⟩
       ·refine(run n γ h a Y hs I he (hn _ rfl)).mono ?_
        rintro v h' ⟨γ',q2,q3,q4⟩
        exact⟨_,γ',rfl,q2,q3,q4⟩
       ·cases hb
        exact⟨hR,hd,.inr ⟨⟨_,_,_,rfl⟩,rfl⟩⟩
      |false=>
       refine⟨none,some (c1,.row e0 t0 xs),.g (.a (.d (.row ty) ys)),⟨λn γ h a Y hs I hn he ah _=>?_,λn γ a hs hv=>absurd trivial hv,λb hb=>(by cases hb),λ_=>⟨d,hd,hR⟩⟩,hK,λc hc=>by cases hc;exact af⟩
       have ab:=ah d hd (by simp)
       refine(run n γ h a Y hs I he ab).mono ?_
       rintro v h' ⟨γ',q2,q3,q4⟩
       obtain⟨γ2,I2,g2⟩:=Inv.freeze1 (A:=[]) q3
       have am:Rd γ2.M (.row ty) ys [slV (γ2.σ d)]:=I2.den (d,.fz ty ys) (by simp)
       have hv:v=slV (γ'.σ d):=q2
       have hσ:γ2.σ d=γ'.σ d:=(g2.2 d (by simp)).2
       have ae:=Xf (zfn (d:=c1) ab)
       refine⟨_,{ γ2 with β:=γ.β,σ:=γ.σ },rfl,?_,?_,⟨q4.1.trans g2.1,λi _=>⟨rfl,rfl⟩⟩⟩
       ·show Rd γ2.M (.row ty) ys [v]
        rw[hv,<-hσ];exact am
       ·refine I2.rest (by simp[z6p]) (c:=some d) ⟨Fr.le.refl _,λi hi=>?_⟩ (λx hx=>⟨(ae x hx).1,(ae x hx).2⟩) (λx hx b hb=>⟨rfl,(I2.sep x (by simp;exact .inr hx) b hb).2⟩) I2.ag (λ_ _ _=>rfl) (Av _) (λ_ _=>rfl)
        have a1:=q4.2 i hi
        have a2:=g2.2 i (by simp)
        exact⟨a1.1.symm.trans a2.1.symm,a1.2.symm.trans a2.2.symm⟩
   ·exact H.elim
  ·exact H.elim
 ·exact H.elim
def Qo(ops:Array Oper)(m:Nat):List Nat:=Qx (ops.toList.take m)
def Xx(av:AV):List Nat->Bool
 |[]=>true
 |s::l=>bif zxn s av then false else Xx av l
theorem zk3{av:AV}:∀{l:List Nat},Xx av l=true->∀s∈l,zxn s av=false
 |[],_,s,hs=>by cases hs
 |x::l,h,s,hs=>by
  simp only[Xx]at h
  cases hb:zxn x av with
  |true=>rw[hb]at h;cases h
  |false=>
   rw[hb]at h
   rcases Ay.1 hs with rfl|hs
   ·exact hb
   ·exact zk3 h s hs
def zhi(S:List Nat):Qe->Qe
 |[]=>[]
 |(i,[],v)::e=>bif memN S i then zhi S e else(bif Xx v S then(i,[],v)::zhi S e else zhi S e)
 |(_,_::_,_)::e=>zhi S e
theorem Yu{S:List Nat}{x:Nat×Zr×AV}:∀{e:Qe},x∈zhi S e->x∈e/\x.2.1=[]/\x.1∉S/\Xx x.2.2 S=true
 |[],h=>by cases h
 |(i,[],v)::e,h=>by
  simp only[zhi]at h
  cases hm:memN S i with
  |true=>rw[hm]at h;exact⟨Aw _ (Yu h).1,(Yu h).2⟩
  |false=>
   rw[hm]at h
   simp only[cond_false]at h
   cases hn:Xx v S with
   |false=>rw[hn]at h;exact⟨Aw _ (Yu h).1,(Yu h).2⟩
   |true=>
    rw[hn]at h
    rcases Ay.1 h with rfl|h
    ·exact⟨AC,rfl,Y7 hm,hn⟩
    ·exact⟨Aw _ (Yu h).1,(Yu h).2⟩
 |(_,_::_,_)::e,h=>⟨Aw _ (Yu (e:=e) h).1,(Yu (e:=e) h).2⟩
def qdb(ops:Array Oper)(o:Oper):Zr->Bool
 |[]=>true
 |[(g,_)]=>match o.guard with
  |some (j,_)=>match Qp ops j with
   |some g'=>Nat.beq g g'
   |none=>false
  |none=>false
 |_=>false
def z4q:List Nat->Nat->Bool
 |[x],k=>Nat.beq x k
 |_,_=>false
def inL:List Nat->Nat->Bool
 |[],_=>false
 |x::l,k=>bif Nat.beq x k then true else inL l k
theorem zyg{k:Nat}:∀{l:List Nat},inL l k=true->k∈l
 |[],h=>by cases h
 |x::l,h=>by
  simp only[inL]at h
  cases hb:Nat.beq x k with
  |true=>rw[Az hb];exact AC
  |false=>rw[hb]at h;exact Aw _ (zyg h)
def zi2(ops:Array Oper)(m:Nat)(o:Oper)(k:Nat)(pl:Array Bool):Bool:=
 bif Nat.blt k m then(bif Q3 ops k (Ju ops o) m then(bif Qv o then z4q (Region.ready .any ops pl) k else inL (Region.ready .any ops pl) k)else false)else false
def zox(S:List Nat)(av:AV)(nb:Option (Nat×Ch)):Bool:=match nb with
 |none=>Xx av S
 |some _=>true
def zvw(pl:Array Bool):Nat->Bool
 |0=>true
 |k+1=>bif pl.getD k false then zvw pl k else false
theorem zk4{pl:Array Bool}:∀{m:Nat},zvw pl m=true->∀k,k<m->pl.getD k false=true
 |0,_,k,hk=>by omega
 |m+1,h,k,hk=>by
  simp only[zvw]at h
  cases hb:pl.getD m false with
  |false=>rw[hb]at h;cases h
  |true=>
   rw[hb]at h
   rcases A1 k m with h1|h1
   ·exact zk4 h k h1
   ·have:k=m:=by omega
    subst this;exact hb
def ztf(P:Program)(ρ:Operand->Option AV)(o:Oper):Bool:=bif zhf o then(bif isQ P o then(bif Yc o.op then ziq ρ o.op.operands.toList else false)else false)else false
def zgo(P:Program)(e:Qe)(c:Zr)(o:Oper):Bool:=match o.op with
 |.pick _ _ _=>true
 |.move _=>true
 |.assign _=>true
 |.extract _ _=>true
 |.alloc _=>false
 |.box _ _=>false
 |.buildSlice _ _ _=>false
 |.call _=>false
 |.load _ _=>false
 |.indexAddr _ _ _=>false
 |_=>ztf P (zhg e c) o
theorem zoy{e:Qe}(h:zgo P e c o=true):Qv o=false:=by
 unfold Qv
 split
 ·rename_i c ho;rw[zgo,ho]at h;cases h
 ·rfl
def zfo(P:Program)(o:Oper)(e:Qe)(ch:Zr)(Kan:AV->Prop):Prop:=
 ∀av,Kan av->∀(n:Nat) (γ:Gh) (a:Act),SatA n e γ a->valid (Zl a) ch->∃v,DenV γ av v/\∀w,(execOp a.eval o).run P w=.ok (.value v) w
theorem QExec.all{α:Type}{s:Sem α}{x:α}(H:∀h,QExec P s h x)(w:World):s.run P w=.ok x w:=H w.heap w w.drawn
theorem zyh{e:Qe}{K:AV->Prop}(H:z2b P gl o e c cs K)(hp:zgo P e c o=true):∃av,K av/\zfo P o e c (· = av):=by
 unfold z2b at H
 split at H
 ·rename_i x y z ho
  obtain⟨av,h1,h2⟩:=za6 H
  refine⟨av,h1,λaa e' n γ a hs hv=>?_⟩
  obtain⟨t,h3,h4⟩:=h2 n γ a hs hv
  subst e'
  refine⟨_,h4,QExec.all λh B d=>?_⟩
  simp only[execOp,ho,h3,asBool,Sem.run_bind,Sem.run_pure,Result.andThen_ok]
 ·rename_i ah
  split at H
  ·rename_i g hg
   unfold qA at H
   split at H
   ·rename_i b hb
    exact⟨_,H,λaa e' n γ a hs hv=>⟨_,e' ▸ (show DenV γ (.g (.a (.v (.bool b)))) _ from rfl),QExec.all λh=>zol hb (λx av hx=>Zn hs hv hx) h⟩⟩
   split at H
   ·rename_i b hb
    exact⟨_,H,λaa e' n γ a hs hv=>⟨_,e' ▸ (show DenV γ (.g (.a (.v (.bool b)))) _ from rfl),QExec.all λh=>zkt hb (λx av hx=>Zn hs hv hx) h⟩⟩
   split at H
   ·rename_i t b off ab
    exfalso
    unfold z6e at ab
    split at ab
    ·rename_i t' x ho;rw[zgo,ho]at hp;cases hp
    ·cases ab
   split at H
   ·rename_i b off n len z ab
    exfalso
    unfold z6f at ab
    split at ab
    ·rename_i t' x i ho;rw[zgo,ho]at hp;cases hp
    ·cases ab
   unfold qA0 at H
   cases hb:ztf P (zhg e c) o with
   |true=>
    unfold ztf at hb
    rw[hb]at H
    cases hfam:zhf o with
    |false=>rw[hfam]at hb;cases hb
    |true=>
     cases hq:isQ P o with
     |false=>rw[hfam,hq]at hb;cases hb
     |true=>
      cases hns:Yc o.op with
      |false=>rw[hfam,hq,hns]at hb;cases hb
      |true=>
       rw[hfam,hq,hns]at hb
       simp only[cond_true]at hb H
       obtain⟨v,h1,h2⟩:=zcs hfam H
       refine⟨_,h1,λaa e' n γ a hs hv=>⟨v,e' ▸ zac γ v,QExec.all λh=>?_⟩⟩
       rw[zoa (γ:=γ) (λx av hx=>Zn hs hv hx) hns hb]
       exact h2 (Jb hs hg hv) h ⟨by simp,λi hi=>absurd hi (by simp)⟩
   |false=>
    have ae:=hb
    unfold ztf at ae
    rw[ae]at H
    simp only[cond_false]at H
    unfold zgo at hp
    split at hp
    ·rename_i x y z ho;exact absurd ho (ah x y z)
    ·rename_i x ho
     rw[ho]at H
     simp only at H
     split at H
     ·rename_i av Z
      exact⟨av,H,λaa e' n γ a hs hv=>⟨_,e' ▸ Zn hs hv Z,QExec.all λh=>by simp only[execOp,ho];exact QExec.pure _⟩⟩
     ·exact H.elim
    ·rename_i x ho
     rw[ho]at H
     simp only at H
     split at H
     ·rename_i av Z
      exact⟨av,H,λaa e' n γ a hs hv=>⟨_,e' ▸ Zn hs hv Z,QExec.all λh=>by simp only[execOp,ho];exact QExec.pure _⟩⟩
     ·exact H.elim
    ·rename_i x i ho
     rw[ho]at H
     simp only at H
     split at H
     ·rename_i l Z
      split at H
      ·rename_i ag af
       refine⟨_,H,λaa e' n γ a hs hv=>?_⟩
       subst e'
       obtain⟨us,e1,h2⟩:=Zn hs hv Z
       obtain⟨u,hu,hd⟩:=h2.get af
       refine⟨u,hd,QExec.all λh=>?_⟩
       simp only[execOp,ho,e1]
       refine QExec.val λB d=>?_
       unfold Instr.extract
       simp[hu]
      ·exact H.elim
     ·rename_i b p c Z
      split at H
      ·refine⟨_,H,λaa e' n γ a hs hv=>⟨_,e' ▸ (show DenV γ (.g (.a (.v (.bool b)))) _ from rfl),QExec.all λh=>?_⟩⟩
       obtain⟨e1,e2⟩:=Zn hs hv Z
       simp only[execOp,ho]
       refine QExec.val λB d=>?_
       cases b with
       |true=>rw[e1 rfl];rfl
       |false=>rw[e2 rfl];rfl
      ·refine⟨_,H.2,λaa e' n γ a hs hv=>⟨_,e' ▸ (show DenV γ (.g (.a (.v (.int .i64 p)))) _ from rfl),QExec.all λh=>?_⟩⟩
       obtain⟨e1,_⟩:=Zn hs hv Z
       simp only[execOp,ho,e1 (H.1.out (Jb hs hg hv))]
       exact QExec.val λB d=>rfl
      ·refine⟨_,H.2,λaa e' n γ a hs hv=>⟨_,e' ▸ (show DenV γ (.g (.a (.v (.int .i32 c)))) _ from rfl),QExec.all λh=>?_⟩⟩
       obtain⟨e1,_⟩:=Zn hs hv Z
       simp only[execOp,ho,e1 (H.1.out (Jb hs hg hv))]
       exact QExec.val λB d=>rfl
      ·exact H.elim
     ·exact H.elim
    ·cases hp
    ·cases hp
    ·cases hp
    ·cases hp
    ·cases hp
    ·cases hp
    ·rw[hb]at hp;cases hp
  ·exact H.elim
theorem zvx{e:Qe}{ch:Zr}{K:AV->Option (Nat×Ch)->Prop}(H:zye P gl tr o e ch cs K)(hp:zgo P e ch o=true):
  ∃av,Spec h0 W M0 P o e ch cs none (· = av)/\K av none/\zfo P o e ch (· = av):=by
 have H':z2b P gl o e ch cs λav=>K av none:=by
  unfold zye at H
  split at H
  ·rename_i t ho;rw[zgo,ho]at hp;cases hp
  ·rename_i t x ho;rw[zgo,ho]at hp;cases hp
  ·rename_i t n ps ho;rw[zgo,ho]at hp;cases hp
  ·rename_i c ho;rw[zgo,ho]at hp;cases hp
  ·exact H
 obtain⟨av,h1,h2⟩:=zyh H' hp
 refine⟨av,⟨λn γ h a Y hs I _ _ _ hv=>?_,λn γ a hs hv=>⟨rfl,rfl,av,rfl⟩,λb hb=>(by cases hb),λhx=>absurd rfl hx⟩,h1,h2⟩
 obtain⟨v,hd,hq⟩:=h2 av rfl n γ a hs hv
 exact λB d=>.inl ⟨v,d,h,hq _,av,γ,rfl,hd,I,Gx.refl _ _⟩
def zyi(ops:Array Oper)(k:Nat)(o:Oper)(j:Nat):Bool:=bif Nat.beq j k then true else bif Region.waitsFor .any ops j k then true else bif Region.waitsFor .any ops k j then true else match ops[j]? with
 |some oj=>o.apart ops oj
 |none=>true
def zrf(ops:Array Oper)(k:Nat)(o:Oper):Nat->Bool
 |0=>true
 |j+1=>bif zyi ops k o j then zrf ops k o j else false
theorem zk5{ops:Array Oper}{k:Nat}{o:Oper}:∀{n:Nat},zrf ops k o n=true->∀j oj,j<n->ops[j]?=some oj->j≠k->Region.waitsFor .any ops j k=false->Region.waitsFor .any ops k j=false->o.apart ops oj=true
 |0,_,j,oj,hj,_,_,_,_=>by omega
 |n+1,h,j,oj,hj,ho,h1,h2,h3=>by
  simp only[zrf]at h
  cases hx:zyi ops k o n with
  |false=>rw[hx]at h;cases h
  |true=>
   rw[hx]at h
   rcases A1 j n with Z|Z
   ·exact zk5 h j oj Z ho h1 h2 h3
   ·have:j=n:=by omega
    subst this
    have e1:Nat.beq j k=false:=by
     cases hb:Nat.beq j k with
     |false=>rfl
     |true=>exact absurd (Az hb) h1
    unfold zyi at hx
    rw[e1,h2,h3,ho]at hx
    exact hx
def zyj(P:Program)(ops:Array Oper)(pu:List Nat)(o:Oper)(k:Nat)(e:Qe)(ch:Zr):Bool:=
 bif memN pu k then(bif zgo P e ch o then zrf ops k o ops.size else false)else true
def z6x(ops:Array Oper)(m k:Nat):Option Nat->Bool
 |none=>true
 |some j=>bif Nat.blt j m then Region.waitsFor .any ops j k else false
def uC(pu:List Nat)(k:Nat):Option (Option Nat):=bif memN pu k then none else z2d pu k
def z6y:List It->List It
 |[]=>[]
 |i::l=>(match i.us with
  |some _=>{ i with nb:=none }
  |none=>i)::z6y l
def dW(P:Program)(gl:Fr)(tr:TypeId)(n:Nat)(ops:Array Oper)(m:Nat)(pu:List Nat)(e0:Qe)(cs:CS)(Kt:List It->Prop):List Nat->Array Bool->List It->Prop
 |[],pl,IL=>bif zvw pl m then Kt (z6y IL)else False
 |k::ord,pl,IL=>match ops[k]? with
  |none=>False
  |some o=>bif zi2 ops m o k pl then(match Xw ops (zbo (Ju ops o) (itE IL++e0)) o.guard with
   |some ch=>bif qdb ops o ch then(bif Z5 n ch o.dst then(bif zyj P ops pu o k (zbo (Ju ops o) (itE IL++e0)) ch then(match uC pu k with
    |none=>zye P gl tr o (zbo (Ju ops o) (itE IL++e0)) ch cs (λav nb=>bif zox (Qo ops m) av nb then dW P gl tr n ops m pu e0 cs Kt ord (pl.setIfInBounds k true) (⟨k,o.dst,ch,av,nb,none⟩::IL)else False)
    |some us=>bif z6x ops m k us then(match ch with
     |[]=>z6w P tr o k (zbo (Ju ops o) (itE IL++e0)) IL cs us.isSome (λav nb _=>bif zox (Qo ops m) av nb then dW P gl tr n ops m pu e0 cs Kt ord (pl.setIfInBounds k true) (⟨k,o.dst,[],av,nb,us⟩::IL)else False)
     |_=>False)else False)else False)else False)else False
   |none=>False)else False
def strip(listed:Array Bool)(i:It):It:=match i.us with
 |some j=>bif listed.getD j false then { i with nb:=none } else i
 |none=>i
theorem zgp(listed:Array Bool)(i:It):(strip listed i).k=i.k/\(strip listed i).dst=i.dst/\(strip listed i).ch=i.ch/\(strip listed i).av=i.av/\(strip listed i).us=i.us/\((strip listed i).nb=i.nb\/(strip listed i).nb=none):=by
 unfold strip
 split
 ·cases listed.getD _ false with
  |true=>exact⟨rfl,rfl,rfl,rfl,rfl,.inr rfl⟩
  |false=>exact⟨rfl,rfl,rfl,rfl,rfl,.inl rfl⟩
 ·exact⟨rfl,rfl,rfl,rfl,rfl,.inl rfl⟩
def zgq(k:Nat)(i:It):It:=match i.us with
 |some j=>bif Nat.beq j k then { i with nb:=none } else i
 |none=>i
theorem ztg(k:Nat)(i:It):(zgq k i).k=i.k/\(zgq k i).dst=i.dst/\(zgq k i).ch=i.ch/\(zgq k i).av=i.av/\(zgq k i).us=i.us/\((zgq k i).nb=i.nb\/(zgq k i).nb=none):=by
 unfold zgq
 split
 ·cases Nat.beq _ k with
  |true=>exact⟨rfl,rfl,rfl,rfl,rfl,.inr rfl⟩
  |false=>exact⟨rfl,rfl,rfl,rfl,rfl,.inl rfl⟩
 ·exact⟨rfl,rfl,rfl,rfl,rfl,.inl rfl⟩
def Wi(listed:Array Bool):List It->List It
 |[]=>[]
 |i::l=>bif listed.getD i.k false then strip listed i::Wi listed l else Wi listed l
theorem zmh{listed:Array Bool}{i:It}:∀{l:List It},i∈l->listed.getD i.k false=true->strip listed i∈Wi listed l
 |j::l,h,hl=>by
  simp only[Wi]
  rcases Ay.1 h with rfl|h
  ·rw[hl];exact AC
  ·cases listed.getD j.k false with
   |true=>exact Aw _ (zmh h hl)
   |false=>exact zmh h hl
theorem zba{listed:Array Bool}{x:It}:∀{l:List It},x∈Wi listed l->∃i∈l,listed.getD i.k false=true/\x=strip listed i
 |j::l,h=>by
  simp only[Wi]at h
  cases hl:listed.getD j.k false with
  |true=>
   rw[hl]at h
   rcases Ay.1 h with rfl|h
   ·exact⟨j,AC,hl,rfl⟩
   ·obtain⟨i,hi,q⟩:=zba h
    exact⟨i,Aw _ hi,q⟩
  |false=>
   rw[hl]at h
   obtain⟨i,hi,q⟩:=zba h
   exact⟨i,Aw _ hi,q⟩
structure ItOK (h0:Za) (W:Nat->Prop) (M0:Fr) (P:Program) (n:Nat) (ops:Array Oper) (m:Nat) (pu:List Nat) (e0:Qe) (cs:CS) (IL:List It) (it:It) (Kan:AV->Prop):Prop where
 lt:it.k<m
 dst:Qp ops it.k=it.dst
 ok:Z5 n it.ch it.dst=true
 chw:∀x∈it.ch,∀p,p<m->Qp ops p=some x.1->Region.waitsFor .any ops it.k p=true
 ex:∃o e eat,ops[it.k]?=some o/\Xw ops e o.guard=some it.ch/\Spec h0 W M0 P o e it.ch cs it.nb Kan eat /\
  (∀x∈e,x∈e0\/(x∈itE IL/\∀p,p<m->Qp ops p=some x.1->Region.waitsFor .any ops it.k p=true)) /\
  (memN pu it.k=true->it.nb=none/\zfo P o e it.ch Kan/\zrf ops it.k o ops.size=true/\Qv o=false) /\
  (∀c,eat=some c->∃i∈IL,i.nb=some c/\i.us=some it.k)
 use:∀j,it.us=some j->j<m/\Region.waitsFor .any ops j it.k=true
 men:∀av,Kan av->it.nb=none->Xx av (Qo ops m)=true
theorem ItOK.mono{e0:Qe}{IL aa:List It}{it:It}{Kan:AV->Prop}(H:ItOK h0 W M0 P n ops m pu e0 cs IL it Kan)(hs:∀i∈IL,i∈aa):ItOK h0 W M0 P n ops m pu e0 cs aa it Kan:=
 {lt:=H.lt,dst:=H.dst,ok:=H.ok,chw:=H.chw,men:=H.men,use:=H.use,ex:=by
   obtain⟨o,e,eat,h1,h2,h3,h4,ab,Z⟩:=H.ex
   refine⟨o,e,eat,h1,h2,h3,λx hx=>(h4 x hx).imp id λ⟨h5,h6⟩=>⟨?_,h6⟩,ab,λc hc=>by
    obtain⟨i,hi,q⟩:=Z c hc
    exact⟨i,hs i hi,q⟩⟩
   obtain⟨i,hi,q⟩:=zce.1 h5
   exact zce.2 ⟨i,hs i hi,q⟩ }
theorem Wd{i p:Nat}(hi:i∈Region.ready .any ops listed)(hw:Region.waitsFor .any ops i p=true):listed.getD p false=true:=by
 obtain⟨oj,aa,e,he,hb,ab⟩:=Region.waitsFor_spec hw
 obtain⟨_,o,ho,Z⟩:=mem_ready.1 hi
 have:oj=o:=AL (aa.symm.trans ho)
 subst this
 rw[<-ab];exact Z e he hb
structure Mid (h0:Za) (W:Nat->Prop) (M0:Fr) (P:Program) (n:Nat) (ops:Array Oper) (m:Nat) (e0:Qe) (cs:CS) (listed:Array Bool) (IL:List It) (γ:Gh) (a:Act) (h:Za):Prop where
 sat:SatA n (itE (Wi listed IL)++e0) γ a
 inv:Inv h0 W M0 (itC (Wi listed IL)++cs) γ h
theorem zbb{k:Nat}(h:ops[k]?=some o):Qp ops k=o.dst:=by simp[Qp,h]
theorem zgr{m k t:Nat}(hk:k<m)(h:Qp ops k=some t):t∈Qo ops m:=by
 unfold Qp at h
 split at h
 ·rename_i o ho
  unfold Qo
  have Z:o∈ops.toList.take m:=by
   rw[List.mem_iff_getElem?]
   exact⟨k,by rw[AR,if_pos hk];simpa using ho⟩
  generalize ops.toList.take m=l at Z
  induction l with
  |nil=>cases Z
  |cons x l ih=>
   simp only[Qx]
   rcases Ay.1 Z with rfl|Z
   ·rw[h];exact AC
   ·split
    ·exact Aw _ (ih Z)
    ·exact ih Z
 ·cases h
theorem zi3{x:Nat×Ch}:∀{l:List It},x∈itC l↔∃i∈l,i.nb=some x
 |[]=>by simp[itC]
 |i::l=>by
  simp only[itC]
  split
  ·rename_i b hb
   rw[Ay,zi3 (l:=l)]
   constructor
   ·rintro(rfl|⟨j,hj,h⟩)
    ·exact⟨i,AC,hb⟩
    ·exact⟨j,Aw _ hj,h⟩
   ·rintro⟨j,hj,h⟩
    rcases Ay.1 hj with rfl|hj
    ·left;rw[hb]at h;exact(AL h).symm
    ·exact .inr ⟨j,hj,h⟩
  ·rename_i hb
   rw[zi3 (l:=l)]
   constructor
   ·rintro⟨j,hj,h⟩;exact⟨j,Aw _ hj,h⟩
   ·rintro⟨j,hj,h⟩
    rcases Ay.1 hj with rfl|hj
    ·rw[hb]at h;cases h
    ·exact⟨j,hj,h⟩
theorem zth{c:Nat}:∀{l:CS},(∀x∈l,x.1≠c/\zgh c x.2=false)->Qf c l=true
 |[],_=>rfl
 |(j,k)::l,h=>by
  obtain⟨h1,h2⟩:=h _ AC
  simp only[Qf]
  have:Nat.beq j c=false:=by
   cases hb:Nat.beq j c with
   |false=>rfl
   |true=>exact absurd (Az hb) h1
  rw[this,h2]
  exact zth λx hx=>h x (Aw _ hx)
theorem zk6{e0:Qe}(ar:Yl ops m=true)(bo:∀x∈e0,x.2.1=[]/\x.1∉Qo ops m/\Xx x.2.2 (Qo ops m)=true)
  {IL:List It} (ae:∀i∈IL,∃Kan,ItOK h0 W M0 P n ops m pu e0 cs IL i Kan/\Kan i.av) (aE:∀i∈IL,∀j∈IL,i.k=j.k->i=j) (br:HeadInv .any ops m listed) (M:Mid h0 W M0 P n ops m e0 cs listed IL γ a h)
  {it:It} {Kan:AV->Prop} (T:ItOK h0 W M0 P n ops m pu e0 cs IL it Kan) (hr:it.k∈Region.ready .any ops listed):
  ∃o e eat,ops[it.k]?=some o/\o.dst=it.dst/\SatA n e γ a/\Xw ops e o.guard=some it.ch/\Spec h0 W M0 P o e it.ch cs it.nb Kan eat/\(memN pu it.k=true->it.nb=none/\zfo P o e it.ch Kan/\zrf ops it.k o ops.size=true/\Qv o=false) /\
   (∀b,it.nb=some b->Qf b.1 (itC (Wi listed IL)++cs)=true) /\
   (∀c,eat=some c->c∈itC (Wi listed IL)++cs/\∀x∈itC (Wi listed IL)++cs,x.1=c.1->x.2=c.2)/\(∀d,o.dst=some d->eat≠none->Qf d (itC (Wi listed IL)++cs)=true) /\
   ∀av u γ' h',Kan av->(valid (Zl a) it.ch->DenV γ' av u)->(¬valid (Zl a) it.ch->u=undef)->Inv h0 W M0 (it.nb.toList++z6p eat (itC (Wi listed IL)++cs)) γ' h'->Gx (it.nb.map (·.1)) γ γ' ->
    ∀L':List It,L'.Perm ({ it with av:=av }::(Wi listed IL).map (zgq it.k))->SatA n (itE L'++e0) γ' (a.put it.dst u)/\Inv h0 W M0 (itC L'++cs) γ' h':=by
 obtain⟨o,e,eat,ho,aO,sp,aS,aP,ah⟩:=T.ex
 have ay:o.dst=it.dst:=by rw[<-zbb ho];exact T.dst
 have aJ:listed.getD it.k true=false:=(mem_ready.1 hr).1
 have az:SatA n e γ a:=M.sat.sub λx hx=>by
  rcases aS x hx with h1|⟨h1,h2⟩
  ·exact AO _ h1
  ·refine AJ _ ?_
   obtain⟨i,hi,q⟩:=zce.1 h1
   obtain⟨Ki,Ti,_⟩:=ae i hi
   have hw:=h2 i.k Ti.lt (by rw[Ti.dst];exact q.1)
   obtain⟨f1,f2,f3,f4,_⟩:=zgp listed i
   exact zce.2 ⟨strip listed i,zmh hi (Wd hr hw),by rw[f2];exact q.1,by rw[f3];exact q.2.1,by rw[f4];exact q.2.2⟩
 have hw:=Jj az aO
 have aB:∀i∈Wi listed IL,i.k≠it.k:=by
  intro x hi e
  obtain⟨i,ab,this,rfl⟩:=zba hi
  rw[(zgp listed i).1]at e
  rw[e]at this
  have h2:=getD_both aJ
  rw[h2]at this
  cases this
 have aC:∀d,o.dst=some d->Qf d cs=true->Qf d (itC (Wi listed IL)++cs)=true:=by
  intro d h2 h1
  refine zth λx hx=>?_
  rcases AP.1 hx with hx|hx
  ·obtain⟨i',hi,aa⟩:=zi3.1 hx
   obtain⟨i,ab,an,rfl⟩:=zba hi
   have au:=aB _ hi
   obtain⟨f1,_,_,_,_,f6⟩:=zgp listed i
   have Z:i.nb=some x:=by
    rcases f6 with f6|f6
    ·rw[<-f6];exact aa
    ·rw[f6]at aa;cases aa
   obtain⟨Ki,Ti,aL⟩:=ae i ab
   obtain⟨oi,ei,aV,am,_,ai,_,_⟩:=Ti.ex
   obtain⟨_,h4,h5⟩:=ai.box x Z
   refine⟨λe=>au ?_,?_⟩
   ·rw[f1]
    refine Z7 ar i.k it.k d Ti.lt T.lt ?_ (by rw[T.dst,<-ay];exact h2)
    rw[zbb am,h4,e]
   ·rcases h5 with⟨⟨l,h5,h6⟩,_⟩|⟨⟨e',t',bB,h5⟩,_⟩
    ·rw[h5];exact W7 h6
    ·rw[h5];rfl
  ·obtain⟨e1,e2⟩:=Xf h1 x hx
   exact⟨λe=>e1 (by rw[e]),e2⟩
 have a6:∀b,it.nb=some b->Qf b.1 (itC (Wi listed IL)++cs)=true:=by
  intro b hb
  obtain⟨h1,h2,_⟩:=sp.box b hb
  exact aC b.1 h2 h1
 have bj:∀d,o.dst=some d->eat≠none->Qf d (itC (Wi listed IL)++cs)=true:=by
  intro d hd he
  obtain⟨d',be,hn⟩:=sp.dn he
  have:d'=d:=AL (be.symm.trans hd)
  subst this
  exact aC d' hd hn
 have aY:∀c,eat=some c->∀i∈IL,∀b,i.nb=some b->b.1=c.1->i.us=some it.k/\b=c:=by
  intro c hc i hi b hb e1
  obtain⟨i3,af,q1,q2⟩:=ah c hc
  obtain⟨Ki,Ti,_⟩:=ae i hi
  obtain⟨K3,T3,_⟩:=ae i3 af
  obtain⟨oi,ei,aV,am,_,ai,_⟩:=Ti.ex
  obtain⟨o3,e3,bg,aZ,_,aG,_⟩:=T3.ex
  obtain⟨_,d1,_⟩:=ai.box b hb
  obtain⟨_,d3,_⟩:=aG.box c q1
  have hk:i.k=i3.k:=Z7 ar i.k i3.k c.1 Ti.lt T3.lt (by rw[zbb am,d1,e1]) (by rw[zbb aZ,d3])
  have:i=i3:=aE i hi i3 af hk
  subst this
  exact⟨q2,AL (hb.symm.trans q1)⟩
 have aT:∀c,eat=some c->Qf c.1 cs=true:=by
  intro c hc
  obtain⟨i3,af,q1,q2⟩:=ah c hc
  obtain⟨K3,T3,_⟩:=ae i3 af
  obtain⟨o3,e3,bg,aZ,_,aG,_⟩:=T3.ex
  exact(aG.box c q1).1
 have a8:∀x∈itC (Wi listed IL),∃i∈IL,i.nb=some x:=by
  intro x hx
  obtain⟨i',hi,aa⟩:=zi3.1 hx
  obtain⟨i,ab,an,rfl⟩:=zba hi
  rcases(zgp listed i).2.2.2.2.2 with f6|f6
  ·exact⟨i,ab,by rw[<-f6];exact aa⟩
  ·rw[f6]at aa;cases aa
 have aI:∀c,eat=some c->c∈itC (Wi listed IL)++cs/\∀x∈itC (Wi listed IL)++cs,x.1=c.1->x.2=c.2:=by
  intro c hc
  refine⟨AJ _ ?_,λx hx e=>?_⟩
  ·obtain⟨i3,af,q1,q2⟩:=ah c hc
   obtain⟨K3,T3,_⟩:=ae i3 af
   have hw:=(T3.use _ q2).2
   have hl:=Wd hr hw
   refine zi3.2 ⟨strip listed i3,zmh af hl,?_⟩
   unfold strip
   rw[q2]
   simp only
   rw[getD_both aJ]
   exact q1
  ·rcases AP.1 hx with hx|hx
   ·obtain⟨i,hi,Z⟩:=a8 x hx
    rw[(aY c hc i hi x Z e).2]
   ·exact absurd (by rw[e]) (Xf (aT c hc) x hx).1
 refine⟨o,e,eat,ho,ay,az,aO,sp,aP,a6,aI,bj,?_⟩
 ·intro av u γ' h' bA hy hn I' g L' hp
  refine⟨?_,?_⟩
  ·refine⟨by rw[Zs];exact M.sat.defers,by rw[size_put];exact M.sat.size,λx hx=>?_⟩
   have old:∀x:Nat×Zr×AV,x∈itE (Wi listed IL)++e0->(∀s,it.dst=some s->x.1≠s/\mentions x.2.1 s=false)->zxo zxn (it.nb.map (·.1)) x.2.2=false->zl8 γ' (Zl (a.put it.dst u)) x:=by
    intro x hx hs hm
    have hf:=M.sat.all x hx
    cases hd:it.dst with
    |none=>
     exact⟨λhv=>(hf.1 hv).gx g hm,hf.2⟩
    |some s=>
     obtain⟨h1,h2⟩:=hs s hd
     have hv:=Js (σ:=Zl (a.put (some s) u)) (τ:=Zl a) h2 (λj hj=>Zz hj)
     refine⟨λhc=>?_,λhc=>?_⟩
     ·rw[Zz h1];exact(hf.1 (hv.1 hc)).gx g hm
     ·exact(Zz h1).trans (hf.2 λaH=>hc (hv.2 aH))
   have aU:∀s,it.dst=some s->s∈Qo ops m:=λs hs=>zgr T.lt (by rw[T.dst];exact hs)
   have aA:∀aF,(Xx aF (Qo ops m)=true)->zxo zxn (it.nb.map (·.1)) aF=false:=by
    intro aF h1
    cases Z:it.nb with
    |none=>rfl
    |some b=>
     obtain⟨_,h2,_⟩:=sp.box b Z
     exact zk3 h1 b.1 (aU _ (by rw[<-ay];exact h2))
   rcases AP.1 hx with hx|hx
   ·obtain⟨i,hi,q1,q2,q3⟩:=zce.1 hx
    rcases Ay.1 (hp.subset hi)with rfl|ak
    ·-- the new fact
     simp only at q1 q2 q3
     have aN:x.1<a.tmps.size:=by
      rw[M.sat.size]
      have:=T.ok
      rw[q1]at this
      simp only[Z5]at this
      cases hm:mentions it.ch x.1 with
      |true=>rw[hm]at this;cases this
      |false=>rw[hm]at this;simpa[CC]using this
     have a1:mentions it.ch x.1=false:=by
      have:=T.ok
      rw[q1]at this
      simp only[Z5]at this
      cases hm:mentions it.ch x.1 with
      |true=>rw[hm]at this;cases this
      |false=>rfl
     rw[q1]
     have hv:=Js (σ:=Zl (a.put (some x.1) u)) (τ:=Zl a) a1 (λj hj=>Zz hj)
     refine⟨λhc=>?_,λhc=>?_⟩
     ·rw[Z4 aN,<-q3];rw[<-q2]at hc;exact hy (hv.1 hc)
     ·rw[Z4 aN];rw[<-q2]at hc;exact hn λaH=>hc (hv.2 aH)
    ·obtain⟨i1,aQ,rfl⟩:=List.mem_map.1 ak
     obtain⟨c1,c2,c3,c4,_⟩:=ztg it.k i1
     rw[c2]at q1
     rw[c3]at q2
     rw[c4]at q3
     have ak:=aQ
     obtain⟨i,ab,an,rfl⟩:=zba ak
     obtain⟨f1,f2,f3,f4,_⟩:=zgp listed i
     have bz:=zce.2 ⟨strip listed i,ak,q1,q2,q3⟩
     rw[f2]at q1
     rw[f3]at q2
     rw[f4]at q3
     have au:i.k≠it.k:=by rw[<-f1];exact aB _ ak
     obtain⟨Ki,Ti,aL⟩:=ae i ab
     obtain⟨oi,ei,aV,am,_,ai,_,_⟩:=Ti.ex
     refine old x (AJ _ bz) (λs hs=>⟨λe=>au ?_,?_⟩) ?_
     ·exact Z7 ar i.k it.k s Ti.lt T.lt (by rw[Ti.dst,q1,e]) (by rw[T.dst];exact hs)
     ·cases hm:mentions x.2.1 s with
      |false=>rfl
      |true=>
       exfalso
       rw[<-q2]at hm
       have:∃y∈i.ch,y.1=s:=by
        have key:∀c:Zr,mentions c s=true->∃y∈c,y.1=s:=by
         intro c
         induction c with
         |nil=>intro h;cases h
         |cons y c ih=>
          intro h
          obtain⟨g,p⟩:=y
          simp only[mentions]at h
          cases hb:Nat.beq s g with
          |true=>exact⟨(g,p),AC,(Az hb).symm⟩
          |false=>
           rw[hb]at h
           obtain⟨y,hy,e⟩:=ih h
           exact⟨y,Aw _ hy,e⟩
        exact key _ hm
       obtain⟨y,ba,bh⟩:=this
       have bm:=Ti.chw y ba it.k T.lt (by rw[T.dst,hs,bh])
       obtain⟨oj,bq,e',a7,bn,bu⟩:=Region.waitsFor_spec bm
       have:=br.closed i.k oj bq an e' a7 bn
       rw[bu,getD_both aJ]at this
       cases this
     ·rw[<-q3]
      cases hnbi:i.nb with
      |none=>exact aA _ (Ti.men _ aL hnbi)
      |some bi=>
       obtain⟨_,h4,h5⟩:=ai.box bi hnbi
       have aj:i.av=.g (.a (.box bi.1 0))\/i.av=.g (.a (.own bi.1)):=by
        have:=aL
        rcases h5 with⟨_,h5⟩|⟨_,h5⟩
        ·rw[h5]at this;exact .inl this
        ·rw[h5]at this;exact .inr this
       cases Z:it.nb with
       |none=>rfl
       |some b=>
        obtain⟨_,h2,_⟩:=sp.box b Z
        have:Nat.beq bi.1 b.1=false->zxo zxn (Option.map (λx=>x.fst) (some b)) i.av=false:=λhq=>by
         rcases aj with aj|aj
         ·rw[aj];exact hq
         ·rw[aj];exact hq
        apply this
        cases hb:Nat.beq bi.1 b.1 with
        |false=>rfl
        |true=>
         exfalso
         have:=Az hb
         exact au (Z7 ar i.k it.k b.1 Ti.lt T.lt (by rw[zbb am,h4,this]) (by rw[T.dst,<-ay];exact h2))
   ·obtain⟨b1,b2,b3⟩:=bo x hx
    exact old x (AO _ hx) (λs hs=>⟨λe=>b2 (e ▸ aU s hs),by rw[b1];rfl⟩) (aA _ b3)
  ·have e1:itC ({ it with av:=av }::(Wi listed IL).map (zgq it.k))=it.nb.toList++itC ((Wi listed IL).map (zgq it.k)):=by
    simp only[itC]
    cases it.nb <;> rfl
   have aM:∀{l l':List It},l.Perm l'->(itC l).Perm (itC l'):=by
    intro l l' hp
    induction hp with
    |nil=>exact .nil
    |cons x p ih=>simp only[itC];split;exact ih.cons _;exact ih
    |swap x y l=>
     simp only[itC]
     split <;> split <;> first|exact .swap _ _ _|exact .refl _
    |trans _ _ i1 i2=>exact i1.trans i2
   have sub:(itC ((Wi listed IL).map (zgq it.k))++cs).Sublist (z6p eat (itC (Wi listed IL)++cs)):=by
    have s0:∀l:List It,(itC (l.map (zgq it.k))).Sublist (itC l):=by
     intro l
     induction l with
     |nil=>exact .slnil
     |cons x l ih=>
      simp only[Cf,itC]
      rcases(ztg it.k x).2.2.2.2.2 with f|f
      ·rw[f]
       split
       ·exact ih.cons_cons _
       ·exact ih
      ·rw[f]
       simp only
       split
       ·exact ih.cons _
       ·exact ih
    cases he:eat with
    |none=>exact(s0 _).append_right cs
    |some c=>
     show(_:CS).Sublist (zaz c.1 (itC (Wi listed IL)++cs))
     have hd:zaz c.1 (itC (Wi listed IL)++cs)=zaz c.1 (itC (Wi listed IL))++cs:=by
      have ha:∀l m:CS,zaz c.1 (l++m)=zaz c.1 l++zaz c.1 m:=by
       intro l m
       induction l with
       |nil=>rfl
       |cons x l ih=>
        simp only[A8,zaz]
        cases Nat.beq x.1 c.1 with
        |true=>exact ih
        |false=>simp only[cond_false,ih,A8]
      have hb:∀l:CS,(∀x∈l,x.1≠c.1)->zaz c.1 l=l:=by
       intro l
       induction l with
       |nil=>intro _;rfl
       |cons x l ih=>
        intro hx
        simp only[zaz]
        cases hq:Nat.beq x.1 c.1 with
        |true=>exact absurd (Az hq) (hx x AC)
        |false=>rw[cond_false,ih λy hy=>hx y (Aw _ hy)]
      rw[ha,hb cs λx hx e=>(Xf (aT c he) x hx).1 (by rw[e])]
     rw[hd]
     refine List.Sublist.append_right ?_ cs
     have s1:∀l:List It,(∀i∈l,∀b,i.nb=some b->b.1=c.1->i.us=some it.k)->(itC (l.map (zgq it.k))).Sublist (zaz c.1 (itC l)):=by
      intro l
      induction l with
      |nil=>intro _;exact .slnil
      |cons x l ih=>
       intro hl
       have ap:=ih λi hi=>hl i (Aw _ hi)
       simp only[Cf,itC]
       cases Z:x.nb with
       |none=>
        have:(zgq it.k x).nb=none:=by
         rcases(ztg it.k x).2.2.2.2.2 with f|f
         ·rw[f,Z]
         ·exact f
        rw[this]
        exact ap
       |some b=>
        simp only[zaz]
        cases hq:Nat.beq b.1 c.1 with
        |true=>
         have hu:=hl x AC b Z (Az hq)
         have:(zgq it.k x).nb=none:=by
          unfold zgq
          rw[hu]
          simp
         rw[this,cond_true]
         exact ap
        |false=>
         rw[cond_false]
         rcases(ztg it.k x).2.2.2.2.2 with f|f
         ·rw[f,Z];exact ap.cons_cons _
         ·rw[f];exact ap.cons _
     refine s1 _ λx hx b hb e=>?_
     obtain⟨i,ab,an,rfl⟩:=zba hx
     obtain⟨_,_,_,_,f5,f6⟩:=zgp listed i
     rw[f5]
     rcases f6 with f6|f6
     ·exact(aY c he i ab b (by rw[<-f6];exact hb) e).1
     ·rw[f6]at hb;cases hb
   have I2:Inv h0 W M0 (it.nb.toList++(itC ((Wi listed IL).map (zgq it.k))++cs)) γ' h':=I'.sub (sub.append_left _)
   rw[<-Bo,<-e1]at I2
   exact I2.perm ((aM hp.symm).append_right cs)
theorem zoz{e0:Qe}{Q:Exit->Act->World->Prop}(ar:Yl ops m=true)(au:∀x∈e0,x.2.1=[]/\x.1∉Qo ops m/\Xx x.2.2 (Qo ops m)=true)
  {IL:List It} (az:∀i∈IL,∃Kan,ItOK h0 W M0 P n ops m pu e0 cs IL i Kan/\Kan i.av) (ab:∀i∈IL,∀j∈IL,i.k=j.k->i=j) (ap:HeadInv .any ops m listed) (M:Mid h0 W M0 P n ops m e0 cs listed IL γ a h)
  {it:It} {Kan:AV->Prop} (T:ItOK h0 W M0 P n ops m pu e0 cs IL it Kan) (hr:it.k∈Region.ready .any ops listed) {Kp:Act->World->Prop} (B:World) (d:Nat)
  (hK:∀av u γ' h' d',Kan av->(∀L':List It,L'.Perm ({ it with av:=av }::(Wi listed IL).map (zgq it.k))->SatA n (itE L'++e0) γ' (a.put it.dst u)/\Inv h0 W M0 (itC L'++cs) γ' h')->Gx (it.nb.map (·.1)) γ γ'->Kp (a.put it.dst u) (mk B d' h')):
  wpOp P ops Q it.k Kp a (mk B d h):=by
 obtain⟨o,e,eat,ho,aj,Z,an,sp,aA,am,ae,ay,ah⟩:=zk6 ar au az ab ap M T hr
 have hw:=Jj Z an
 unfold wpOp
 rw[ho]
 simp only
 by_cases hv:valid (Zl a) it.ch
 ·rw[if_pos (hw.2 hv)]
  left
  have hx:=sp.yes n γ h a (itC (Wi listed IL)) Z M.inv am ae ay hv
  refine(ExA.upon hx B d ?_)
  rintro v d' h' ⟨av,γ',g1,g2,g3,g4⟩
  rw[aj]
  exact hK av v γ' h' d' g1 (ah av v γ' h' g1 (λ_=>g2) (λaf=>absurd hv af) g3 g4) g4
 ·rw[if_neg λhx=>hv (hw.1 hx)]
  obtain⟨ak,ai,av,aa⟩:=sp.no n γ a Z hv
  rw[aj]
  have g4:Gx (it.nb.map (·.1)) γ γ:=by rw[ak];exact Gx.refl _ _
  exact hK av undef γ h d aa (ah av undef γ h aa (λaf=>absurd af hv) (λ_=>rfl) (by rw[ak,ai];exact M.inv) g4) g4
theorem zyk{e0:Qe}{Q:Exit->Act->World->Prop}(aH:Yl ops m=true)(aL:∀x∈e0,x.2.1=[]/\x.1∉Qo ops m/\Xx x.2.2 (Qo ops m)=true)
  {IL:List It} (aO:∀i∈IL,∃Kan,ItOK h0 W M0 P n ops m pu e0 cs IL i Kan/\Kan i.av) (af:∀i∈IL,∀j∈IL,i.k=j.k->i=j) (aC:HeadInv .any ops m listed) (M:Mid h0 W M0 P n ops m e0 cs listed IL γ a h)
  {it:It} {Kan:AV->Prop} (T:ItOK h0 W M0 P n ops m pu e0 cs IL it Kan) (ae:Kan it.av) (hr:it.k∈Region.ready .any ops listed) (aM:memN pu it.k=true) (ab:Region.noSelect ops=true) (hQ:∀c a w,¬Q (.panic c) a w) (B:World) (d:Nat) {f:Nat}
  (hK:∀u,(∀L':List It,L'.Perm (it::(Wi listed IL).map (zgq it.k))->SatA n (itE L'++e0) γ (a.put it.dst u)/\Inv h0 W M0 (itC L'++cs) γ h)->Gx (it.nb.map (·.1)) γ γ->wpAny P .any ops Q f (listed.setIfInBounds it.k true) (a.put it.dst u) (mk B d h)):
  wpAny P .any ops Q (f+1) listed a (mk B d h):=by
 obtain⟨o,e,eat,ho,am,Z,ay,sp,ak,aP,aG,aQ,aj⟩:=zk6 aH aL aO af aC M T hr
 obtain⟨an,aI,ai,_⟩:=ak aM
 have aa:Inv h0 W M0 (it.nb.toList++z6p eat (itC (Wi listed IL)++cs)) γ h:=by
  rw[an]
  refine M.inv.sub ?_
  cases eat with
  |none=>exact List.Sublist.refl _
  |some c=>exact Y0 c.1 _
 have hw:=Jj Z ay
 have g4:Gx (it.nb.map (·.1)) γ γ:=by rw[an];exact Gx.refl _ _
 have ap:∀j oj,ops[j]?=some oj->j≠it.k->listed.getD j true=false->(∀e∈oj.after,Region.binds .any e=true->e.on≠it.k)->o.apart ops oj=true:=by
  intro j oj hj aB aN ar
  have aA:j<ops.size:=(Au.1 hj).1
  refine zk5 ai j oj aA hj aB ?_ ?_
  ·cases hb:Region.waitsFor .any ops j it.k with
   |false=>rfl
   |true=>
    obtain⟨au,aJ,e',az,aF,aE⟩:=Region.waitsFor_spec hb
    have:au=oj:=AL (aJ.symm.trans hj)
    subst this
    exact absurd aE (ar e' az aF)
  ·cases hb:Region.waitsFor .any ops it.k j with
   |false=>rfl
   |true=>
    have:=Wd hr hb
    rw[getD_both aN]at this;cases this
 by_cases hv:valid (Zl a) it.ch
 ·obtain⟨v,hd,hx⟩:=aI it.av ae n γ a Z hv
  refine wpAny_first ho (Region.noSelect_spec ab) (λc a w hq=>absurd hq (hQ c _ w)) f listed a (mk B d h) ap hr (.inl ⟨hw.2 hv,hx⟩) ?_
  rw[am]
  exact hK v (aj it.av v γ h ae (λ_=>hd) (λah=>absurd hv ah) aa g4) g4
 ·refine wpAny_first ho (Region.noSelect_spec ab) (λc a w hq=>absurd hq (hQ c _ w)) f listed a (mk B d h) ap hr (.inr ⟨by simpa using λhx=>hv (hw.1 hx),rfl⟩) ?_
  rw[am]
  exact hK undef (aj it.av undef γ h ae (λah=>absurd ah hv) (λ_=>rfl) aa g4) g4
structure GInv (h0:Za) (W:Nat->Prop) (M0:Fr) (P:Program) (n:Nat) (ops:Array Oper) (m:Nat) (pu:List Nat) (e0:Qe) (cs:CS) (listed pl:Array Bool) (IL:List It):Prop where
 size:pl.size=ops.size
 mem:∀k,pl.getD k false=true↔∃i∈IL,i.k=k
 dist:IL.Pairwise λi j=>i.k≠j.k
 items:∀i∈IL,∃Kan,ItOK h0 W M0 P n ops m pu e0 cs IL i Kan/\Kan i.av/\(listed.getD i.k false=false->Kan=(· = i.av))
 sub:∀k,listed.getD k false=true->pl.getD k false=true
def zhy(ops:Array Oper):List Nat->Bool
 |[]=>true
 |k::_=>match ops[k]? with
  |some o=>Qv o
  |none=>false
theorem getD_lt{k:Nat}(h:k<pl.size):pl.getD k true=pl.getD k false:=by simp[h]
theorem zrg(ar:Fr.le gl M0){e0:Qe}{Kt:List It->Prop}{k:Nat}{IL:List It}(H:dW P gl tr n ops m pu e0 cs Kt (k::ord) pl IL):
  ∃o ch nb us Kan,ops[k]?=some o/\zi2 ops m o k pl=true/\(∀av,ItOK h0 W M0 P n ops m pu e0 cs IL ⟨k,o.dst,ch,av,nb,us⟩ Kan)/\(∀av,Kan av->dW P gl tr n ops m pu e0 cs Kt ord (pl.setIfInBounds k true) (⟨k,o.dst,ch,av,nb,us⟩::IL))/\(Qv o=false->∃av,Kan=(· = av)):=by
 unfold dW at H
 split at H
 ·exact H.elim
 ·rename_i o ho
  cases hst:zi2 ops m o k pl with
  |false=>rw[hst]at H;exact H.elim
  |true=>
   rw[hst]at H
   simp only[cond_true]at H
   split at H
   ·rename_i ch an
    cases hco:qdb ops o ch with
    |false=>rw[hco]at H;exact H.elim
    |true=>
     rw[hco]at H
     cases hok:Z5 n ch o.dst with
     |false=>rw[hok]at H;exact H.elim
     |true=>
      rw[hok]at H
      simp only[cond_true]at H
      cases hpo:zyj P ops pu o k (zbo (Ju ops o) (itE IL++e0)) ch with
      |false=>rw[hpo]at H;exact H.elim
      |true=>
      rw[hpo]at H
      simp only[cond_true]at H
      have ab:∃nb us eat Kan,Spec h0 W M0 P o (zbo (Ju ops o) (itE IL++e0)) ch cs nb Kan eat/\(∀av,Kan av->(bif zox (Qo ops m) av nb then dW P gl tr n ops m pu e0 cs Kt ord (pl.setIfInBounds k true) (⟨k,o.dst,ch,av,nb,us⟩::IL)else False))/\(Qv o=false->∃av,Kan=(· = av)) /\
        (memN pu k=true->nb=none/\zfo P o (zbo (Ju ops o) (itE IL++e0)) ch Kan/\zrf ops k o ops.size=true/\Qv o=false) /\
        (∀c,eat=some c->∃i∈IL,i.nb=some c/\i.us=some k)/\(∀j,us=some j->j<m/\Region.waitsFor .any ops j k=true):=by
       unfold zyj at hpo
       unfold uC at H
       cases hmp:memN pu k with
       |false=>
        rw[hmp,cond_false]at H
        split at H
        ·obtain⟨nb,Kan,h1,h2,h3⟩:=zrd (h0:=h0) (W:=W) (M0:=M0) ar H
         exact⟨nb,none,none,Kan,h1,h2,h3,λhc=>(by cases hc),λc hc=>(by cases hc),λj hj=>by cases hj⟩
        ·rename_i us aA
         cases huo:z6x ops m k us with
         |false=>rw[huo]at H;exact H.elim
         |true=>
          rw[huo,cond_true]at H
          split at H
          ·obtain⟨nb,eat,av,h1,h2,h3⟩:=zre (h0:=h0) (W:=W) (M0:=M0) H
           refine⟨nb,us,eat,(· = av),h1,λaa e=>e ▸ h2,λ_=>⟨av,rfl⟩,λhc=>(by cases hc),λc hc=>zd3 (h3 c hc),λj hj=>?_⟩
           subst hj
           simp only[z6x]at huo
           cases hq:Nat.blt j m with
           |false=>rw[hq]at huo;cases huo
           |true=>rw[hq]at huo;exact⟨by simpa[CC]using hq,huo⟩
          ·exact H.elim
       |true=>
        rw[hmp]at hpo
        simp only[cond_true]at hpo
        rw[hmp,cond_true]at H
        simp only at H
        cases hpb:zgo P (zbo (Ju ops o) (itE IL++e0)) ch o with
        |false=>rw[hpb]at hpo;cases hpo
        |true=>
         rw[hpb]at hpo
         obtain⟨av,h1,h2,h3⟩:=zvx (h0:=h0) (W:=W) (M0:=M0) H hpb
         exact⟨none,none,none,(· = av),h1,λaa e=>e ▸ h2,λ_=>⟨av,rfl⟩,λ_=>⟨rfl,h3,hpo,zoy hpb⟩,λc hc=>(by cases hc),λj hj=>by cases hj⟩
      obtain⟨nb,us,eat,Kan,sp,hK,aj,af,ah,ai⟩:=ab
      have ak:Q3 ops k (Ju ops o) m=true:=by
       unfold zi2 at hst
       cases h1:Nat.blt k m with
       |false=>rw[h1]at hst;cases hst
       |true=>
        rw[h1]at hst
        cases h2:Q3 ops k (Ju ops o) m with
        |false=>rw[h2]at hst;cases hst
        |true=>rfl
      have ay:k<m:=by
       unfold zi2 at hst
       cases h1:Nat.blt k m with
       |false=>rw[h1]at hst;cases hst
       |true=>simpa[CC]using h1
      have ae:∀av,Kan av->zox (Qo ops m) av nb=true/\dW P gl tr n ops m pu e0 cs Kt ord (pl.setIfInBounds k true) (⟨k,o.dst,ch,av,nb,us⟩::IL):=by
       intro av Z
       have:=hK av Z
       cases hio:zox (Qo ops m) av nb with
       |false=>rw[hio]at this;exact this.elim
       |true=>rw[hio]at this;exact⟨rfl,this⟩
      refine⟨o,ch,nb,us,Kan,ho,hst,λav=>⟨ay,zbb ho,hok,?_,⟨o,_,eat,ho,an,sp,λx hx=>?_,af,ah⟩,ai,λaa Z am=>?_⟩,λav Z=>(ae av Z).2,aj⟩
      ·-- the chain's slots
       intro x hx p hp hd
       refine Zt ak p x.1 hp hd ?_
       unfold qdb at hco
       split at hco
       ·cases hx
       ·rename_i g q
        have ap:x=(g,q):=by simpa using hx
        subst ap
        split at hco
        ·rename_i j pp az
         split at hco
         ·rename_i g' au
          have e:=Az hco
          unfold Ju
          rw[az]
          simp only[au]
          rw[e]
          exact AJ _ AC
         ·cases hco
        ·cases hco
       ·cases hco
      ·obtain⟨h1,h2⟩:=zag hx
       rcases AP.1 h1 with h1|h1
       ·exact .inr ⟨h1,λp hp hd=>Zt ak p x.1 hp hd h2⟩
       ·exact .inl h1
      ·have:=(ae aa Z).1
       simp only at am
       subst am
       exact this
   ·exact H.elim
theorem zyl{k:Nat}(h:zi2 ops m o k pl=true):k∈Region.ready .any ops pl/\(Qv o=true->Region.ready .any ops pl=[k]):=by
 unfold zi2 at h
 cases h1:Nat.blt k m with
 |false=>rw[h1]at h;cases h
 |true=>
  rw[h1]at h
  cases h2:Q3 ops k (Ju ops o) m with
  |false=>rw[h2]at h;cases h
  |true=>
   rw[h2]at h
   simp only[cond_true]at h
   cases ha:Qv o with
   |false=>rw[ha]at h;exact⟨zyg h,λhc=>by cases hc⟩
   |true=>
    rw[ha]at h
    simp only[cond_true]at h
    have:Region.ready .any ops pl=[k]:=by
     unfold z4q at h
     split at h
     ·rename_i x _ hx;rw[hx,Az h]
     ·cases h
    exact⟨by rw[this];exact AC,λ_=>this⟩
theorem zym{P:Program}{gl:Fr}(ah:Fr.le gl M0){tr:TypeId}{n:Nat}{ops:Array Oper}{m:Nat}{pu:List Nat}{e0:Qe}{cs:CS}{Kt:List It->Prop}{listed:Array Bool}:∀{ord:List Nat} {pl:Array Bool} {IL:List It},dW P gl tr n ops m pu e0 cs Kt ord pl IL->GInv h0 W M0 P n ops m pu e0 cs listed pl IL ->
  ∃Z ae new,dW P gl tr n ops m pu e0 cs Kt Z ae (new++IL)/\GInv h0 W M0 P n ops m pu e0 cs listed ae (new++IL)/\zhy ops Z=true/\∀i∈new,listed.getD i.k false=false
 |[],pl,IL,H,G=>⟨[],pl,[],H,G,rfl,λi hi=>by cases hi⟩
 |k::ord,pl,IL,H,G=>by
  obtain⟨o,ch,nb,us,Kan,ho,an,ap,hK,aj⟩:=zrg (h0:=h0) (W:=W) (M0:=M0) ah H
  cases ha:Qv o with
  |true=>exact⟨k::ord,pl,[],H,G,by simp[zhy,ho,ha],λi hi=>by cases hi⟩
  |false=>
   obtain⟨av,rfl⟩:=aj ha
   have ar:=(zyl an).1
   have ai:pl.getD k true=false:=(mem_ready.1 ar).1
   have af:k<pl.size:=by
    rcases A1 k pl.size with h|h
    ·exact h
    ·simp[Array.getElem?_eq_none h]at ai
   have aa:pl.getD k false=false:=by rw[<-getD_lt af];exact ai
   have am:listed.getD k false=false:=by
    cases hb:listed.getD k false with
    |false=>rfl
    |true=>rw[G.sub k hb]at aa;cases aa
   have ak:∀i∈IL,i.k≠k:=λi hi e=>by
    have:=(G.mem k).2 ⟨i,hi,e⟩
    rw[this]at aa;cases aa
   have G':GInv h0 W M0 P n ops m pu e0 cs listed (pl.setIfInBounds k true) (⟨k,o.dst,ch,av,nb,us⟩::IL):=by
    refine⟨by simp[G.size],λj=>?_,BW.2 ⟨λj hj=>(ak j hj).symm,G.dist⟩,λi hi=>?_,λj hj=>?_⟩
    ·by_cases ab:k=j
     ·subst ab
      simp only[Ay,exists_eq_or_imp,true_or,iff_true]
      simp[af]
     ·rw[getD_set_ne false ab,G.mem j]
      simp only[Ay,exists_eq_or_imp,ab,false_or]
    ·rcases Ay.1 hi with rfl|hi
     ·exact⟨(· = av),(ap av).mono λi hi=>Aw _ hi,rfl,λ_=>rfl⟩
     ·obtain⟨Ki,h1,h2,h3⟩:=G.items i hi
      exact⟨Ki,h1.mono λi hi=>Aw _ hi,h2,h3⟩
    ·by_cases ab:k=j
     ·subst ab;simp[af]
     ·rw[getD_set_ne false ab];exact G.sub j hj
   obtain⟨Z,ae,new,h1,h2,h3,h4⟩:=zym ah (hK av rfl) G'
   refine⟨Z,ae,new++[⟨k,o.dst,ch,av,nb,us⟩],by simpa using h1,by simpa using h2,h3,λi hi=>?_⟩
   rcases AP.1 hi with hi|hi
   ·exact h4 i hi
   ·simp only[BQ]at hi;subst hi;exact am
theorem zo0{k:Nat}(hk:k<listed.size)(aa:listed.getD k false=false)(i:It):strip (listed.setIfInBounds k true) i=zgq k (strip listed i):=by
 unfold strip zgq
 cases hu:i.us with
 |none=>simp[hu]
 |some j=>
  simp only
  by_cases Z:j=k
  ·subst Z
   have e1:(listed.setIfInBounds j true).getD j false=true:=by simp[hk]
   rw[e1,aa]
   simp[hu]
  ·rw[getD_set_ne false (Ne.symm Z)]
   have hb:Nat.beq j k=false:=by
    cases hq:Nat.beq j k with
    |false=>rfl
    |true=>exact absurd (Az hq) Z
   cases listed.getD j false with
   |true=>simp[hb]
   |false=>simp[hu,hb]
theorem zrh{listed:Array Bool}{k:Nat}(hk:k<listed.size)(Z:listed.getD k false=false):∀{l:List It},(∀j∈l,k≠j.k)->Wi (listed.setIfInBounds k true) l=(Wi listed l).map (zgq k)
 |[],_=>rfl
 |j::l,hj=>by
  simp only[Wi]
  rw[getD_set_ne false (hj j AC),zrh hk Z λx hx=>hj x (Aw _ hx)]
  cases listed.getD j.k false with
  |true=>simp only[cond_true,Cf];rw[zo0 hk Z]
  |false=>rfl
theorem zti{it:It}(hu:∀j,it.us=some j->listed.getD j false=false):strip listed it=it:=by
 unfold strip
 split
 ·rename_i j hj;rw[hu j hj];rfl
 ·rfl
theorem ztj{listed:Array Bool}{it:It}(hk:it.k<listed.size)(Z:listed.getD it.k false=false)(hu:∀j,it.us=some j->(listed.setIfInBounds it.k true).getD j false=false):∀{IL:List It},IL.Pairwise (λi j=>i.k≠j.k)->it∈IL->(Wi (listed.setIfInBounds it.k true) IL).Perm (it::(Wi listed IL).map (zgq it.k))
 |[],_,h=>by cases h
 |i::l,hd,h=>by
  rw[BW]at hd
  simp only[Wi]
  rcases Ay.1 h with rfl|h
  ·have e1:(listed.setIfInBounds it.k true).getD it.k false=true:=by simp[hk]
   rw[e1,Z,zrh hk Z hd.1,zti hu]
   exact .refl _
  ·have aa:i.k≠it.k:=hd.1 it h
   rw[getD_set_ne false (Ne.symm aa)]
   have ih:=ztj hk Z hu hd.2 h
   cases listed.getD i.k false with
   |true=>
    simp only[cond_true,Cf]
    rw[zo0 hk Z]
    exact(ih.cons _).trans (.swap _ _ _)
   |false=>exact ih
theorem zmi{listed:Array Bool}{IL:List It}:∀{new:List It},(∀i∈new,listed.getD i.k false=false)->Wi listed (new++IL)=Wi listed IL
 |[],_=>rfl
 |i::l,h=>by
  simp only[A8,Wi]
  rw[h i AC]
  exact zmi λx hx=>h x (Aw _ hx)
theorem ztk{listed:Array Bool}:∀{l:List It},(∀i∈l,listed.getD i.k false=true/\∀j,i.us=some j->listed.getD j false=true)->Wi listed l=z6y l
 |[],_=>rfl
 |i::l,h=>by
  simp only[Wi,z6y]
  obtain⟨h1,h2⟩:=h i AC
  rw[h1,ztk λx hx=>h x (Aw _ hx),cond_true]
  congr 1
  unfold strip
  split
  ·rename_i j hj;rw[h2 j hj];rfl
  ·rfl
theorem GInv.ready_pl{e0:Qe}{IL:List It}(G:GInv h0 W M0 P n ops m pu e0 cs listed pl IL)(hi:i∈Region.ready .any ops listed)(hp:pl.getD i false=false):i∈Region.ready .any ops pl:=by
 obtain⟨_,o,ho,Z⟩:=mem_ready.1 hi
 have aa:i<ops.size:=(Au.1 ho).1
 exact mem_ready.2 ⟨by rw[getD_lt (by rw[G.size];exact aa)];exact hp,o,ho,λe he hb=>G.sub _ (Z e he hb)⟩
theorem zvy(hm:m<=ops.size)(Z:Zw ops ops.size=true)(ab:listed.size=ops.size)(aa:∃k,k<m/\listed.getD k false=false):∃k,k<m/\k∈Region.ready .any ops listed:=by
 obtain⟨k,⟨h1,h2⟩,h3⟩:=exists_least aa
 refine⟨k,h1,mem_ready.2 ⟨by rw[getD_lt (by omega)];exact h2,ops[k],A0 (by omega),λe he hb=>?_⟩⟩
 have ae:=Zo Z k ops[k] (by omega) (A0 (by omega)) e he hb
 cases hb':listed.getD e.on false with
 |true=>rfl
 |false=>
  have:=h3 e.on ⟨by omega,hb'⟩
  omega
def zbc(N m:Nat):Array Bool:=((BS N).map λk=>Nat.blt k m).toArray
theorem zri(hm:m<=ops.size)(inv:HeadInv .any ops m listed)(Z:∀k,k<m->listed.getD k false=true):listed=zbc ops.size m:=by
 refine Array.ext (by simp[zbc,inv.size]) λi h1 h2=>?_
 have hi:i<ops.size:=by rw[<-inv.size];exact h1
 have e:(zbc ops.size m)[i]=Nat.blt i m:=by simp[zbc]
 rw[e]
 rcases A1 i m with h|h
 ·have:=Z i h
  simp only[Array.getD,h1,dite_true]at this
  rw[show Nat.blt i m=true by simpa[CC]using h]
  exact this
 ·have:=inv.tail i h hi
  simp only[Array.getD,h1,dite_true]at this
  have e2:Nat.blt i m=false:=by
   cases hb:Nat.blt i m with
   |false=>rfl
   |true=>have:=CC.mp hb;omega
  rw[e2]
  exact this
def zyn(ops:Array Oper)(pu:List Nat)(m i:Nat):Nat->Bool
 |0=>false
 |j+1=>bif (bif Region.waitsFor .any ops j i then(bif Nat.beq j m then true else !(memN pu j))else false)then Nat.blt i j else zyn ops pu m i j
theorem zk7{ops:Array Oper}{pu:List Nat}{m i:Nat}:∀{n:Nat},zyn ops pu m i n=true->∃j,j<n/\i<j/\Region.waitsFor .any ops j i=true/\(j=m\/memN pu j=false)
 |0,h=>by cases h
 |n+1,h=>by
  simp only[zyn]at h
  cases hb:(bif Region.waitsFor .any ops n i then(bif Nat.beq n m then true else !(memN pu n))else false)with
  |false=>
   rw[hb]at h
   obtain⟨j,h1,h2⟩:=zk7 h
   exact⟨j,by omega,h2⟩
  |true=>
   rw[hb]at h
   refine⟨n,by omega,by simpa[CC]using h,?_⟩
   cases hw:Region.waitsFor .any ops n i with
   |false=>rw[hw]at hb;cases hb
   |true=>
    rw[hw]at hb
    refine⟨rfl,?_⟩
    cases hm:Nat.beq n m with
    |true=>exact .inl (Az hm)
    |false=>rw[hm]at hb;exact .inr (by simpa using hb)
def zvz(ops:Array Oper)(pu:List Nat)(m:Nat):Nat->Bool
 |0=>true
 |i+1=>bif (bif memN pu i then true else zyn ops pu m i (m+1))then zvz ops pu m i else false
theorem zk8{ops:Array Oper}{pu:List Nat}{m:Nat}:∀{n:Nat},zvz ops pu m n=true->∀i,i<n->memN pu i=false->∃j,j<=m/\i<j/\Region.waitsFor .any ops j i=true/\(j=m\/memN pu j=false)
 |0,_,i,hi,_=>by omega
 |n+1,h,i,hi,hp=>by
  simp only[zvz]at h
  cases hb:(bif memN pu n then true else zyn ops pu m n (m+1))with
  |false=>rw[hb]at h;cases h
  |true=>
   rw[hb]at h
   rcases A1 i n with h1|h1
   ·exact zk8 h i h1 hp
   ·have:i=n:=by omega
    subst this
    rw[hp]at hb
    obtain⟨j,a1,a2⟩:=zk7 hb
    exact⟨j,by omega,a2⟩
def zv0(ops:Array Oper)(pu:List Nat)(m:Nat):Bool:=bif Nat.beq m ops.size then true else bif zvz ops pu m m then Region.chainB .any ops m else false
theorem zrj(hm:m<ops.size)(hs:zvz ops pu m m=true)(hc:Region.chainB .any ops m=true)(inv:HeadInv .any ops m listed):
  ∀(d i:Nat),m-i=d->i<m->listed.getD i false=false->memN pu i=false->∀t,m<=t->t∉Region.ready .any ops listed:=by
 intro d
 induction d using DC with
 |_ d ih=>
  intro i hd hi Z af t ht hr
  obtain⟨_,ot,ak,am⟩:=mem_ready.1 hr
  have aa:t<ops.size:=(Au.1 ak).1
  by_cases ah:t=m
  ·subst ah
   obtain⟨j,h1,h2,h3,h4⟩:=zk8 hs i hi af
   by_cases ab:j=t
   ·subst ab
    rw[Wd hr h3]at Z;cases Z
   ·have aj:memN pu j=false:=h4.resolve_left ab
    cases hl:listed.getD j false with
    |true=>
     obtain⟨oj,ae,e,he,hb,ai⟩:=Region.waitsFor_spec h3
     have:=inv.closed j oj ae hl e he hb
     rw[ai,Z]at this
     cases this
    |false=>exact ih (t-j) (by omega) j rfl (by omega) hl aj t (Av _) hr
  ·have h1:=A5.1 hc t (BF.2 aa)
   simp only[Cb,decide_eq_true_eq]at h1
   rcases h1 with h1|h1
   ·omega
   ·have:=Wd hr h1
    rw[getD_both (inv.tail (t-1) (by omega) (by omega))]at this
    cases this
theorem z2e(hm:m<=ops.size)(he:zv0 ops pu m=true)(inv:HeadInv .any ops m listed)(Z:∃k,k<m/\k∈Region.ready .any ops listed/\memN pu k=false):∀i∈Region.ready .any ops listed,i<m:=by
 intro i hi
 obtain⟨_,o,ho,_⟩:=mem_ready.1 hi
 have aa:i<ops.size:=(Au.1 ho).1
 rcases A1 i m with h|h
 ·exact h
 ·exfalso
  unfold zv0 at he
  cases hb:Nat.beq m ops.size with
  |true=>have:=Az hb;omega
  |false=>
   rw[hb]at he
   simp only[cond_false]at he
   cases hs:zvz ops pu m m with
   |false=>rw[hs]at he;cases he
   |true=>
    rw[hs]at he
    obtain⟨k,h1,h2,h3⟩:=Z
    exact zrj (by omega) hs he inv _ k rfl h1 (getD_both (mem_ready.1 h2).1) h3 i h hi
theorem qdc(hgl:Fr.le gl M0){e0:Qe}{Kt:List It->Prop}{Q:Exit->Act->World->Prop}(hm:m<=ops.size)(hnd:Yl ops m=true)(hback:Zw ops ops.size=true)(hends:zv0 ops pu m=true)(hsel:Region.noSelect ops=true)(hQp:∀c a w,¬Q (.panic c) a w)
    (he0:∀x∈e0,x.2.1=[]/\x.1∉Qo ops m/\Xx x.2.2 (Qo ops m)=true) (B:World) {g:Nat} {a0:Act} {γ0:Gh}
    (hQ:∀IL γ a d h,SatA n (itE IL++e0) γ a->Inv h0 W M0 (itC IL++cs) γ h->Same (Qo ops m) a0 a->GxS (Qo ops m) γ0 γ->Kt IL->wpAny P .any ops Q g (zbc ops.size m) a (mk B d h)):
    ∀(N:Nat) (U:List Nat) (listed:Array Bool) (ord:List Nat) (pl:Array Bool) (IL:List It) (γ:Gh) (a:Act) (d:Nat) (h:Za),U.length=N->U.Nodup->(∀k,k∈U↔k<m/\listed.getD k false=false)->HeadInv .any ops m listed ->
      dW P gl tr n ops m pu e0 cs Kt ord pl IL->zhy ops ord=true->GInv h0 W M0 P n ops m pu e0 cs listed pl IL->Mid h0 W M0 P n ops m e0 cs listed IL γ a h->Same (Qo ops m) a0 a->GxS (Qo ops m) γ0 γ ->
      wpAny P .any ops Q (N+g) listed a (mk B d h):=by
  intro N
  induction N with
  |zero=>
    intro U listed ord pl IL γ a d h hU _ hmem inv H hanch G M hsame hgx
    have hUn:U=[]:=Bj.1 hU
    subst hUn
    have hall:∀k,k<m->listed.getD k false=true:=λk hk=>by
      cases hb:listed.getD k false with
      |true=>rfl
      |false=>exact absurd ((hmem k).2 ⟨hk,hb⟩) (by simp)
    have hKt:Kt (z6y IL):=by
      cases ord with
      |nil=>
        unfold dW at H
        cases hb:zvw pl m with
        |true=>rw[hb]at H;exact H
        |false=>rw[hb]at H;exact H.elim
      |cons k ord=>
        exfalso
        obtain⟨o,ch,nb,us,Kan,ho,hst,hit,_,_⟩:=zrg (h0:=h0) (W:=W) (M0:=M0) hgl H
        have hk:k<m:=(hit (.g (.a (.v undef)))).lt
        have h1:=(mem_ready.1 (zyl hst).1).1
        rw[getD_lt (by rw[G.size];omega),G.sub k (hall k hk)]at h1
        cases h1
    have hact:Wi listed IL=z6y IL:=ztk λi hi=>by
      obtain⟨Ki,Ti,_⟩:=G.items i hi
      exact⟨hall _ Ti.lt,λj hj=>hall j (Ti.use j hj).1⟩
    have h1:=M.sat
    have h2:=M.inv
    rw[hact]at h1 h2
    rw[AX,zri hm inv hall]
    exact hQ (z6y IL) γ a d h h1 h2 hsame hgx hKt
  |succ N ih=>
    intro U listed ord pl IL γ a d h hU hdup hmem inv H hanch G M hsame hgx
    have hex:∃k,k<m/\listed.getD k false=false:=by
      cases U with
      |nil=>cases hU
      |cons k U=>exact⟨k,(hmem k).1 AC⟩
    obtain⟨k0,hk0m,hk0⟩:=zvy hm hback inv.size hex
    rw[show N+1+g=(N+g)+1 by omega]
    have gen:∀i,i∈Region.ready .any ops listed->i<m->(memN pu i=true->wpAny P .any ops Q (N+g+1) listed a (mk B d h))/\wpOp P ops Q i (wpAny P .any ops Q (N+g) (listed.setIfInBounds i true)) a (mk B d h):=by
      intro i hi him
      have hun:listed.getD i false=false:=getD_both (mem_ready.1 hi).1
      have hils:i<listed.size:=by rw[inv.size];omega
      have hU':(U.erase i).length=N:=by rw[C3 ((hmem i).2 ⟨him,hun⟩),hU];rfl
      have hdup':(U.erase i).Nodup:=hdup.erase i
      have hmem':∀k,k∈U.erase i↔k<m/\(listed.setIfInBounds i true).getD k false=false:=λk=>by
        rw[hdup.mem_erase_iff,hmem k]
        by_cases hk:i=k
        · subst hk;simp[hils]
        · rw[getD_set_ne false hk];exact⟨λhx=>hx.2,λhx=>⟨λe=>hk e.symm,hx⟩⟩
      have inv':=inv.set hi him
      have toS:∀{it:It} {Kan:AV->Prop},ItOK h0 W M0 P n ops m pu e0 cs IL it Kan->∀{γ':Gh},Gx (it.nb.map (·.1)) γ γ'->GxS (Qo ops m) γ γ':=by
        intro it Kan T γ' gx
        refine⟨gx.1,λj hj=>?_⟩
        refine gx.2 j λhc=>hj ?_
        obtain⟨o,e,eat,ho,_,sp,_,_⟩:=T.ex
        cases hnb:it.nb with
        |none=>rw[hnb]at hc;cases hc
        |some b=>
          rw[hnb]at hc
          have:b.1=j:=by simpa using hc
          subst this
          obtain⟨_,h2,_⟩:=sp.box b hnb
          exact zgr T.lt (by rw[zbb ho];exact h2)
      have toSame:∀{it:It} {Kan:AV->Prop},ItOK h0 W M0 P n ops m pu e0 cs IL it Kan->∀u,Same (Qo ops m) a (a.put it.dst u):=λ {it} {Kan} T u=>
        Same.put a it.dst u λj hj=>zgr T.lt (by rw[T.dst];exact hj)
      have hILk:∀x∈IL,∃Kan,ItOK h0 W M0 P n ops m pu e0 cs IL x Kan/\Kan x.av:=λx hx=>by
        obtain⟨Kx,h1,h2,_⟩:=G.items x hx
        exact⟨Kx,h1,h2⟩
      have hdist:∀x∈IL,∀y∈IL,x.k=y.k->x=y:=by
        have key:∀l:List It,l.Pairwise (λi j=>i.k≠j.k)->∀x∈l,∀y∈l,x.k=y.k->x=y:=by
          intro l
          induction l with
          |nil=>intro _ x hx;cases hx
          |cons z l ihl=>
            intro hp x hx y hy e
            rw[BW]at hp
            rcases Ay.1 hx with hx1|hx1
            · rcases Ay.1 hy with hy1|hy1
              · rw[hx1,hy1]
              · rw[hx1]at e;exact absurd e (hp.1 y hy1)
            · rcases Ay.1 hy with hy1|hy1
              · rw[hy1]at e;exact absurd e.symm (hp.1 x hx1)
              · exact ihl hp.2 x hx1 y hy1 e
        exact key IL G.dist
      cases hpl:pl.getD i false with
      |true=>
        obtain⟨it,hit,hik⟩:=(G.mem i).1 hpl
        subst hik
        obtain⟨Kan,T,_,hdet⟩:=G.items it hit
        have fwd:∀u γ' h' d',(∀L':List It,L'.Perm (it::(Wi listed IL).map (zgq it.k))->SatA n (itE L'++e0) γ' (a.put it.dst u)/\Inv h0 W M0 (itC L'++cs) γ' h')->Gx (it.nb.map (·.1)) γ γ'->wpAny P .any ops Q (N+g) (listed.setIfInBounds it.k true) (a.put it.dst u) (mk B d' h'):=by
         intro u γ' h' d' hst hgx'
         have huse:∀j,it.us=some j->(listed.setIfInBounds it.k true).getD j false=false:=by
           intro j hj
           have hw:=(T.use j hj).2
           obtain⟨oj,hoj,e,he,hb,hon⟩:=Region.waitsFor_spec hw
           have hjk:it.k≠j:=λe'=>by
             have:=Zo hback j oj (Au.1 hoj).1 hoj e he hb
             omega
           rw[getD_set_ne false hjk]
           cases hl:listed.getD j false with
           |false=>rfl
           |true=>
             have:=inv.closed j oj hoj hl e he hb
             rw[hon,hun]at this;cases this
         obtain⟨s1,s2⟩:=hst _ (ztj hils hun huse G.dist hit)
         refine ih _ _ ord pl IL γ' _ d' h' hU' hdup' hmem' inv' H hanch ⟨G.size,G.mem,G.dist,λx hx=>?_,λk hk=>?_⟩ ⟨s1,s2⟩ (hsame.trans (toSame T u)) (hgx.trans (toS T hgx'))
         · obtain⟨Kx,h1,h2,h3⟩:=G.items x hx
           refine⟨Kx,h1,h2,λhf=>h3 ?_⟩
           by_cases hk:it.k=x.k
           · rw[<-hk];exact hun
           · rw[getD_set_ne false hk]at hf;exact hf
         · by_cases hk':it.k=k
           · subst hk';exact hpl
           · rw[getD_set_ne false hk']at hk;exact G.sub k hk
        have hK0:Kan it.av:=by rw[hdet hun]
        refine⟨λhp=>zyk hnd he0 hILk hdist inv M T hK0 hi hp hsel hQp B d λu hst hgx'=>fwd u γ h d hst hgx',zoz hnd he0 hILk hdist inv M T hi B d λav u γ' h' d' hav hst hgx'=>?_⟩
        have hav':av=it.av:=by rw[hdet hun]at hav;exact hav
        subst hav'
        exact fwd u γ' h' d' hst hgx'
      |false=>
        have hrp:=G.ready_pl hi hpl
        cases ord with
        |nil=>
          exfalso
          unfold dW at H
          cases hb:zvw pl m with
          |true=>rw[zk4 hb i him]at hpl;cases hpl
          |false=>rw[hb]at H;exact H
        |cons k ord=>
          obtain⟨o,ch,nb,us,Kan,ho,hst,hit,hK,_⟩:=zrg (h0:=h0) (W:=W) (M0:=M0) hgl H
          have hanc:Qv o=true:=by simpa[zhy,ho]using hanch
          have hrk:=(zyl hst).2 hanc
          rw[hrk]at hrp
          have hik:i=k:=by simpa using hrp
          subst hik
          refine⟨λhp=>?_,zoz hnd he0 hILk hdist inv M (hit (.g (.a (.v undef)))) hi B d λav u γ' h' d' hav hst' hgx'=>?_⟩
          · obtain⟨o',_,_,ho',_,_,_,hpp,_⟩:=(hit (.g (.a (.v undef)))).ex
            have:=(hpp hp).2.2.2
            have e':o'=o:=AL (ho'.symm.trans ho)
            rw[e',hanc]at this;cases this
          have hne:∀j∈IL,i≠j.k:=λj hj e=>by
            have:=(G.mem i).2 ⟨j,hj,e.symm⟩
            rw[hpl]at this;cases this
          have hips:i<pl.size:=by rw[G.size,<-inv.size];exact hils
          have G':GInv h0 W M0 P n ops m pu e0 cs (listed.setIfInBounds i true) (pl.setIfInBounds i true) (⟨i,o.dst,ch,av,nb,us⟩::IL):=by
            refine⟨by simp[G.size],λj=>?_,BW.2 ⟨λj hj=>hne j hj,G.dist⟩,λx hx=>?_,λj hj=>?_⟩
            · by_cases hjk:i=j
              · subst hjk
                simp only[Ay,exists_eq_or_imp,true_or,iff_true]
                simp[hips]
              · rw[getD_set_ne false hjk,G.mem j]
                simp only[Ay,exists_eq_or_imp,hjk,false_or]
            · rcases Ay.1 hx with rfl|hx
              · exact⟨Kan,(hit av).mono λx hx=>Aw _ hx,hav,λhf=>by simp[hils]at hf⟩
              · obtain⟨Kx,h1,h2,h3⟩:=G.items x hx
                refine⟨Kx,h1.mono λx hx=>Aw _ hx,h2,λhf=>h3 ?_⟩
                rw[getD_set_ne false (hne x hx)]at hf;exact hf
            · by_cases hjk:i=j
              · subst hjk;simp[hips]
              · rw[getD_set_ne false hjk]at hj ⊢;exact G.sub j hj
          obtain⟨ord',pl',new,h1,h2,h3,h4⟩:=zym hgl (hK av hav) G'
          have hact:Wi (listed.setIfInBounds i true) (new++⟨i,o.dst,ch,av,nb,us⟩::IL)=⟨i,o.dst,ch,av,nb,us⟩::(Wi listed IL).map (zgq i):=by
            rw[zmi h4]
            simp only[Wi]
            rw[show(listed.setIfInBounds i true).getD i false=true by simp[hils],zrh hils hun hne,cond_true,zti ?_]
            intro j hj
            have hw:=((hit av).use j hj).2
            obtain⟨oj,hoj,e,he,hb,hon⟩:=Region.waitsFor_spec hw
            have hon:e.on=i:=hon
            have hjk:i≠j:=λe'=>by
              have:=Zo hback j oj (Au.1 hoj).1 hoj e he hb
              omega
            rw[getD_set_ne false hjk]
            cases hl:listed.getD j false with
            |false=>rfl
            |true=>
              have:=inv.closed j oj hoj hl e he hb
              rw[hon,hun]at this;cases this
          obtain⟨s1,s2⟩:=hst' (⟨i,o.dst,ch,av,nb,us⟩::(Wi listed IL).map (zgq i)) (.refl _)
          exact ih _ _ ord' pl' _ γ' _ d' h' hU' hdup' hmem' inv' h1 h3 h2 ⟨by rw[hact];exact s1,by rw[hact];exact s2⟩ (hsame.trans (toSame (hit av) u)) (hgx.trans (toS (hit av) hgx'))
    by_cases hpe:∃i,i∈Region.ready .any ops listed/\i<m/\memN pu i=true
    · obtain⟨i,hi,him,hp⟩:=hpe
      exact(gen i hi him).1 hp
    · refine⟨λhc=>(by rw[hc]at hk0;cases hk0),λi hi=>(gen i hi (z2e hm hends inv ⟨k0,hk0m,hk0,?_⟩ i hi)).2⟩
      cases hb:memN pu k0 with
      |false=>rfl
      |true=>exact absurd ⟨k0,hk0,hk0m,hb⟩ hpe
def z6z(ops:Array Oper)(m:Nat)(pu:List Nat):Bool:=
 bif Nat.ble m ops.size then(bif Yl ops m then(bif Zw ops ops.size then(bif zv0 ops pu m then(bif Region.noSelect ops then Region.seqB .any ops (ops.size-m) m (zbc ops.size m)else false)else false)else false)else false)else false
def z7a(P:Program)(gl:Fr)(tr:TypeId)(n:Nat)(ops:Array Oper)(m:Nat)(ord pu:List Nat)(R:CS)(K:Qe->CS->Prop)(e:Qe)(C:CS):Prop:=
 bif z6z ops m pu then dW P gl tr n ops m pu (zhi (Qo ops m) e) (C++R) (λIL=>wRA P gl tr n ops R K (ops.toList.drop m) (itE IL++zhi (Qo ops m) e) (itC IL++C)) ord (Br ops.size false) []else False
theorem zrk(hm:P.follows .mixedOrders=true)(af:Fr.le gl M0){K:Qe->CS->Prop}{e:Qe}
  (H:z7a P gl tr n ops m ord pu R K e C) (B:World) (d:Nat) (hs:SatA n e γ a) (I:Inv h0 W M0 (C++R) γ h) {Q:Exit->Act->World->Prop}
  (hQ:∀e' C' γ' a' d' h',SatA n e' γ' a'->Inv h0 W M0 (C'++R) γ' h'->Same (Qx ops.toList) a a'->GxS (Qx ops.toList) γ γ'->K e' C'->Q .normal a' (mk B d' h')):(Em id ops true).wp P Q a (mk B d h):=by
 unfold z7a at H
 cases hB:z6z ops m pu with
 |false=>rw[hB]at H;exact H.elim
 |true=>
  rw[hB]at H
  simp only[cond_true]at H
  have ay:m<=ops.size/\Yl ops m=true/\Zw ops ops.size=true/\zv0 ops pu m=true/\Region.noSelect ops=true/\Region.seqB .any ops (ops.size-m) m (zbc ops.size m)=true:=by
   unfold z6z at hB
   cases h1:Nat.ble m ops.size with
   |false=>rw[h1]at hB;cases hB
   |true=>
    rw[h1]at hB
    cases h2:Yl ops m with
    |false=>rw[h2]at hB;cases hB
    |true=>
     rw[h2]at hB
     cases h3:Zw ops ops.size with
     |false=>rw[h3]at hB;cases hB
     |true=>
      rw[h3]at hB
      cases h4:zv0 ops pu m with
      |false=>rw[h4]at hB;cases hB
      |true=>
       rw[h4]at hB
       cases h5:Region.noSelect ops with
       |false=>rw[h5]at hB;cases hB
       |true=>
        rw[h5]at hB
        exact⟨Cd h1,rfl,rfl,rfl,rfl,hB⟩
  obtain⟨ar,aE,ae,ah,am,ak⟩:=ay
  have Z:Qx ops.toList=Qx (ops.toList.take m)++Qx (ops.toList.drop m):=by rw[<-Jw,Cm]
  have aF:∀x∈zhi (Qo ops m) e,x.2.1=[]/\x.1∉Qo ops m/\Xx x.2.2 (Qo ops m)=true:=λx hx=>(Yu hx).2
  have an:HeadInv .any ops m (Br ops.size false):=
   ⟨by simp,λj oj _ hl=>(by rw[getD_replicate_false]at hl;cases hl),λt _ ht=>getD_in (by simpa using ht) (getD_replicate_false _ _)⟩
  have G0:GInv h0 W M0 P n ops m pu (zhi (Qo ops m) e) (C++R) (Br ops.size false) (Br ops.size false) []:=
   ⟨by simp,λk=>by rw[getD_replicate_false];simp,List.Pairwise.nil,λi hi=>(by cases hi),λk hk=>hk⟩
  obtain⟨ai,az,new,h1,h2,h3,h4⟩:=zym af H G0
  have aa:Wi (Br ops.size false) (new++[])=[]:=by rw[zmi h4];rfl
  have aj:SatA n (zhi (Qo ops m) e) γ a:=hs.sub λx hx=>(Yu hx).1
  let Qn:Exit->Act->World->Prop:=λx a w=>x=.normal/\Q .normal a w
  refine wp_mono (Q':=Q) (Q:=Qn) ?_ (λx a w hq=>by obtain⟨rfl,h⟩:=hq;exact h)
  refine wp_region_any hm ?_
  have ap:ops.size=m+(ops.size-m):=by omega
  have key:=qdc (n:=n) (Q:=Qn) (pu:=pu) af ar aE ae ah am (λc a w hq=>by cases hq.1) aF B (g:=ops.size-m) (a0:=a) (γ0:=γ) (Kt:=λIL=>wRA P gl tr n ops R K (ops.toList.drop m) (itE IL++zhi (Qo ops m) e) (itC IL++C)) (λIL γ' a' d' h' s1 s2 s3 s4 s5=>?_) m (BS m) (Br ops.size false) ai az (new++[]) γ a (d+1) h DG Dm (λk=>by rw[BF,getD_replicate_false];simp) an h1 h3 h2 ⟨by rw[aa];exact aj,by rw[aa];exact I⟩ (Same.refl _ _) (GxS.refl _ _)
  ·rw[<-ap]at key
   exact key
  ·have ab:(ops.toList.drop m).length=ops.size-m:=by simp
   rw[<-ab]
   refine wpAny_of_seq (md:=.any) (ops.toList.drop m) m _ a' _ (λj=>by simp[AY]) (by rw[ab];exact ak) ?_
   refine zfk af B _ _ _ _ _ _ d' s5 s1 (by rw[Bo];exact s2) λaB aG aH aA aC au q4 q5 q6 q7 q8=>⟨rfl,hQ aB aG aH aA aC au q4 q5 ?_ ?_ q8⟩
   ·rw[Z]
    exact(s3.mono λx hx=>AJ _ hx).trans (q6.mono λx hx=>AO _ hx)
   ·rw[Z]
    exact(s4.mono λx hx=>AJ _ hx).trans (q7.mono λx hx=>AO _ hx)
abbrev z2f:=List (Nat×Nat×List Nat×List Nat×List Nat)
def z4r:z2f->Nat->Option (Nat×List Nat×List Nat×List Nat)
 |[],_=>none
 |(j,x)::l,i=>bif Nat.beq i j then some x else z4r l i
def zrl(P:Program)(gl:Fr)(tr:TypeId)(n:Nat)(tl:zyc)(dl:z2f)(id:Nat)(ops:Array Oper)(Z:Bool)(R:CS)(K:Qe->CS->Prop)(e:Qe)(C:CS):Prop:=
 match z4r dl id with
 |none=>zrc P gl tr n tl id ops Z R K e C
 |some (m,fz,ord,pu)=>bif Z then z7a P gl tr n ops m ord pu R K e (frzL fz C)else False
theorem zmj(hm:P.follows .mixedOrders=true)(aa:Fr.le gl M0){tl:zyc}{dl:z2f}{Z:Bool}{K:Qe->CS->Prop}{e:Qe}
  (H:zrl P gl tr n tl dl id ops Z R K e C) (B:World) (d:Nat) (hs:SatA n e γ a) (I:Inv h0 W M0 (C++R) γ h) {Q:Exit->Act->World->Prop}
  (hQ:∀e' C' γ' a' d' h',SatA n e' γ' a'->Inv h0 W M0 (C'++R) γ' h'->Same (Qx ops.toList) a a'->GxS (Qx ops.toList) γ γ'->K e' C'->Q .normal a' (mk B d' h')):(Em id ops Z).wp P Q a (mk B d h):=by
 unfold zrl at H
 split at H
 ·exact zmg hm aa H B d hs I hQ
 ·rename_i m fz ord pu _
  cases Z with
  |false=>exact H.elim
  |true=>
   obtain⟨γ1,I1,g1⟩:=Inv.frzL (C:=C) (γ:=γ) fz I
   refine zrk hm aa H B d (hs.gx g1) I1 λe' C' γ' a' d' h' q1 q2 q3 q4 q5=>hQ e' C' γ' a' d' h' q1 q2 q3 (GxS.trans ⟨g1.1,λi _=>g1.2 i (by simp)⟩ q4) q5
end
section
variable {S:List Nat} {γ γ':Gh} {u:Value} {C R:CS} {h:Za} {n:Nat} {a:Act} {P:Program} {f:FuncId}
variable {h0 : Za} {W : Nat -> Prop} {M0 : Fr}
structure PlanA where
 tails:zyc
 draws:z2f
 loops:List (Nat×AnnA)
 joins:List (Nat×AnnA)
def qam:List (Nat×AnnA)->Option Nat->Option AnnA
 |[],_=>none
 |(j,m)::l,some i=>bif Nat.beq i j then some m else qam l (some i)
 |_,none=>none
def z9o:AA->List Nat
 |.box j _=>[j]
 |.own j=>[j]
 |.oelt j _ _ _=>[j]
 |_=>[]
def zyo(S:List Nat):List AA->Bool
 |[]=>true
 |x::l=>bif (match z9o x with
  |[]=>true
  |j::_=>!(memN S j))then zyo S l else false
def z2g(S:List Nat):AG->Bool
 |.a x=>zyo S [x]
 |.agg l=>zyo S l
def ztl(S:List Nat):List AG->Bool
 |[]=>true
 |x::l=>bif z2g S x then ztl S l else false
def z7b(S:List Nat):AV->Bool
 |.g x=>z2g S x
 |.tup l=>ztl S l
 |.nx _ _ _=>true
theorem DenA.gxS(g:GxS S γ γ'){x:AA}(hm:(match z9o x with
  |[]=>true
  |j::_=>!(memN S j))=true)(h:DenA γ x u):DenA γ' x u:=by
 have key:∀j,memN S j=false->γ'.β j=γ.β j/\γ'.σ j=γ.σ j:=λj hj=>g.2 j (Y7 hj)
 cases x with
 |v y=>exact h
 |d t y=>exact Rd.mono g.1 h
 |box j o=>rw[show u=_ from h];simp only[DenA,(key j (by simpa[z9o]using hm)).1]
 |own j=>rw[show u=_ from h];simp only[DenA,(key j (by simpa[z9o]using hm)).2]
 |oelt j z i o=>obtain⟨b,e1,e2⟩:=h;exact⟨b,by rw[(key j (by simpa[z9o]using hm)).2];exact e1,e2⟩
 |elt t y o=>obtain⟨b,f,cs,e,h1,h2⟩:=h;exact⟨b,f,cs,e,g.1 _ _ h1,Rd.mono g.1 h2⟩
 |dc t xs=>obtain⟨s,e1,e2,h⟩:=h;exact⟨s,e1,e2,Rd.mono g.1 h⟩
theorem DenL.gxS{S:List Nat}{γ γ':Gh}(g:GxS S γ γ'):∀{l:List AA} {us:List Value},zyo S l=true->All2 (DenA γ) l us->All2 (DenA γ') l us
 |[],[],_,_=>trivial
 |[],_::_,_,h=>h.elim
 |_::_,[],_,h=>h.elim
 |x::l,u::us,hm,h=>by
  simp only[zyo]at hm
  cases hx:(match z9o x with
   |[]=>true
   |j::_=>!(memN S j))with
  |false=>rw[hx]at hm;cases hm
  |true=>rw[hx]at hm;exact⟨DenA.gxS g hx h.1,DenL.gxS g hm h.2⟩
theorem DenG.gxS(g:GxS S γ γ'){x:AG}(hm:z2g S x=true)(h:DenG γ x u):DenG γ' x u:=by
 cases x with
 |a x=>
  have:All2 (DenA γ') [x] [u]:=DenL.gxS g hm (show All2 (DenA γ) [x] [u]from⟨h,trivial⟩)
  exact this.1
 |agg l=>obtain⟨us,e,h⟩:=h;exact⟨us,e,DenL.gxS g hm h⟩
theorem DenV.gxS(g:GxS S γ γ'){x:AV}(hm:z7b S x=true)(h:DenV γ x u):DenV γ' x u:=by
 cases x with
 |g x=>exact DenG.gxS g hm h
 |tup l=>
  obtain⟨us,e,h⟩:=h
  refine⟨us,e,?_⟩
  have:∀{l:List AG} {us:List Value},ztl S l=true->All2 (DenG γ) l us->All2 (DenG γ') l us:=by
   intro l
   induction l with
   |nil=>intro us _ h;cases us with
    |nil=>trivial
    |cons _ _=>exact h.elim
   |cons x l ih=>
    intro us hm h
    cases us with
    |nil=>exact h.elim
    |cons u us=>
     simp only[ztl]at hm
     cases hx:z2g S x with
     |false=>rw[hx]at hm;cases hm
     |true=>rw[hx]at hm;exact⟨DenG.gxS g hx h.1,ih hm h.2⟩
  exact this hm h
 |nx b p c=>exact h
def zi4(ms S:List Nat):Qe->Qe
 |[]=>[]
 |(i,[],v)::e=>bif memN ms i then zi4 ms S e else(bif z7b S v then(i,[],v)::zi4 ms S e else zi4 ms S e)
 |(_,_::_,_)::e=>zi4 ms S e
theorem zbd{ms S:List Nat}{γ γ1:Gh}{a a1:Act}(g:GxS S γ γ1)(Z:Same ms a a1):∀{e:Qe},(∀x∈e,zl8 γ (Zl a) x)->∀x∈zi4 ms S e,zl8 γ1 (Zl a1) x
 |[],_,x,hx=>by cases hx
 |(i,[],v)::e,h,x,hx=>by
  have ih:=zbd g Z (e:=e) λx hx=>h x (Aw _ hx)
  simp only[zi4]at hx
  cases hm:memN ms i with
  |true=>rw[hm]at hx;exact ih x hx
  |false=>
   rw[hm]at hx
   simp only[cond_false]at hx
   cases hn:z7b S v with
   |false=>rw[hn]at hx;exact ih x hx
   |true=>
    rw[hn]at hx
    rcases Ay.1 hx with rfl|hx
    ·refine⟨λ_=>?_,λaa=>absurd trivial aa⟩
     have:=(h _ AC).1 trivial
     simp only at this ⊢
     rw[Z _ (Y7 hm)]
     exact this.gxS g hn
    ·exact ih x hx
 |(_,_::_,_)::e,h,x,hx=>zbd g Z (e:=e) (λx hx=>h x (Aw _ hx)) x hx
def inC(ro:List Nat):CS->CS
 |[]=>[]
 |(c,k)::l=>bif memN ro c then(c,k)::inC ro l else inC ro l
def z7c(ro:List Nat):CS->CS
 |[]=>[]
 |(c,k)::l=>bif memN ro c then z7c ro l else(c,k)::z7c ro l
theorem zk9(ro:List Nat):∀C:CS,(z7c ro C++inC ro C).Perm C
 |[]=>.nil
 |(c,k)::l=>by
  have ih:=zk9 ro l
  simp only[inC,z7c]
  cases memN ro c with
  |true=>exact List.perm_middle.trans (ih.cons _)
  |false=>exact ih.cons _
theorem Inv.part(I:Inv h0 W M0 (C++R) γ h)(ro:List Nat):Inv h0 W M0 (z7c ro C++(inC ro C++R)) γ h:=by
 rw[<-Bo]
 exact I.perm ((zk9 ro C).symm.append_right R)
abbrev zdg:=Exit->Qe->CS->Prop
def qan(K:Qe->CS->Prop)(Q:zdg):zdg
 |.normal,e,C=>K e C
 |x,e,C=>Q x e C
def zyp(id:Nat)(Q:zdg):zdg
 |.exit i,e,C=>bif Nat.beq i id then Q .normal e C else Q (.exit i) e C
 |x,e,C=>Q x e C
def z4s(m:CS)(K:Qe->CS->Prop)(Q:zdg):zdg
 |.normal,e,C=>K e C
 |x,e,C=>Q x e (C++m)
def zf9(pl:PlanA):Code->List Nat
 |.region _ ops _=>Qx ops.toList
 |.seq a b=>zf9 pl a++(zf9 pl b++(match qam pl.joins (Yi b)with
  |some J=>J.ids
  |none=>[]))
 |.cond _ a b=>zf9 pl a++zf9 pl b
 |.block _ b=>zf9 pl b
 |.loop b=>zf9 pl b++(match qam pl.loops (Yi b)with
  |some J=>J.ids
  |none=>[])
 |_=>[]
def atA{X:Type}(J:AnnA)(R:CS)(F:zvo (zd0 J) X)(e:Qe)(C:CS)(k:X->Prop):Prop:=
 match xtr J R e C with
 |some ds=>match zhh (zd0 J) ds F with
  |some q=>k q
  |none=>False
 |none=>False
theorem zrm{X:Type}{J:AnnA}{F:zvo (zd0 J) X}{e:Qe}{k:X->Prop}(h:atA J R F e C k):∃ds q,xtr J R e C=some ds/\zhh (zd0 J) ds F=some q/\k q:=by
 unfold atA at h
 split at h
 ·rename_i ds hd
  split at h
  ·rename_i q hq;exact⟨ds,q,hd,hq,h⟩
  ·exact h.elim
 ·exact h.elim
def WA(P:Program)(gl:Fr)(tr:TypeId)(n:Nat)(pl:PlanA):Code->CS->zdg->Qe->CS->Prop
 |.skip,_,Q,e,C=>Q .normal e C
 |.ret,_,Q,e,C=>Q .ret e C
 |.exit id,_,Q,e,C=>Q (.exit id) e C
 |.label _,_,Q,e,C=>Q .normal e C
 |.goto l,_,Q,e,C=>Q (.goto l) e C
 |.region id ops draw,R,Q,e,C=>zrl P gl tr n pl.tails pl.draws id ops draw R (λe C=>Q .normal e C) e C
 |.seq x y,R,Q,e,C=>match qam pl.joins (Yi y)with
  |none=>WA P gl tr n pl x R (qan (λe C=>WA P gl tr n pl y R Q e C) Q) e C
  |some J=>∀K:zvo (zd0 J) Prop,zx9 (zd0 J) K (λds q=>WA P gl tr n pl y R Q (z4p J ds++zi4 (Wq x) (J.ids++zf9 pl x) e) (chJ J ds++inC J.ro C)->q) ->
    WA P gl tr n pl x (inC J.ro C++R) (z4s (inC J.ro C) (λe1 C1=>atA J (inC J.ro C++R) K e1 C1 λq=>q) Q) e (z7c J.ro C)
 |.cond c x y,R,Q,e,C=>match zhg e [] c with
  |some v=>match zvi v with
   |some b=>(b=true->WA P gl tr n pl x R Q e C)/\(b=false->WA P gl tr n pl y R Q e C)
   |none=>False
  |none=>False
 |.block id x,R,Q,e,C=>WA P gl tr n pl x R (zyp id Q) e C
 |.loop x,R,Q,e,C=>match qam pl.loops (Yi x)with
  |some J=>∃(I:zvo (zd0 J) Prop) (μ:zvo (zd0 J) Nat),atA J (inC J.ro C++R) (zop (zd0 J) I μ) e (z7c J.ro C) (λp=>p.1) /\
    zx9 (zd0 J) (zop (zd0 J) I μ) λds p=>p.1->WA P gl tr n pl x (inC J.ro C++R) (z4s (inC J.ro C) (λe1 C1=>atA J (inC J.ro C++R) (zop (zd0 J) I μ) e1 C1 λq=>q.1/\q.2<p.2) Q)
     (z4p J ds++zi4 (Wq x) (J.ids++zf9 pl x) e) (chJ J ds)
  |none=>False
 |_,_,_,_,_=>False
def qao(h0:Za)(W:Nat->Prop)(M0:Fr)(n:Nat)(B:World)(ms S:List Nat)(a0:Act)(γ0:Gh)(R:CS)(Q:zdg):Exit->Act->World->Prop:=
 λx a w=>∃e C γ d h,w=mk B d h/\SatA n e γ a/\Inv h0 W M0 (C++R) γ h/\Same ms a0 a/\GxS S γ0 γ/\Q x e C
theorem zv1{e:Qe}{γ0 γ γ1:Gh}{a a1:Act}(hs:SatA n e γ0 a){ms S ids:List Nat}(hd:a1.defers=[])(hz:a1.tmps.size=n)(Z:Same ms a a1)(g:GxS S γ0 γ)(g1:GxS ids γ γ1){J:AnnA}{ds:List Dy}
  (hf:∀x∈z4p J ds,zl8 γ1 (Zl a1) x):SatA n (z4p J ds++zi4 ms (ids++S) e) γ1 a1:=by
 refine⟨hd,hz,λx hx=>?_⟩
 rcases AP.1 hx with hx|hx
 ·exact hf x hx
 ·exact zbd ((g.mono λx hx=>AO _ hx).trans (g1.mono λx hx=>AJ _ hx)) Z hs.all x hx
theorem z2h(hm:P.follows .mixedOrders=true){gl:Fr}(aB:Fr.le gl M0){tr:TypeId}{pl:PlanA}:∀(c:Code) (R:CS) (Q:zdg) (e:Qe) (C:CS),WA P gl tr n pl c R Q e C ->
  ∀(γ:Gh) (h:Za) (B:World) (d:Nat) (a:Act),SatA n e γ a->Inv h0 W M0 (C++R) γ h->c.wp P (qao h0 W M0 n B (Wq c) (zf9 pl c) a γ R Q) a (mk B d h):=by
 intro c
 induction c with
 |skip=>exact λR Q e C H γ h B d a hs I=>wp_skip ⟨e,C,γ,d,h,rfl,hs,I,Same.refl _ _,GxS.refl _ _,H⟩
 |ret=>exact λR Q e C H γ h B d a hs I=>wp_ret ⟨e,C,γ,d,h,rfl,hs,I,Same.refl _ _,GxS.refl _ _,H⟩
 |exit id=>exact λR Q e C H γ h B d a hs I=>wp_exit ⟨e,C,γ,d,h,rfl,hs,I,Same.refl _ _,GxS.refl _ _,H⟩
 |label l=>exact λR Q e C H γ h B d a hs I=>wp_label ⟨e,C,γ,d,h,rfl,hs,I,Same.refl _ _,GxS.refl _ _,H⟩
 |goto l=>exact λR Q e C H γ h B d a hs I=>wp_goto ⟨e,C,γ,d,h,rfl,hs,I,Same.refl _ _,GxS.refl _ _,H⟩
 |region id ops aJ=>
  exact λR Q e C H γ h B d a hs I=>zmj hm aB H B d hs I λe' C' γ' a' d' h' q1 q2 q3 q4 q5=>⟨e',C',γ',d',h',rfl,q1,q2,q3,q4,q5⟩
 |seq x y aa ab=>
  intro R Q e C H γ h B d a hs I
  simp only[WA]at H
  have hl:∀i∈Wq x,i∈Wq (x.seq y):=λi hi=>AJ _ hi
  have hr:∀i∈Wq y,i∈Wq (x.seq y):=λi hi=>AO _ hi
  have kl:∀i∈zf9 pl x,i∈zf9 pl (x.seq y):=λi hi=>AJ _ hi
  have kr:∀i∈zf9 pl y,i∈zf9 pl (x.seq y):=λi hi=>AO _ (AJ _ hi)
  split at H
  ·refine wp_seq (wp_mono (aa _ _ _ _ H γ h B d a hs I) ?_)
   rintro ex a1 w1 ⟨e1,C1,γ1,d1,h1,rfl,s1,I1,m1,g1,q1⟩
   cases ex with
   |normal=>
    refine wp_mono (ab _ _ _ _ q1 γ1 h1 B d1 a1 s1 I1) ?_
    rintro ex a2 w2 ⟨e2,C2,γ2,d2,h2,rfl,s2,I2,m2,g2,q2⟩
    exact⟨e2,C2,γ2,d2,h2,rfl,s2,I2,(m1.mono hl).trans (m2.mono hr),(g1.mono kl).trans (g2.mono kr),q2⟩
   |_=>exact⟨e1,C1,γ1,d1,h1,rfl,s1,I1,m1.mono hl,g1.mono kl,q1⟩
  ·rename_i J hJ
   have kJ:∀i∈J.ids,i∈zf9 pl (x.seq y):=λi hi=>by
    simp only[zf9,hJ]
    exact AO _ (AO _ hi)
   have H':=H (qai (zd0 J) λds=>WA P gl tr n pl y R Q (z4p J ds++zi4 (Wq x) (J.ids++zf9 pl x) e) (chJ J ds++inC J.ro C)) (zor λds hq=>hq)
   refine wp_seq (wp_mono (aa _ _ _ _ H' γ h B d a hs (I.part J.ro)) ?_)
   rintro ex a1 w1 ⟨e1,C1,γ1,d1,h1,rfl,s1,I1,m1,g1,q1⟩
   cases ex with
   |normal=>
    obtain⟨ds,q,hv,hq,hk⟩:=zrm q1
    have au:=zoq hq
    subst au
    obtain⟨ai,af,ah,f1⟩:=ziz hv s1 I1
    have aE:=zv1 hs s1.defers s1.size m1 g1 ah f1
    rw[<-Bo]at af
    refine wp_mono (ab _ _ _ _ hk ai h1 B d1 a1 aE af) ?_
    rintro ex a2 w2 ⟨e2,C2,γ2,d2,h2,rfl,s2,I2,m2,g2,q2⟩
    exact⟨e2,C2,γ2,d2,h2,rfl,s2,I2,(m1.mono hl).trans (m2.mono hr),((g1.mono kl).trans (ah.mono kJ)).trans (g2.mono kr),q2⟩
   |_=>exact⟨e1,C1++inC J.ro C,γ1,d1,h1,rfl,s1,by rw[Bo];exact I1,m1.mono hl,g1.mono kl,q1⟩
 |cond c x y aa ab=>
  intro R Q e C H γ h B d a hs I
  simp only[WA]at H
  have hl:∀i∈Wq x,i∈Wq (Ei c x y):=λi hi=>AJ _ hi
  have hr:∀i∈Wq y,i∈Wq (Ei c x y):=λi hi=>AO _ hi
  have kl:∀i∈zf9 pl x,i∈zf9 pl (Ei c x y):=λi hi=>AJ _ hi
  have kr:∀i∈zf9 pl y,i∈zf9 pl (Ei c x y):=λi hi=>AO _ hi
  split at H
  ·rename_i v hv
   split at H
   ·rename_i b hb
    refine wp_cond_split (zio hb (Zn hs (c:=[]) trivial hv)) (λaI=>?_) (λaA=>?_)
    ·refine wp_mono (aa _ _ _ _ (H.1 aI) γ h B d a hs I) ?_
     rintro ex a2 w2 ⟨e2,C2,γ2,d2,h2,rfl,s2,I2,m2,g2,q2⟩
     exact⟨e2,C2,γ2,d2,h2,rfl,s2,I2,m2.mono hl,g2.mono kl,q2⟩
    ·refine wp_mono (ab _ _ _ _ (H.2 aA) γ h B d a hs I) ?_
     rintro ex a2 w2 ⟨e2,C2,γ2,d2,h2,rfl,s2,I2,m2,g2,q2⟩
     exact⟨e2,C2,γ2,d2,h2,rfl,s2,I2,m2.mono hr,g2.mono kr,q2⟩
   ·exact H.elim
  ·exact H.elim
 |block id x ih=>
  intro R Q e C H γ h B d a hs I
  refine wp_block (wp_mono (ih _ _ _ _ H γ h B d a hs I) ?_)
  rintro ex a1 w1 ⟨e1,C1,γ1,d1,h1,rfl,s1,I1,m1,g1,q1⟩
  cases ex with
  |exit i=>
   simp only[zyp]at q1
   simp only[Exit.inBlock]
   by_cases hb:Nat.beq i id=true
   ·rw[if_pos (Az hb)]
    simp only[hb,cond_true]at q1
    exact⟨e1,C1,γ1,d1,h1,rfl,s1,I1,m1,g1,q1⟩
   ·rw[if_neg (λhe=>hb (by rw[he];simp))]
    simp only[hb,cond_false]at q1
    exact⟨e1,C1,γ1,d1,h1,rfl,s1,I1,m1,g1,q1⟩
  |_=>exact⟨e1,C1,γ1,d1,h1,rfl,s1,I1,m1,g1,q1⟩
 |loop x ih=>
  intro R Q e C H γ h B d a hs I
  simp only[WA]at H
  split at H
  ·rename_i J hJ
   have kx:∀i∈zf9 pl x,i∈zf9 pl (Code.loop x):=λi hi=>AJ _ hi
   have kJ:∀i∈J.ids,i∈zf9 pl (Code.loop x):=λi hi=>by
    simp only[zf9,hJ]
    exact AO _ hi
   have kS:∀i∈J.ids++zf9 pl x,i∈zf9 pl (Code.loop x):=λi hi=>by
    rcases AP.1 hi with hi|hi
    ·exact kJ i hi
    ·exact kx i hi
   obtain⟨Iv,μ,aH,ae⟩:=H
   obtain⟨an,p0,aj,ay,ar⟩:=zrm aH
   obtain⟨γ0,I0,g0,f0⟩:=ziz aj hs (I.part J.ro)
   refine wp_loop_ghost (λm a1 w1=>∃d1 h1 γ1 ds p,w1=mk B d1 h1/\a1.defers=[]/\a1.tmps.size=n/\Same (Wq x) a a1/\GxS (J.ids++zf9 pl x) γ γ1/\Inv h0 W M0 (chJ J ds++(inC J.ro C++R)) γ1 h1/\(∀y∈z4p J ds,zl8 γ1 (Zl a1) y) /\
     zhh (zd0 J) ds (zop (zd0 J) Iv μ)=some p/\p.1/\p.2=m) p0.2 ⟨d,h,γ0,an,p0,rfl,hs.defers,hs.size,Same.refl _ _,g0.mono λi hi=>AJ _ hi,I0,f0,ay,ar,rfl⟩ ?_
   rintro m a1 w1 ⟨d1,h1,γ1,ds,p,rfl,aG,ap,Z,g1,I1,f1,hp,am,rfl⟩
   have s1:SatA n (z4p J ds++zi4 (Wq x) (J.ids++zf9 pl x) e) γ1 a1:=⟨aG,ap,λy hy=>by
    rcases AP.1 hy with hy|hy
    ·exact f1 y hy
    ·exact zbd g1 Z hs.all y hy⟩
   have hb:=zky hp ae am
   refine wp_mono (ih _ _ _ _ hb γ1 h1 B d1 a1 s1 I1) ?_
   rintro ex a2 w2 ⟨e2,C2,γ2,d2,h2,rfl,s2,I2,m2,g2,q2⟩
   cases ex with
   |normal=>
    obtain⟨aF,q,az,hq,ak,aC⟩:=zrm q2
    obtain⟨γ3,I3,g3,f3⟩:=ziz az s2 I2
    exact⟨q.2,aC,d2,h2,γ3,aF,q,rfl,s2.defers,s2.size,Z.trans m2,(g1.trans (g2.mono λi hi=>AO _ hi)).trans (g3.mono λi hi=>AJ _ hi),I3,f3,hq,ak,rfl⟩
   |_=>exact⟨e2,C2++inC J.ro C,γ2,d2,h2,rfl,s2,by rw[Bo];exact I2,Z.trans m2,(g1.mono kS).trans (g2.mono kx),q2⟩
  ·exact H.elim
 |_=>exact λR Q e C H=>H.elim
def zrn:Nat->List Arg->Qe
 |_,[]=>[]
 |i,a::l=>(i,[],.g (gOf a.t a.x))::zrn (i+1) l
def ztm(e:Qe)(i:Nat):Option AV:=match zl7 e i with
 |some ([],v)=>some v
 |_=>none
def z2i(P:Program)(cs:CS)(e:Qe):List ResultVar->(List AV->Prop)->Prop
 |[],K=>K []
 |.tmp t::l,K=>match ztm e t with
  |some v=>z2i P cs e l λvs=>K (v::vs)
  |none=>False
 |.cell a t::l,K=>match ztm e a with
  |some (.g (.a aa))=>zvj P cs t aa none λv=>z2i P cs e l λvs=>K (v::vs)
  |_=>False
def Q5(cs:CS):(l:List Ty)->List AV->Option (Els l)
 |[],[]=>some ()
 |[t],[v]=>zfg cs t v
 |t::t'::l,v::vs=>match zfg cs t v,Q5 cs (t'::l) vs with
  |some x,some y=>some (x,y)
  |_,_=>none
 |_,_=>none
theorem zfp{γ:Gh}{cs:CS}(hf:z09 γ cs):∀{l:List Ty} {vs:List AV} {r:Els l} {us:List Value},Q5 cs l vs=some r->All2 (DenV γ) vs us->RdL γ.M l r us
 |[],[],r,[],_,_=>rfl
 |[],[],_,_::_,_,h=>h.elim
 |[t],[v],r,[u],h,hd=>⟨u,rfl,zdv hf (by simpa[Q5]using h) hd.1⟩
 |[t],[v],_,[],_,h=>h.elim
 |[t],[v],_,_::_::_,_,h=>h.2.elim
 |t::t'::l,v::vs,r,[],_,h=>h.elim
 |t::t'::l,v::vs,r,u::us,h,hd=>by
  simp only[Q5]at h
  split at h
  ·rename_i x y h1 h2
   simp only[As]at h
   subst h
   exact⟨u,us,rfl,zdv hf h1 hd.1,zfp hf h2 hd.2⟩
  ·cases h
 |[],_::_,_,_,h,_=>by simp[Q5]at h
 |[t],[],_,_,h,_=>by simp[Q5]at h
 |[t],_::_::_,_,_,h,_=>by simp[Q5]at h
 |t::t'::l,[],_,_,h,_=>by simp[Q5]at h
def qdd(P:Program)(rs:List ResultVar)(rt:List Ty)(R:Els rt->Prop):zdg:=λx e C=>match x with
 |.normal=>z2i P C e rs λvs=>match Q5 (frzL (zbn vs) C) rt vs with
  |some r=>R r
  |none=>False
 |.ret=>z2i P C e rs λvs=>match Q5 (frzL (zbn vs) C) rt vs with
  |some r=>R r
  |none=>False
 |_=>False
theorem zgs{P:Program}{n:Nat}{C:CS}{e:Qe}{γ:Gh}{a:Act}{h:Za}(hs:SatA n e γ a)(I:Inv h0 W M0 C γ h):∀{l:List ResultVar} {K:List AV->Prop},z2i P C e l K->∃vs us,K vs/\All2 (DenV γ) vs us/\us.length=l.length/\QExec P (l.mapM (zin a.tmps)) h us
 |[],K,H=>⟨[],[],H,trivial,rfl,λ_ _=>by simp⟩
 |.tmp t::l,K,H=>by
  simp only[z2i]at H
  split at H
  ·rename_i v hv
   obtain⟨vs,us,h1,h2,h3,h4⟩:=zgs hs I H
   have hd:DenV γ v (Zl a t):=by
    unfold ztm at hv
    split at hv
    ·rename_i u hl
     simp only[As]at hv
     subst hv
     exact(hs.all _ (Wa hl)).1 trivial
    ·cases hv
   refine⟨v::vs,Zl a t::us,h1,⟨hd,h2⟩,by simp[h3],?_⟩
   rw[Ee]
   exact QExec.bind (x:=Zl a t) (QExec.pure _) (h4.bind (QExec.pure _))
  ·exact H.elim
 |.cell x t::l,K,H=>by
  simp only[z2i]at H
  split at H
  ·rename_i aa hp
   obtain⟨v,hK,hq⟩:=zir (h0:=h0) (W:=W) (M0:=M0) H
   obtain⟨vs,us,h1,h2,h3,h4⟩:=zgs hs I hK
   have hd:DenA γ aa (Zl a x):=by
    unfold ztm at hp
    split at hp
    ·rename_i u hl
     simp only[As]at hp
     subst hp
     exact(hs.all _ (Wa hl)).1 trivial
    ·cases hp
   obtain⟨u,hu,ab⟩:=hq trivial γ h _ I hd
   refine⟨v::vs,u::us,h1,⟨hu,h2⟩,by simp[h3],?_⟩
   rw[Ee]
   refine QExec.bind (x:=u) ?_ (h4.bind (QExec.pure _))
   have ae:∃p,Zl a x=.pointer (some p):=by
    have no:∀aa,(∀k,z1s C k aa=none)->(∀c z i o,aa≠.oelt c z i o)->DenA γ aa (Zl a x)->zvj P C t aa none (λv=>z2i P C e l λvs=>K (v::vs))->False:=by
     intro aa hn af _ hl
     unfold zvj at hl
     split at hl
     ·split at hl
      ·exact af _ _ _ _ rfl
      ·rw[hn]at hl;exact hl
     ·exact hl
    cases aa with
    |box c o=>exact⟨_,hd⟩
    |oelt c z i o=>obtain⟨g,_,e⟩:=hd;exact⟨_,e⟩
    |elt t y o=>obtain⟨b,f,cs,e,_⟩:=hd;exact⟨_,e⟩
    |v y=>exact(no _ (λ_=>rfl) (by simp) hd H).elim
    |d t y=>exact(no _ (λ_=>rfl) (by simp) hd H).elim
    |own c=>exact(no _ (λ_=>rfl) (by simp) hd H).elim
    |dc t y=>exact(no _ (λ_=>rfl) (by simp) hd H).elim
   obtain⟨p,Z⟩:=ae
   rw[Z]at ab
   have e3:a.tmps.getD x undef=.pointer (some p):=Z
   simp only[zin,e3]
   exact ab
  ·exact H.elim
theorem zo1{fn:Func}{rs:List ResultVar}(hr:fn.results.toList=rs){us:List Value}(hl:us.length=rs.length)(hq:QExec P (rs.mapM (zin a.tmps)) h us):QExec P (results fn a.tmps) h (zim us):=by
 intro B d
 have e0:results fn a.tmps=(fn.results.mapM (zin a.tmps) >>= λvs=>Dg (if h:vs.size=1 then vs[0]else .tuple vs)):=by
  unfold results
  congr 1
 rw[e0,Array.mapM_eq_mapM_toList,hr,Sem.run_bind,Sem.run_map,hq B d]
 simp only[Result.andThen_ok,Sem.run_pure]
 match us,hl with
 |[],_=>rfl
 |[v],_=>rfl
 |v::u::vs,_=>simp[zim]
theorem zi5{γ:Gh}{σ:Nat->Value}:∀{l:List Arg} {i:Nat} {us:List Value},zcb γ.M l us->(∀j v,us[j]?=some v->σ (i+j)=v)->∀x∈zrn i l,zl8 γ σ x
 |[],_,_,_,_,x,hx=>by cases hx
 |a::l,i,[],h,_,x,hx=>h.elim
 |a::l,i,u::us,h,hσ,x,hx=>by
  simp only[zrn,Ay]at hx
  rcases hx with rfl|hx
  ·refine⟨λ_=>?_,λhn=>absurd trivial hn⟩
   have:=hσ 0 u rfl
   simp only at this ⊢
   rw[show σ i=u from this]
   exact zq8 h.1
  ·exact zi5 h.2 (λj v hj=>by have:=hσ (j+1) v (by simpa using hj);rwa[show i+(j+1)=i+1+j by omega]at this) x hx
theorem zv2(hm:P.follows .mixedOrders=true)(gl:Fr)(tr:TypeId)(pl:PlanA)(args:List Arg){fn:Func}{rs:List ResultVar}{rt:List Ty}(hf:P.funcs[f]?=some fn)(hb:Xd fn=true)(hr:fn.results.toList=rs)(hn:fn.ntmps=n)
  (hz:Nat.ble args.length n=true) {R:Els rt->Prop} (H:WA P gl tr n pl (codeOf fn) [] (qdd P rs rt R) (zrn 0 args) []):PC P gl f args rt R:=by
 intro h M vs af ae Z B d
 subst hn
 have ai:fn.body=some (codeOf fn):=by
  unfold Xd at hb
  unfold codeOf
  split at hb
  ·rename_i c hc;rw[hc]
  ·cases hb
 refine calls_of_wp hf ai ?_
 have ab:vs.length=args.length:=(All2.length Z).symm
 have ak:vs.length<=fn.ntmps:=by rw[ab];exact Cd hz
 let γ:Gh:=⟨M,λ_=>0,λ_=>⟨none,0,0⟩⟩
 have I:Inv h (λ_=>False) M ([]++[]) γ h:={ ag:=ae,frame:=λ_ _ _=>rfl,size:=Av _,old:=λ_ _=>rfl,le:=Fr.le.refl _,den:=λx hx=>(by cases hx),sep:=λx hx=>(by cases hx),apart:=List.Pairwise.nil }
 have hs:SatA fn.ntmps (zrn 0 args) γ { tmps:=vs.toArray++Br (fn.ntmps-vs.toArray.size) undef,defers:=[] }:=by
  refine⟨rfl,by simp;omega,zi5 Z λj v hj=>?_⟩
  have aj:j<vs.length:=(AQ.1 hj).1
  simp only[AX,Zl,BO]
  rw[CN (by simpa using aj)]
  simp[hj]
 have aa:∀(e:Qe) (C:CS) (γ':Gh) (h':Za) (a:Act),SatA fn.ntmps e γ' a->Inv h (λ_=>False) M (C++[]) γ' h'->(z2i P C e rs λvs=>match Q5 (frzL (zbn vs) C) rt vs with|some r=>R r|none=>False) ->
   ∃v,QExec P (results fn a.tmps) h' v/\Keep h.size h h'/\∃M' r,Fr.le M M'/\(∀b,b<h.size->M' b=M b)/\AgM M' h'/\ze0 M' rt r v/\R r:=by
  intro e C γ' h' a s1 I1 q
  rw[Bu]at I1
  obtain⟨ah,us,hK,hd,hl,hq⟩:=zgs s1 I1 q
  split at hK
  ·rename_i r hc
   obtain⟨γ2,I2,g2⟩:=Inv.frzL (C:=C) (R:=[]) (γ:=γ') (zbn ah) (by simpa using I1)
   rw[Bu]at I2
   refine⟨zim us,zo1 hr hl hq,⟨I2.size,λi hi=>I2.frame i hi (λh=>h)⟩,γ2.M,r,I2.le,I2.old,I2.ag,⟨us,zfp I2.fz hc (hd.imp λv _ u hu=>hu.gx g2 rfl),rfl⟩,hK⟩
  ·exact hK.elim
 refine wp_mono (z2h hm af _ _ _ _ _ H γ h B d _ hs I) ?_
 rintro ex a w ⟨e1,C1,γ1,d1,h1,rfl,s1,I1,m1,g1,q1⟩
 cases ex with
 |normal=>
  obtain⟨v,hq,k,rest⟩:=aa e1 C1 γ1 h1 a s1 I1 q1
  exact⟨s1.defers,v,hq B d1,v,d1,h1,rfl,rfl,k,rest⟩
 |ret=>
  obtain⟨v,hq,k,rest⟩:=aa e1 C1 γ1 h1 a s1 I1 q1
  exact⟨s1.defers,v,hq B d1,v,d1,h1,rfl,rfl,k,rest⟩
 |_=>exact q1.elim
theorem zv3(hm:P.follows .mixedOrders=true)(gl:Fr)(tr:TypeId)(pl:PlanA)(args:List Arg){fn:Func}{rs:List ResultVar}{rt:List Ty}(hf:P.funcs[f]?=some fn)(hb:Xd fn=true)(hr:fn.results.toList=rs)(hn:fn.ntmps=n)
  (hz:Nat.ble args.length n=true) {R:Els rt->Prop} {F:Prop} (H:F) (e:F=WA P gl tr n pl (codeOf fn) [] (qdd P rs rt R) (zrn 0 args) []):PC P gl f args rt R:=
 zv2 hm gl tr pl args hf hb hr hn hz (e ▸ H)
end
end Go.X
end
section
namespace Go.X
open Go Go.RowKit
section
variable {P:Program} {f:FuncId} {h:Za} {M gl:Fr} {v:Value} {us:List Value}
theorem XC.of_calls{args:Array Value}{R:Value->Za->Prop}
  (H:∀B d,Calls P f args (mk B d h) λe w'=>∃v,e=.returned v/\w'.os=B.os/\w'.tape=B.tape/\w'.output=B.output/\R v w'.heap):XC P f args h R:=by
 intro B d
 refine(H B d).mono ?_
 rintro e w' ⟨v,rfl,h1,h2,h3,h4⟩
 refine⟨v,w'.drawn,w'.heap,rfl,?_,h4⟩
 cases w';simp only[mk]at *;subst h1;subst h2;subst h3;rfl
theorem AgM.keep{h h':Za}(ag:AgM M h)(k:Keep h.size h h'):AgM M h':=λb c e=>by
 obtain⟨T,m,e'⟩:=ag b c e
 exact⟨T,m,by rw[k.get b (ag.lt e)];exact e'⟩
def zv4:Arg->Option Value
 |⟨.int k,x⟩=>some (.int k x)
 |⟨.bool,x⟩=>some (.bool x)
 |⟨.str,x⟩=>some (.string x)
 |_=>none
def zha:List Arg->Option (List Value)
 |[]=>some []
 |a::l=>match zv4 a,zha l with
  |some v,some vs=>some (v::vs)
  |_,_=>none
theorem z2j{a:Arg}{v u:Value}(h:zv4 a=some v)(hd:RdV M a.t a.x u):u=v:=by
 obtain⟨t,x⟩:=a
 cases t with
 |int k=>simp only[zv4,As]at h;subst h;simpa[RdV,Rd,zom]using hd
 |bool=>simp only[zv4,As]at h;subst h;simpa[RdV,Rd,zom]using hd
 |str=>simp only[zv4,As]at h;subst h;simpa[RdV,Rd,zom]using hd
 |_=>simp[zv4]at h
theorem zfq{M:Fr}:∀{l:List Arg} {vs us:List Value},zha l=some vs->zcb M l us->us=vs
 |[],vs,us,h,hd=>by
  simp only[zha,As]at h;subst h
  cases us with
  |nil=>rfl
  |cons _ _=>exact hd.elim
 |a::l,vs,us,h,hd=>by
  simp only[zha]at h
  split at h
  ·rename_i v Z h1 h2
   simp only[As]at h;subst h
   cases us with
   |nil=>exact hd.elim
   |cons u us=>rw[z2j h1 hd.1,zfq h2 hd.2]
  ·cases h
theorem PC.of_scal{args:List Arg}{rt:List Ty}{R:Els rt->Prop}(aa:zha args=some us){r:Els rt}(hv:∀M,ze0 M rt r v)(hR:R r)
  (H:∀w:World,AgM gl w.heap->Calls P f us.toArray w λe w'=>e=.returned v/\Below w.heap.size w w'):PC P gl f args rt R:=by
 intro h M vs hM ag ha
 rw[zfq aa ha]
 refine XC.of_calls λB d=>(H (mk B d h) λb c e=>ag b c (hM b c e)).mono ?_
 rintro e w' ⟨rfl,Z⟩
 have k:Keep h.size h w'.heap:=⟨Z.size,Z.block⟩
 exact⟨v,rfl,Z.os,Z.tape,Z.output,k,M,r,Fr.le.refl _,λ_ _=>rfl,ag.keep k,hv M,hR⟩
theorem PC.of_same{args:List Arg}{rt:List Ty}{R:Els rt->Prop}(Z:zha args=some us){r:Els rt}(hv:∀M,ze0 M rt r v)(hR:R r)
  (H:∀w:World,AgM gl w.heap->Calls P f us.toArray w λe w'=>e=.returned v/\w'=w):PC P gl f args rt R:=
 PC.of_scal Z hv hR λw hw=>(H w hw).mono λe w' ⟨h1,h2⟩=>⟨h1,h2 ▸ Below.refl _ _⟩
theorem zyq(k:IntKind)(i:Int):ze0 M [.int k] i (.int k i):=⟨[_],⟨_,rfl,rfl⟩,rfl⟩
theorem ztn(b:Bool):ze0 M [.bool] b (.bool b):=⟨[_],⟨_,rfl,rfl⟩,rfl⟩
theorem zi6(s:Bt):ze0 M [.str] s (.string s):=⟨[_],⟨_,rfl,rfl⟩,rfl⟩
theorem AgM.glob{w:World}(ag:AgM gl w.heap){b o:Nat}{cs:Array Value}(hb:gl b=some cs)(ho:cs[o]?=some v):w.cell? ⟨b,o,Option.none⟩=some v:=by
 obtain⟨T,m,e⟩:=ag b cs hb
 simp[World.cell?,e,ho]
theorem PC.of_ex{args:List Arg}{rt:List Ty}{R:Els rt->Prop}(aa:zha args=some us)
  (H:∀w:World,AgM gl w.heap->Calls P f us.toArray w λe w'=>∃v r,e=.returned v/\(∀M,ze0 M rt r v)/\R r/\Below w.heap.size w w'):PC P gl f args rt R:=by
 intro h M vs hM ag ha
 rw[zfq aa ha]
 refine XC.of_calls λB d=>(H (mk B d h) λb c e=>ag b c (hM b c e)).mono ?_
 rintro e w' ⟨v,r,rfl,hv,hR,Z⟩
 have k:Keep h.size h w'.heap:=⟨Z.size,Z.block⟩
 exact⟨v,rfl,Z.os,Z.tape,Z.output,k,M,r,Fr.le.refl _,λ_ _=>rfl,ag.keep k,hv M,hR⟩
end
section
variable {P:Program} {gl M:Fr} {f:FuncId} {h h':Za} {vs:List Value} {K:Value -> Za -> Prop} {t:Ty} {u v:Value} {i:Int} {s:Sl} {k:Nat}
def PX(P:Program)(f:FuncId)(vs:Array Value)(h:Za)(M:Fr)(rt:List Ty)(R:Els rt->Prop):Prop:=
 XC P f vs h λv h'=>Keep h.size h h'/\∃M' r,Fr.le M M'/\(∀b,b<h.size->M' b=M b)/\AgM M' h'/\ze0 M' rt r v/\R r
theorem PC.px{args:List Arg}{rt:List Ty}{R:Els rt->Prop}(H:PC P gl f args rt R)(hM:Fr.le gl M)(ag:AgM M h)(ha:zcb M args vs):PX P f vs.toArray h M rt R:=H h M vs hM ag ha
structure Later (h:Za) (M:Fr) (h':Za) (M':Fr):Prop where
 keep:Keep h.size h h'
 le:Fr.le M M'
 old:∀b,b<h.size->M' b=M b
 ag:AgM M' h'
theorem Later.refl(ag:AgM M h):Later h M h M:=⟨Keep.refl _ _,Fr.le.refl _,λ_ _=>rfl,ag⟩
theorem Later.trans{h h' Z:Za}{M M' aa:Fr}(a:Later h M h' M')(b:Later h' M' Z aa):Later h M Z aa:=
 ⟨a.keep.trans b.keep a.keep.size,a.le.trans b.le,λx hx=>(b.old x (by have:=a.keep.size;omega)).trans (a.old x hx),b.ag⟩
theorem Later.same(ag:AgM M h)(k:Keep h.size h h'):Later h M h' M:=⟨k,Fr.le.refl _,λ_ _=>rfl,ag.keep k⟩
theorem Later.push(ag:AgM M h)(o:Obj):Later h M (h.push o) M:=Later.same ag (Keep.push _ _ (Av _))
theorem PX.go{vs:Array Value}{rt:List Ty}{R:Els rt->Prop}(H:PX P f vs h M rt R)(hK:∀v h' M' r,Later h M h' M'->ze0 M' rt r v->R r->K v h'):XC P f vs h K:=
 XC.mono H λv h' ⟨k,M',r,e1,e2,e3,e4,e5⟩=>hK v h' M' r ⟨k,e1,e2,e3⟩ e4 e5
theorem PX.of{vs:Array Value}{rt:List Ty}{R:Els rt->Prop}(H:XC P f vs h λv h'=>∃M' r,Later h M h' M'/\ze0 M' rt r v/\R r):PX P f vs h M rt R:=
 XC.mono H λv h' ⟨M',r,l,e4,e5⟩=>⟨l.keep,M',r,l.le,l.old,l.ag,e4,e5⟩
theorem PC.go{args:List Arg}{rt:List Ty}{R:Els rt->Prop}(H:PC P gl f args rt R)(hM:Fr.le gl M)(ag:AgM M h)(ha:zcb M args vs)
  (hK:∀v h' M' r,Later h M h' M'->ze0 M' rt r v->R r->K v h'):XC P f vs.toArray h K:=(H.px hM ag ha).go hK
theorem zto{x:El t}(ht:zom t=false):RdV M t x u↔Rd M t x [u]:=by unfold RdV;rw[ht];simp
theorem zqn{x:El t}:ze0 M [t] x v↔RdV M t x v:=by
 constructor
 ·rintro⟨us,⟨u,rfl,h⟩,rfl⟩;exact h
 ·intro h;exact⟨[v],⟨v,rfl,h⟩,rfl⟩
theorem z4t{b:Bool}(h:ze0 M [.bool] b v):v=.bool b:=by
 have:=zqn.1 h
 rw[zto rfl]at this
 simpa[Rd]using this
theorem qde{k:IntKind}(h:ze0 M [.int k] i v):v=.int k i:=by
 have:=zqn.1 h
 rw[zto rfl]at this
 simpa[Rd]using this
theorem qcl{s:Bt}(h:ze0 M [.str] s v):v=.string s:=by
 have:=zqn.1 h
 rw[zto rfl]at this
 simpa[Rd]using this
theorem Yk:zcb M [] []:=trivial
theorem Qw{a:Arg}{l:List Arg}{us:List Value}(h:RdV M a.t a.x u)(hl:zcb M l us):zcb M (a::l) (u::us):=⟨h,hl⟩
theorem rdStr(s:Bt):RdV M .str s (.string s):=by rw[zto rfl];rfl
theorem zbp(k:IntKind)(i:Int):RdV M (.int k) i (.int k i):=by rw[zto rfl];rfl
theorem rdBool(b:Bool):RdV M .bool b (.bool b):=by rw[zto rfl];rfl
theorem Y1{s:Bt}(h:RdV M .str s u):u=.string s:=by rw[zto rfl]at h;simpa[Rd]using h
theorem Zy{k:IntKind}(h:RdV M (.int k) i u):u=.int k i:=by rw[zto rfl]at h;simpa[Rd]using h
theorem zdh{v:Tr}(h:RdV M .tree v u):∃sk si:Sl,u=.agg #[.int .i64 v.kind,.string v.text,slV sk,slV si]/\Rd M (.row .str) v.keys [slV sk]/\Rd M (.row .tree) v.items [slV si]:=by
 unfold RdV at h
 simp only[zom,if_true]at h
 obtain⟨cs,rfl,hr⟩:=h
 obtain⟨vk,vi,rfl,h1,h2⟩:=TrRd.keys hr
 have aa:=h1;have Z:=h2
 obtain⟨w1,e1,a1,c1,q1,_⟩:=aa
 obtain⟨w2,e2,a2,c2,q2,_⟩:=Z
 simp only[Ca,and_true]at e1 e2
 subst e1;subst e2;subst q1;subst q2
 exact⟨⟨a1,v.keys.length,c1⟩,⟨a2,v.items.length,c2⟩,rfl,h1,h2⟩
theorem qdf{xs:List (El t)}(h:RdV M (.row t) xs u):∃s:Sl,u=slV s/\Rd M (.row t) xs [slV s]:=by
 rw[zto rfl]at h
 have h':=h
 obtain⟨w,e,a,c,q,_⟩:=h'
 simp only[Ca,and_true]at e
 subst e;subst q
 exact⟨⟨a,xs.length,c⟩,rfl,h⟩
theorem rowLen{xs:List (El t)}(h:Rd M (.row t) xs [slV s]):s.len=xs.length/\xs.length<=140737488355328/\xs.length<=s.cap:=by
 obtain⟨w,e,a,c,q,hn,_⟩:=h
 simp only[Ca,and_true]at e
 subst e
 simp only[slV,A4]at q
 obtain⟨_,h2,h3⟩:=q
 exact⟨h2,hn.1,by rw[h3];exact hn.2⟩
theorem rowAt{xs:List (El t)}(h:Rd M (.row t) xs [slV s])(hk:k<xs.length):∃b o cs,s.a=some ⟨b,o,none⟩/\M b=some cs/\Rd M t xs[k] (cut cs (o+k*sz t) (sz t)):=by
 obtain⟨w,e,a,c,q,hn,hx⟩:=h
 simp only[Ca,and_true]at e
 subst e
 simp only[slV,A4]at q
 obtain⟨h1,h2,h3⟩:=q
 rcases hx with rfl|⟨b,o,cs,e1,e2,e3⟩
 ·simp at hk
 ·exact⟨b,o,cs,by rw[h1,e1],e2,e3 k hk⟩
theorem z2k{M:Fr}{h:Za}(ag:AgM M h){b:Nat}{cs:Array Value}(hM:M b=some cs):∀{vs:List Value} {o i:Nat},cut cs (o+i) vs.length=vs->Zb h ⟨b,o,none⟩ i vs
 |[],_,_,_=>trivial
 |v::vs,o,i,e=>by
  unfold cut at e
  have Z:o+i<cs.toList.length:=by
   rcases A1 (o+i) cs.toList.length with hh|hh
   ·exact hh
   ·rw[BJ hh]at e;simp at e
  rw[A9 Z,AN,Bw]at e
  injection e with e1 e2
  refine⟨?_,z2k ag hM (i:=i+1) e2⟩
  rw[Zq]
  refine ag.cell hM ?_
  rw[A0 (by simpa using Z),<-e1];simp
theorem zyr(ag:AgM M h){b:Nat}{cs:Array Value}(hM:M b=some cs){o:Nat}(e:cut cs o 1=[v]):Ze h ⟨b,o,none⟩=some v:=by
 have:=z2k (vs:=[v]) (o:=o) (i:=0) ag hM (by simpa using e)
 exact this.1
theorem Qd(b o n:Nat):(⟨b,o,none⟩:Addr).add n=⟨b,o+n,none⟩:=Zq b o n
theorem qdg(ag:AgM M h){xs:List Bt}(H:Rd M (.row .str) xs [slV s])(hk:k<xs.length)(hi:i=(k:Int)){L:Nat}(hL:L=s.len){Q:Bt->Prop}(hQ:Q xs[k]):
  ∃a:Addr,(s.a=some a/\0<=i/\i<(L:Int))/\∃x:Bt,Ze h (a.add (i.toNat*1))=some (.string x)/\Q x:=by
 obtain⟨b,o,cs,e1,e2,e3⟩:=rowAt H hk
 have hl:=(rowLen H).1
 refine⟨_,⟨e1,by omega,by omega⟩,xs[k],?_,hQ⟩
 rw[Qd,hi,AK]
 exact zyr ag e2 e3
def Mx(M:Fr)(b:Nat)(cs:Array Value):Fr:=λi=>if i=b then some cs else M i
theorem Later.frz(ag:AgM M h)(cs:Array Value)(T:TypeId):Later h M (h.push (.cells cs T)) (Mx M h.size cs) where
 keep:=Keep.push _ _ (Av _)
 le:=λb c e=>by
  have:=ag.lt e
  unfold Mx;rw[if_neg (by omega)];exact e
 old:=λb hb=>by unfold Mx;rw[if_neg (by omega)]
 ag:=λb c e=>by
  unfold Mx at e
  split at e
  ·rename_i hb
   subst hb
   cases e
   exact⟨T,(0,0),Jh _ _⟩
  ·obtain⟨T',m,e'⟩:=ag b c e
   exact⟨T',m,by rw[(Keep.push h _ (Av _)).get b (ag.lt e)];exact e'⟩
end
end Go.X
end
section
namespace Go.X
open Go Go.ChangeShapes Go.WideShapes Go.RowKit
set_option linter.unusedVariables false
section
variable {a:Addr} {P:Program}
def Fz(W:World):Fr:=λb=>match W.heap[b]? with|some (.cells cs _ _)=>some cs|_=>none
theorem Fz.ag(W:World):AgM (Fz W) W.heap:=by
 intro b c e
 unfold Fz at e
 split at e
 ·rename_i cs T m hh;cases e;exact⟨T,m,hh⟩
 ·cases e
theorem Fz.cell{W:World}{v:Value}(h:W.cell? a=some v):∃b o c,a=⟨b,o,none⟩/\Fz W b=some c/\c[o]?=some v:=by
 obtain⟨b,o,sp⟩:=a
 unfold World.cell? at h
 split at h
 ·rename_i c T m hh
  cases sp with
  |some x=>simp at h
  |none=>
   refine⟨b,o,c,rfl,?_,by simpa using h⟩
   unfold Fz
   change W.heap[b]?=_ at hh
   rw[hh]
 ·cases h
theorem Fz.cells{W:World}{n:Nat}{cs:List Value}(h:W.cells? 0 a n=some cs)(hn:0<n):∃b o c,a=⟨b,o,none⟩/\Fz W b=some c/\cut c o n=cs:=by
 obtain⟨_,hl,hc⟩:=World.cells?_some h
 have h0:=hc 0 hn
 rw[AE (by omega)]at h0
 obtain⟨b,o,c,e,hb,_⟩:=Fz.cell h0
 obtain⟨ab,ao,sp⟩:=a
 rw[show AD ⟨ab,ao,sp⟩ 0=⟨ab,ao,sp⟩from rfl]at e
 cases e
 refine⟨b,o,c,rfl,hb,?_⟩
 have Z:∀i,i<n->c[o+i]?=cs[i]?:=λi hi=>by
  have h1:=hc i hi
  rw[AE (by omega)]at h1 ⊢
  obtain⟨b2,o2,c2,e2,aa,h2⟩:=Fz.cell h1
  rw[Zq]at e2
  cases e2
  rw[hb]at aa;cases aa
  exact h2
 unfold cut
 apply BB
 intro i
 by_cases hi:i<n
 ·rw[AR,if_pos hi,AY,<-Z i hi];simp
 ·rw[AR,if_neg hi,Ce (by omega)]
section
variable {H : Type} {enc : TypeId × Value -> H} {P : Program} {W : World} {sp : Nat -> Bool} {held : Bool}
def qap(P:Program)(t:TypeId)(d:DataW H):Prop:=∀n∈d.weights P t,n<=reachBytes
end
theorem zro{f:FuncId}{W:World}{args:List Arg}{vs:Array Value}(H:PC P (Fz W) f args [.bool] (λr=>r=true))(ha:zcb (Fz W) args vs.toList):
  Calls P f vs W λe w'=>e=.returned (.bool true)/\Below W.heap.size W w':=by
 have H':=H W.heap (Fz W) vs.toList (Fr.le.refl _) (Fz.ag W) ha
 rw[Array.toArray_toList]at H'
 refine(H' W W.drawn).mono ?_
 rintro e w' ⟨v,d',h',rfl,rfl,k,M',r,_,_,_,hr,Z⟩
 have Z:r=true:=Z
 subst Z
 rw[z4t hr]
 exact⟨rfl,rfl,rfl,rfl,k.size,k.get⟩
theorem Fz.var{W:World}{n:String}{g:Nat}{cs:Array Value}(hg:P.globalNamed n=some g)(h:W.var? P n=some cs):Fz W g=some cs:=by
 unfold World.var? at h
 rw[hg]at h
 exact h
end
end Go.X
end
section
namespace Go.Proofs
section
theorem Tryz.mixed:A7.follows .mixedOrders=true:=by kernel_rfl
noncomputable abbrev Tp:= A7
end
end Go.Proofs
end
section
namespace Go.X
section
theorem PF{gl:Fr}{args:List Arg}{f:FuncId}{fn:Func}{rt:List Ty}{R:Els rt->Prop}{F:Prop}(pl:PlanA)(rs:List ResultVar)(n:Nat)(hf:A7.funcs[f]?=some fn)(H:F)(hb:Xd fn=true:=by kernel_rfl)(hr:fn.results.toList=rs:=by kernel_rfl)(hn:fn.ntmps=n:=by kernel_rfl)(hz:Nat.ble args.length n=true:=by kernel_rfl)(e:F=WA Tp gl 26 n pl (codeOf fn) [] (qdd Tp rs rt R) (zrn 0 args) []:=by kernel_rfl):PC Tp gl f args rt R:=zv3 Tryz.mixed gl 26 pl args hf hb hr hn hz H e
theorem zd4(gl:Fr)(a0:Tr)(b1:Tr)(R:Bool->Prop)
  (H:((bif (bif (bif (a0.kind != b1.kind)then true else(!(a0.text.toList==b1.text.toList)))then true else((a0.keys.length:Int) != (b1.keys.length:Int)))then true else((a0.items.length:Int) != (b1.items.length:Int)))=true->R false)/\((bif (bif (bif (a0.kind != b1.kind)then true else(!(a0.text.toList==b1.text.toList)))then true else((a0.keys.length:Int) != (b1.keys.length:Int)))then true else((a0.items.length:Int) != (b1.items.length:Int)))=false->∃(a:Int->Prop) (b:Int->Nat),a 0/\∀c:Int,a c->((decide (c<a0.keys.length)=true->∃d,(0<=c/\a0.keys[c.toNat]?=some d)/\∃e,(0<=c/\b1.keys[c.toNat]?=some e)/\((!(d.toList==e.toList))=true->R false)/\((!(d.toList==e.toList))=false->(a (Ar .i64 (c+1))/\b (Ar .i64 (c+1))<b c)))/\(decide (c<a0.keys.length)=false->∃(f:Int->Prop) (g:Int->Nat),f 0/\∀i:Int,f i->((decide (i<a0.items.length)=true->∃j,(0<=i/\a0.items[i.toNat]?=some j)/\∃k,(0<=i/\b1.items[i.toNat]?=some k)/\PC Tp gl 16 [Arg.mk .tree (Tr.mk j.kind j.text j.keys j.items),Arg.mk .tree (Tr.mk k.kind k.text k.keys k.items)] [.bool] (λl:Bool=>((!l)=true->R false)/\((!l)=false->(f (Ar .i64 (i+1))/\g (Ar .i64 (i+1))<g i))))/\(decide (i<a0.items.length)=false->R true)))))):
  PC Tp gl 16 [Arg.mk .tree a0,Arg.mk .tree b1] [.bool] R:=
 PF ⟨[(11,10)],[],[(4,⟨[(5,.one (.dat (.int .i64)))],[],[2,3],[100320]⟩),(9,⟨[(6,.one (.dat (.int .i64)))],[],[2,3],[100384]⟩)],[]⟩ [.tmp 4] 76 Tryz.func16 H
theorem zhj(gl:Fr)(Z:Bt)(R:(Int×Bool)->Prop)
  (H:(((!(bif (Z.toList==(⟨#[]⟩:Bt).toList)then true else(decide ((Z.size:Int)>9))))&&(!(Z.toList==(⟨#[48]⟩:Bt).toList)))=true->(0<=(0:Int)/\(0:Int)<(Z.size:Int)))/\∃a:Bool->Prop,((!(bif (bif (Z.toList==(⟨#[]⟩:Bt).toList)then true else(decide ((Z.size:Int)>9)))then true else(bif (!(Z.toList==(⟨#[48]⟩:Bt).toList))then((Zc Z (0:Int).toNat:Int)==48)else false)))=true->PC Tp gl 209 [Arg.mk .str Z,Arg.mk .str (⟨#[43,45,95]⟩:Bt)] [.bool] a)/\∀b:Bool,((!(bif (bif (Z.toList==(⟨#[]⟩:Bt).toList)then true else(decide ((Z.size:Int)>9)))then true else(bif (!(Z.toList==(⟨#[48]⟩:Bt).toList))then((Zc Z (0:Int).toNat:Int)==48)else false)))=true->a b)->((bif (bif (bif (Z.toList==(⟨#[]⟩:Bt).toList)then true else(decide ((Z.size:Int)>9)))then true else(bif (!(Z.toList==(⟨#[48]⟩:Bt).toList))then((Zc Z (0:Int).toNat:Int)==48)else false))then true else b)=true->R (0,false))/\((bif (bif (bif (Z.toList==(⟨#[]⟩:Bt).toList)then true else(decide ((Z.size:Int)>9)))then true else(bif (!(Z.toList==(⟨#[48]⟩:Bt).toList))then((Zc Z (0:Int).toNat:Int)==48)else false))then true else b)=false->PC Tp gl 210 [Arg.mk .str Z] [.int .i64,.err] (λc:Int×Bool=>((!c.2)=true->R (0,false))/\((!c.2)=false->R (c.1,true))))):
  PC Tp gl 135 [Arg.mk .str Z] [.int .i64,.bool] R:=
 PF ⟨[],[],[],[]⟩ [.tmp 2,.tmp 3] 34 Tryz.func135 H
theorem zgt(gl:Fr)(l0:List Tr)(R:Tr->Prop)
  (H:R (Tr.mk 5 (⟨#[]⟩:Bt) [] l0)):
  PC Tp gl 29 [Arg.mk (.row .tree) l0] [.tree] R:=
 PF ⟨[],[],[],[]⟩ [.cell 2 26] 5 Tryz.func29 H
theorem zo2(gl:Fr)(n0:Int)(R:Tr->Prop)
  (H:PC Tp gl 110 [Arg.mk (.int .i64) n0] [.pair .bool (.pair .str (.int .i64))] (λa:Bool×Bt×Int=>PC Tp gl 26 [Arg.mk (.pair .bool (.pair .str (.int .i64))) (a.1,(a.2.1,a.2.2))] [.str] (λb:Bt=>R (Tr.mk 3 b [] [])))):
  PC Tp gl 58 [Arg.mk (.int .i64) n0] [.tree] R:=
 PF ⟨[],[],[],[]⟩ [.cell 2 26] 7 Tryz.func58 H
theorem zhk(gl:Fr)(s0:Bt)(R:Bool->Prop)
  (H:PC Tp gl 80 [Arg.mk .str s0] [.int .i64,.bool] (λa:Int×Bool=>R a.2)):
  PC Tp gl 134 [Arg.mk .str s0] [.bool] R:=
 PF ⟨[],[],[],[]⟩ [.tmp 2] 11 Tryz.func134 H
theorem zjv(gl:Fr)(n0:Bool×Bt×Int)(R:Bt->Prop)
  (H:PC Tp gl 78 [Arg.mk (.pair .bool (.pair .str (.int .i64))) (n0.1,(n0.2.1,n0.2.2))] [.bool] (λa:Bool=>((!a)=true->R (⟨#[]⟩:Bt))/\((!a)=false->((n0.2.1.toList==(⟨#[]⟩:Bt).toList)=true->R (⟨#[48]⟩:Bt))/\((n0.2.1.toList==(⟨#[]⟩:Bt).toList)=false->∀b:Bt->Prop,(∀c:Bt,(((n0.2.2 != 0)=true->PC Tp gl 79 [Arg.mk (.int .i64) n0.2.2] [.str] (λd:Bt=>Qk (((⟨#[101]⟩:Bt)).size+d.size)/\Qk (c.size+((⟨#[101]⟩:Bt)++d).size)/\R (c++((⟨#[101]⟩:Bt)++d))))/\((n0.2.2 != 0)=false->R c))->b c)->(n0.1=true->Qk (((⟨#[45]⟩:Bt)).size+n0.2.1.size)/\b ((⟨#[45]⟩:Bt)++n0.2.1))/\(n0.1=false->b n0.2.1))))):
  PC Tp gl 26 [Arg.mk (.pair .bool (.pair .str (.int .i64))) n0] [.str] R:=
 PF ⟨[],[],[],[(8,⟨[(3,.one (.dat .str))],[],[1],[100192]⟩)]⟩ [.tmp 2] 26 Tryz.func26 H
theorem zo3(gl:Fr)(n0:Int)(R:(Bool×Bt×Int)->Prop)
  (H:PC Tp gl 79 [Arg.mk (.int .i64) n0] [.str] (λa:Bt=>PC Tp gl 25 [Arg.mk .str a] [.pair .bool (.pair .str (.int .i64)),.int .i64] (λb:(Bool×Bt×Int)×Int=>R (b.1.1,(b.1.2.1,b.1.2.2))))):
  PC Tp gl 110 [Arg.mk (.int .i64) n0] [.pair .bool (.pair .str (.int .i64))] R:=
 PF ⟨[],[],[],[]⟩ [.cell 2 46] 12 Tryz.func110 H
theorem zjw(gl:Fr)(s0:Bt)(R:(Int×Bool)->Prop)
  (H:PC Tp gl 150 [Arg.mk .str s0] [.bool] (λa:Bool=>(a=true->R ((s0.size:Int),true))/\(a=false->∃(b:(Bt×Nat)->Prop) (c:(Bt×Nat)->Nat),b (s0,0)/\∀Z:Bt×Nat,b Z->(((nxB Z.1 Z.2)=true->(nxB Z.1 Z.2)=true/\(nxB Z.1 Z.2)=true/\(((nxR Z.1 Z.2:Int) != 65533)=true->(b (Z.1,nxP Z.1 Z.2)/\c (Z.1,nxP Z.1 Z.2)<c Z))/\(((nxR Z.1 Z.2:Int) != 65533)=false->(0<=(Z.2:Int)/\(Z.2:Int)<=(s0.size:Int)/\(s0.size:Int)<=(s0.size:Int))/\PC Tp gl 151 [Arg.mk .str (s0.extract (Z.2:Int).toNat (s0.size:Int).toNat)] [.int .i32,.int .i64] (λd:Int×Int=>((d.2==1)=true->R ((Z.2:Int),false))/\((d.2==1)=false->(b (Z.1,nxP Z.1 Z.2)/\c (Z.1,nxP Z.1 Z.2)<c Z)))))/\((nxB Z.1 Z.2)=false->R ((s0.size:Int),true)))))):
  PC Tp gl 80 [Arg.mk .str s0] [.int .i64,.bool] R:=
 PF ⟨[],[],[(4,⟨[],[(13,[.dat .iter])],[],[1000832]⟩)],[]⟩ [.tmp 2,.tmp 3] 32 Tryz.func80 H
theorem zi7(gl:Fr)(n0:Bool×Bt×Int)(R:Bool->Prop)
  (H:(((n0.1==false)&&((n0.2.1.toList==(⟨#[]⟩:Bt).toList)&&((n0.2.2==0)&&true)))=true->R true)/\(((n0.1==false)&&((n0.2.1.toList==(⟨#[]⟩:Bt).toList)&&((n0.2.2==0)&&true)))=false->PC Tp gl 141 [Arg.mk .str n0.2.1] [.bool] (λa:Bool=>((!a)=true->((!a)=true->R false)/\((!a)=false->R (bif (decide (n0.2.2>=(-1000000)))then(decide (n0.2.2<=1000000))else false)))/\((!a)=false->(decide ((n0.2.1.size:Int)>1000)=true->(decide ((n0.2.1.size:Int)>1000)=true->R false)/\(decide ((n0.2.1.size:Int)>1000)=false->R (bif (decide (n0.2.2>=(-1000000)))then(decide (n0.2.2<=1000000))else false)))/\(decide ((n0.2.1.size:Int)>1000)=false->(0<=(0:Int)/\(0:Int)<(n0.2.1.size:Int))/\(((Zc n0.2.1 (0:Int).toNat:Int)==48)=true->(((Zc n0.2.1 (0:Int).toNat:Int)==48)=true->R false)/\(((Zc n0.2.1 (0:Int).toNat:Int)==48)=false->R (bif (decide (n0.2.2>=(-1000000)))then(decide (n0.2.2<=1000000))else false)))/\(((Zc n0.2.1 (0:Int).toNat:Int)==48)=false->(0<=(Ar .i64 ((n0.2.1.size:Int)-1))/\(Ar .i64 ((n0.2.1.size:Int)-1))<(n0.2.1.size:Int))/\(((Zc n0.2.1 (Ar .i64 ((n0.2.1.size:Int)-1)).toNat:Int)==48)=true->R false)/\(((Zc n0.2.1 (Ar .i64 ((n0.2.1.size:Int)-1)).toNat:Int)==48)=false->R (bif (decide (n0.2.2>=(-1000000)))then(decide (n0.2.2<=1000000))else false)))))))):
  PC Tp gl 78 [Arg.mk (.pair .bool (.pair .str (.int .i64))) n0] [.bool] R:=
 PF ⟨[],[],[],[]⟩ [.tmp 2] 34 Tryz.func78 H
theorem zi8(gl:Fr)(s0:Bt)(R:((Bool×Bt×Int)×Int)->Prop)
  (H:PC Tp gl 75 [Arg.mk .str s0] [.pair .bool (.pair .bool (.pair .str (.pair .str .str))),.bool] (λa:(Bool×Bool×Bt×Bt×Bt)×Bool=>PC Tp gl 76 [Arg.mk .str a.1.2.2.2.2,Arg.mk .str (⟨#[48]⟩:Bt)] [.str] (λb:Bt=>((!a.2)=true->R ((false,((⟨#[]⟩:Bt),0)),2))/\((!a.2)=false->((decide ((Ar .i64 ((a.1.2.2.1.size:Int)+(a.1.2.2.2.1.size:Int)))>1000))=true->R ((false,((⟨#[]⟩:Bt),0)),3))/\((decide ((Ar .i64 ((a.1.2.2.1.size:Int)+(a.1.2.2.2.1.size:Int)))>1000))=false->(decide ((b.size:Int)>9)=true->R ((false,((⟨#[]⟩:Bt),0)),4))/\(decide ((b.size:Int)>9)=false->∃(c:Int->Bool->Bt->Int->(Bt×Nat)->Prop) (d:Int->Bool->Bt->Int->(Bt×Nat)->Nat),c 0 false (⟨#[]⟩:Bt) 0 (b,0)/\∀e:Int,∀aa:Bool,∀ae:Bt,∀ab:Int,∀Z:Bt×Nat,c e aa ae ab Z->(((nxB Z.1 Z.2)=true->(nxB Z.1 Z.2)=true/\(c (Ar .i64 ((Ar .i64 (10*e))+(Ar .i64 (Ar .i32 ((nxR Z.1 Z.2)-48))))) aa ae ab (Z.1,nxP Z.1 Z.2)/\d (Ar .i64 ((Ar .i64 (10*e))+(Ar .i64 (Ar .i32 ((nxR Z.1 Z.2)-48))))) aa ae ab (Z.1,nxP Z.1 Z.2)<d e aa ae ab Z))/\((nxB Z.1 Z.2)=false->∀f:Int->Bool->Bt->Int->Prop,(∀g:Int,∀ah:Bool,∀ai:Bt,∀af:Int,(Qk (a.1.2.2.1.size+a.1.2.2.2.1.size)/\PC Tp gl 76 [Arg.mk .str (a.1.2.2.1++a.1.2.2.2.1),Arg.mk .str (⟨#[48]⟩:Bt)] [.str] (λi:Bt=>((i.toList==(⟨#[]⟩:Bt).toList)=true->R ((false,((⟨#[]⟩:Bt),0)),0))/\((i.toList==(⟨#[]⟩:Bt).toList)=false->PC Tp gl 77 [Arg.mk .str i,Arg.mk .str (⟨#[48]⟩:Bt)] [.str] (λj:Bt=>PC Tp gl 78 [Arg.mk (.pair .bool (.pair .str (.int .i64))) (a.1.1,(j,Ar .i64 ((Ar .i64 ((Ar .i64 (g-(a.1.2.2.2.1.size:Int)))+(i.size:Int)))-(j.size:Int))))] [.bool] (λk:Bool=>((!k)=true->R ((false,((⟨#[]⟩:Bt),0)),4))/\((!k)=false->R ((a.1.1,(j,Ar .i64 ((Ar .i64 ((Ar .i64 (g-(a.1.2.2.2.1.size:Int)))+(i.size:Int)))-(j.size:Int)))),0)))))))->f g ah ai af)->(a.1.2.1=true->f (Ar .i64 (0-e)) aa ae ab)/\(a.1.2.1=false->f e aa ae ab))))))))):
  PC Tp gl 25 [Arg.mk .str s0] [.pair .bool (.pair .str (.int .i64)),.int .i64] R:=
 PF ⟨[],[],[(11,⟨[(7,.one (.dat (.int .i64)))],[(2,[.dat .bool,.dat .str,.dat (.int .i64)]),(41,[.dat .iter])],[4],[100448,1000128,1000129,1000130,1002624]⟩)],[(16,⟨[(7,.one (.dat (.int .i64)))],[(2,[.dat .bool,.dat .str,.dat (.int .i64)])],[4],[100448,1000128,1000129,1000130]⟩)]⟩ [.cell 2 46,.tmp 3] 86 Tryz.func25 H
theorem Xj(gl:Fr)(s0:Bt)(R:Bool->Prop)
  (H:∃(a:Bt->Prop) (b:Bt->Nat),a s0/\∀c:Bt,a c->((decide ((c.size:Int)>0)=true->(0<=(0:Int)/\(0:Int)<(c.size:Int))/\(decide ((Zc c (0:Int).toNat:Int)<128)=true->(0<=(1:Int)/\(1:Int)<=(c.size:Int)/\(c.size:Int)<=(c.size:Int))/\∃d:Int->Prop,((decide ((((c.extract (1:Int).toNat (c.size:Int).toNat).size:Int):Int)>8))=true->PC Tp gl 217 [Arg.mk .str (c.extract (1:Int).toNat (c.size:Int).toNat)] [.int .u64] d)/\∀e:Int,((decide ((((c.extract (1:Int).toNat (c.size:Int).toNat).size:Int):Int)>8))=true->d e)->((bif (decide ((((c.extract (1:Int).toNat (c.size:Int).toNat).size:Int):Int)>8))then((Ar .u64 (((AH (AB .u64) e) &&& (AH (AB .u64) 9259542123273814144)).toNat:Int):Int)==0)else false)=true->(0<=(8:Int)/\(8:Int)<=((c.extract (1:Int).toNat (c.size:Int).toNat).size:Int)/\(((c.extract (1:Int).toNat (c.size:Int).toNat).size:Int):Int)<=((c.extract (1:Int).toNat (c.size:Int).toNat).size:Int))/\((decide (((((c.extract (1:Int).toNat (c.size:Int).toNat).extract (8:Int).toNat (((c.extract (1:Int).toNat (c.size:Int).toNat).size:Int):Int).toNat).size:Int):Int)>16))=true->(0<=(8:Int)/\(8:Int)<=(((c.extract (1:Int).toNat (c.size:Int).toNat).extract (8:Int).toNat (((c.extract (1:Int).toNat (c.size:Int).toNat).size:Int):Int).toNat).size:Int)/\((((c.extract (1:Int).toNat (c.size:Int).toNat).extract (8:Int).toNat (((c.extract (1:Int).toNat (c.size:Int).toNat).size:Int):Int).toNat).size:Int):Int)<=(((c.extract (1:Int).toNat (c.size:Int).toNat).extract (8:Int).toNat (((c.extract (1:Int).toNat (c.size:Int).toNat).size:Int):Int).toNat).size:Int)))/\∃f:Int->Prop,((decide (((((c.extract (1:Int).toNat (c.size:Int).toNat).extract (8:Int).toNat (((c.extract (1:Int).toNat (c.size:Int).toNat).size:Int):Int).toNat).size:Int):Int)>16))=true->PC Tp gl 217 [Arg.mk .str ((c.extract (1:Int).toNat (c.size:Int).toNat).extract (8:Int).toNat (((c.extract (1:Int).toNat (c.size:Int).toNat).size:Int):Int).toNat)] [.int .u64] f)/\∀g:Int,((decide (((((c.extract (1:Int).toNat (c.size:Int).toNat).extract (8:Int).toNat (((c.extract (1:Int).toNat (c.size:Int).toNat).size:Int):Int).toNat).size:Int):Int)>16))=true->f g)->∃i:Int->Prop,((decide (((((c.extract (1:Int).toNat (c.size:Int).toNat).extract (8:Int).toNat (((c.extract (1:Int).toNat (c.size:Int).toNat).size:Int):Int).toNat).size:Int):Int)>16))=true->PC Tp gl 217 [Arg.mk .str (((c.extract (1:Int).toNat (c.size:Int).toNat).extract (8:Int).toNat (((c.extract (1:Int).toNat (c.size:Int).toNat).size:Int):Int).toNat).extract (8:Int).toNat ((((c.extract (1:Int).toNat (c.size:Int).toNat).extract (8:Int).toNat (((c.extract (1:Int).toNat (c.size:Int).toNat).size:Int):Int).toNat).size:Int):Int).toNat)] [.int .u64] i)/\∀j:Int,((decide (((((c.extract (1:Int).toNat (c.size:Int).toNat).extract (8:Int).toNat (((c.extract (1:Int).toNat (c.size:Int).toNat).size:Int):Int).toNat).size:Int):Int)>16))=true->i j)->((bif (decide (((((c.extract (1:Int).toNat (c.size:Int).toNat).extract (8:Int).toNat (((c.extract (1:Int).toNat (c.size:Int).toNat).size:Int):Int).toNat).size:Int):Int)>16))then((Ar .u64 (((AH (AB .u64) (Ar .u64 (((AH (AB .u64) g) ||| (AH (AB .u64) j)).toNat:Int))) &&& (AH (AB .u64) 9259542123273814144)).toNat:Int):Int)==0)else false)=true->(0<=(16:Int)/\(16:Int)<=(((c.extract (1:Int).toNat (c.size:Int).toNat).extract (8:Int).toNat (((c.extract (1:Int).toNat (c.size:Int).toNat).size:Int):Int).toNat).size:Int)/\((((c.extract (1:Int).toNat (c.size:Int).toNat).extract (8:Int).toNat (((c.extract (1:Int).toNat (c.size:Int).toNat).size:Int):Int).toNat).size:Int):Int)<=(((c.extract (1:Int).toNat (c.size:Int).toNat).extract (8:Int).toNat (((c.extract (1:Int).toNat (c.size:Int).toNat).size:Int):Int).toNat).size:Int))/\∃(k:Bt->Prop) (l:Bt->Nat),k (((c.extract (1:Int).toNat (c.size:Int).toNat).extract (8:Int).toNat (((c.extract (1:Int).toNat (c.size:Int).toNat).size:Int):Int).toNat).extract (16:Int).toNat ((((c.extract (1:Int).toNat (c.size:Int).toNat).extract (8:Int).toNat (((c.extract (1:Int).toNat (c.size:Int).toNat).size:Int):Int).toNat).size:Int):Int).toNat)/\∀m:Bt,k m->((decide ((m.size:Int)>32)=true->(0<=(8:Int)/\(8:Int)<=(m.size:Int)/\(m.size:Int)<=(m.size:Int)))/\(decide ((m.size:Int)>32)=true->(0<=(16:Int)/\(16:Int)<=(m.size:Int)/\(m.size:Int)<=(m.size:Int)))/\(decide ((m.size:Int)>32)=true->(0<=(24:Int)/\(24:Int)<=(m.size:Int)/\(m.size:Int)<=(m.size:Int)))/\∃n:Int->Prop,(decide ((m.size:Int)>32)=true->PC Tp gl 217 [Arg.mk .str m] [.int .u64] n)/\∀o:Int,(decide ((m.size:Int)>32)=true->n o)->∃p:Int->Prop,(decide ((m.size:Int)>32)=true->PC Tp gl 217 [Arg.mk .str (m.extract (8:Int).toNat (m.size:Int).toNat)] [.int .u64] p)/\∀q:Int,(decide ((m.size:Int)>32)=true->p q)->∃r:Int->Prop,(decide ((m.size:Int)>32)=true->PC Tp gl 217 [Arg.mk .str (m.extract (16:Int).toNat (m.size:Int).toNat)] [.int .u64] r)/\∀s:Int,(decide ((m.size:Int)>32)=true->r s)->∃t:Int->Prop,(decide ((m.size:Int)>32)=true->PC Tp gl 217 [Arg.mk .str (m.extract (24:Int).toNat (m.size:Int).toNat)] [.int .u64] t)/\∀u:Int,(decide ((m.size:Int)>32)=true->t u)->((bif (decide ((m.size:Int)>32))then((Ar .u64 (((AH (AB .u64) (Ar .u64 (((AH (AB .u64) (Ar .u64 (((AH (AB .u64) o) ||| (AH (AB .u64) q)).toNat:Int))) ||| (AH (AB .u64) (Ar .u64 (((AH (AB .u64) s) ||| (AH (AB .u64) u)).toNat:Int)))).toNat:Int))) &&& (AH (AB .u64) 9259542123273814144)).toNat:Int):Int)==0)else false)=true->(0<=(32:Int)/\(32:Int)<=(m.size:Int)/\(m.size:Int)<=(m.size:Int))/\(k (m.extract (32:Int).toNat (m.size:Int).toNat)/\l (m.extract (32:Int).toNat (m.size:Int).toNat)<l m))/\((bif (decide ((m.size:Int)>32))then((Ar .u64 (((AH (AB .u64) (Ar .u64 (((AH (AB .u64) (Ar .u64 (((AH (AB .u64) o) ||| (AH (AB .u64) q)).toNat:Int))) ||| (AH (AB .u64) (Ar .u64 (((AH (AB .u64) s) ||| (AH (AB .u64) u)).toNat:Int)))).toNat:Int))) &&& (AH (AB .u64) 9259542123273814144)).toNat:Int):Int)==0)else false)=false->(a m/\b m<b c))))/\((bif (decide (((((c.extract (1:Int).toNat (c.size:Int).toNat).extract (8:Int).toNat (((c.extract (1:Int).toNat (c.size:Int).toNat).size:Int):Int).toNat).size:Int):Int)>16))then((Ar .u64 (((AH (AB .u64) (Ar .u64 (((AH (AB .u64) g) ||| (AH (AB .u64) j)).toNat:Int))) &&& (AH (AB .u64) 9259542123273814144)).toNat:Int):Int)==0)else false)=false->(a ((c.extract (1:Int).toNat (c.size:Int).toNat).extract (8:Int).toNat (((c.extract (1:Int).toNat (c.size:Int).toNat).size:Int):Int).toNat)/\b ((c.extract (1:Int).toNat (c.size:Int).toNat).extract (8:Int).toNat (((c.extract (1:Int).toNat (c.size:Int).toNat).size:Int):Int).toNat)<b c)))/\((bif (decide ((((c.extract (1:Int).toNat (c.size:Int).toNat).size:Int):Int)>8))then((Ar .u64 (((AH (AB .u64) e) &&& (AH (AB .u64) 9259542123273814144)).toNat:Int):Int)==0)else false)=false->(a (c.extract (1:Int).toNat (c.size:Int).toNat)/\b (c.extract (1:Int).toNat (c.size:Int).toNat)<b c)))/\(decide ((Zc c (0:Int).toNat:Int)<128)=false->(0<=(Zc c (0:Int).toNat:Int)/\(Zc c (0:Int).toNat:Int)<((256:Nat):Int))/\∃v,zis gl 0 (0+(Zc c (0:Int).toNat:Int).toNat*1) (.int .u8 v)/\(0<=(v.fdiv (2 ^ 4):Int)/\(v.fdiv (2 ^ 4):Int)<((16:Nat):Int))/\∃w,zis gl 1 (0+(v.fdiv (2 ^ 4):Int).toNat*2) (.int .u8 w)/\∃x,zis gl 1 (0+(v.fdiv (2 ^ 4):Int).toNat*2+1) (.int .u8 x)/\(((Ar .i64 (Ar .u8 (((AH (AB .u8) v) &&& (AH (AB .u8) 7)).toNat:Int)):Int)==2)=true->((!(decide ((c.size:Int)<2)))=true->(0<=(1:Int)/\(1:Int)<(c.size:Int)))/\((!(bif (decide ((c.size:Int)<2))then true else(decide ((Zc c (1:Int).toNat:Int)<w))))=true->(0<=(1:Int)/\(1:Int)<(c.size:Int)))/\((bif (bif (decide ((c.size:Int)<2))then true else(decide ((Zc c (1:Int).toNat:Int)<w)))then true else(decide (x<(Zc c (1:Int).toNat))))=true->R false)/\((bif (bif (decide ((c.size:Int)<2))then true else(decide ((Zc c (1:Int).toNat:Int)<w)))then true else(decide (x<(Zc c (1:Int).toNat))))=false->(0<=(2:Int)/\(2:Int)<=(c.size:Int)/\(c.size:Int)<=(c.size:Int))/\(a (c.extract (2:Int).toNat (c.size:Int).toNat)/\b (c.extract (2:Int).toNat (c.size:Int).toNat)<b c)))/\(((Ar .i64 (Ar .u8 (((AH (AB .u8) v) &&& (AH (AB .u8) 7)).toNat:Int)):Int)==2)=false->(((Ar .i64 (Ar .u8 (((AH (AB .u8) v) &&& (AH (AB .u8) 7)).toNat:Int)):Int)==3)=true->((!(decide ((c.size:Int)<3)))=true->(0<=(1:Int)/\(1:Int)<(c.size:Int)))/\((!(bif (decide ((c.size:Int)<3))then true else(decide ((Zc c (1:Int).toNat:Int)<w))))=true->(0<=(1:Int)/\(1:Int)<(c.size:Int)))/\((!(bif (bif (decide ((c.size:Int)<3))then true else(decide ((Zc c (1:Int).toNat:Int)<w)))then true else(decide (x<(Zc c (1:Int).toNat)))))=true->(0<=(2:Int)/\(2:Int)<(c.size:Int)))/\((!(bif (bif (bif (decide ((c.size:Int)<3))then true else(decide ((Zc c (1:Int).toNat:Int)<w)))then true else(decide (x<(Zc c (1:Int).toNat))))then true else(decide ((Zc c (2:Int).toNat:Int)<128))))=true->(0<=(2:Int)/\(2:Int)<(c.size:Int)))/\((bif (bif (bif (bif (decide ((c.size:Int)<3))then true else(decide ((Zc c (1:Int).toNat:Int)<w)))then true else(decide (x<(Zc c (1:Int).toNat))))then true else(decide ((Zc c (2:Int).toNat:Int)<128)))then true else(decide ((191:Int)<(Zc c (2:Int).toNat))))=true->R false)/\((bif (bif (bif (bif (decide ((c.size:Int)<3))then true else(decide ((Zc c (1:Int).toNat:Int)<w)))then true else(decide (x<(Zc c (1:Int).toNat))))then true else(decide ((Zc c (2:Int).toNat:Int)<128)))then true else(decide ((191:Int)<(Zc c (2:Int).toNat))))=false->(0<=(3:Int)/\(3:Int)<=(c.size:Int)/\(c.size:Int)<=(c.size:Int))/\(a (c.extract (3:Int).toNat (c.size:Int).toNat)/\b (c.extract (3:Int).toNat (c.size:Int).toNat)<b c)))/\(((Ar .i64 (Ar .u8 (((AH (AB .u8) v) &&& (AH (AB .u8) 7)).toNat:Int)):Int)==3)=false->(((Ar .i64 (Ar .u8 (((AH (AB .u8) v) &&& (AH (AB .u8) 7)).toNat:Int)):Int)==4)=true->((!(decide ((c.size:Int)<4)))=true->(0<=(1:Int)/\(1:Int)<(c.size:Int)))/\((!(bif (decide ((c.size:Int)<4))then true else(decide ((Zc c (1:Int).toNat:Int)<w))))=true->(0<=(1:Int)/\(1:Int)<(c.size:Int)))/\((!(bif (bif (decide ((c.size:Int)<4))then true else(decide ((Zc c (1:Int).toNat:Int)<w)))then true else(decide (x<(Zc c (1:Int).toNat)))))=true->(0<=(2:Int)/\(2:Int)<(c.size:Int)))/\((!(bif (bif (bif (decide ((c.size:Int)<4))then true else(decide ((Zc c (1:Int).toNat:Int)<w)))then true else(decide (x<(Zc c (1:Int).toNat))))then true else(decide ((Zc c (2:Int).toNat:Int)<128))))=true->(0<=(2:Int)/\(2:Int)<(c.size:Int)))/\((!(bif (bif (bif (bif (decide ((c.size:Int)<4))then true else(decide ((Zc c (1:Int).toNat:Int)<w)))then true else(decide (x<(Zc c (1:Int).toNat))))then true else(decide ((Zc c (2:Int).toNat:Int)<128)))then true else(decide ((191:Int)<(Zc c (2:Int).toNat)))))=true->(0<=(3:Int)/\(3:Int)<(c.size:Int)))/\((!(bif (bif (bif (bif (bif (decide ((c.size:Int)<4))then true else(decide ((Zc c (1:Int).toNat:Int)<w)))then true else(decide (x<(Zc c (1:Int).toNat))))then true else(decide ((Zc c (2:Int).toNat:Int)<128)))then true else(decide ((191:Int)<(Zc c (2:Int).toNat))))then true else(decide ((Zc c (3:Int).toNat:Int)<128))))=true->(0<=(3:Int)/\(3:Int)<(c.size:Int)))/\((bif (bif (bif (bif (bif (bif (decide ((c.size:Int)<4))then true else(decide ((Zc c (1:Int).toNat:Int)<w)))then true else(decide (x<(Zc c (1:Int).toNat))))then true else(decide ((Zc c (2:Int).toNat:Int)<128)))then true else(decide ((191:Int)<(Zc c (2:Int).toNat))))then true else(decide ((Zc c (3:Int).toNat:Int)<128)))then true else(decide ((191:Int)<(Zc c (3:Int).toNat))))=true->R false)/\((bif (bif (bif (bif (bif (bif (decide ((c.size:Int)<4))then true else(decide ((Zc c (1:Int).toNat:Int)<w)))then true else(decide (x<(Zc c (1:Int).toNat))))then true else(decide ((Zc c (2:Int).toNat:Int)<128)))then true else(decide ((191:Int)<(Zc c (2:Int).toNat))))then true else(decide ((Zc c (3:Int).toNat:Int)<128)))then true else(decide ((191:Int)<(Zc c (3:Int).toNat))))=false->(0<=(4:Int)/\(4:Int)<=(c.size:Int)/\(c.size:Int)<=(c.size:Int))/\(a (c.extract (4:Int).toNat (c.size:Int).toNat)/\b (c.extract (4:Int).toNat (c.size:Int).toNat)<b c)))/\(((Ar .i64 (Ar .u8 (((AH (AB .u8) v) &&& (AH (AB .u8) 7)).toNat:Int)):Int)==4)=false->R false)))))/\(decide ((c.size:Int)>0)=false->R true))):
  PC Tp gl 150 [Arg.mk .str s0] [.bool] R:=
 PF ⟨[],[(7,8,[],[0,1,2,3,4,6,7,5],[]),(9,15,[],[0,1,2,3,4,6,7,10,11,13,14,5,8,9,12],[9])],[(1,⟨[(0,.one (.dat .str))],[],[],[100000]⟩),(9,⟨[(0,.one (.dat .str))],[],[],[100000]⟩)],[]⟩ [.tmp 2] 169 Tryz.func150 H
theorem zhl(gl:Fr)(s0:Bt)(R:Bool->Prop)
  (H:∃(a:(Bt×Nat)->Prop) (b:(Bt×Nat)->Nat),a (s0,0)/\∀Z:Bt×Nat,a Z->(((nxB Z.1 Z.2)=true->(nxB Z.1 Z.2)=true/\((bif (decide ((nxR Z.1 Z.2:Int)<48))then true else(decide ((nxR Z.1 Z.2:Int)>57)))=true->R false)/\((bif (decide ((nxR Z.1 Z.2:Int)<48))then true else(decide ((nxR Z.1 Z.2:Int)>57)))=false->(a (Z.1,nxP Z.1 Z.2)/\b (Z.1,nxP Z.1 Z.2)<b Z)))/\((nxB Z.1 Z.2)=false->R (!(s0.toList==(⟨#[]⟩:Bt).toList))))):
  PC Tp gl 141 [Arg.mk .str s0] [.bool] R:=
 PF ⟨[],[],[(2,⟨[],[(6,[.dat .iter])],[],[1000384]⟩)],[]⟩ [.tmp 2] 18 Tryz.func141 H
theorem zjx(gl:Fr)(s0:Bt)(R:((Bool×Bool×Bt×Bt×Bt)×Bool)->Prop)
  (H:PC Tp gl 138 [Arg.mk .str s0,Arg.mk .str (⟨#[45]⟩:Bt)] [.str,.bool] (λa:Bt×Bool=>PC Tp gl 139 [Arg.mk .str a.1,Arg.mk .str (⟨#[101,69]⟩:Bt)] [.str,.str,.bool] (λb:Bt×Bt×Bool=>∀c:Bt->Bool->Bool->Bt->Bt->Bt->Prop,(∀d:Bt,∀ai ah:Bool,∀ak am aj:Bt,(PC Tp gl 139 [Arg.mk .str b.1,Arg.mk .str (⟨#[46]⟩:Bt)] [.str,.str,.bool] (λe:Bt×Bt×Bool=>PC Tp gl 141 [Arg.mk .str e.1] [.bool] (λf:Bool=>∃g:Bool->Prop,(((!(!f))&&e.2.2)=true->PC Tp gl 141 [Arg.mk .str e.2.1] [.bool] g)/\∀i:Bool,(((!(!f))&&e.2.2)=true->g i)->((bif (!f)then true else(bif e.2.2 then(!i)else false))=true->R ((ai,(ah,(e.1,(e.2.1,d)))),false))/\((bif (!f)then true else(bif e.2.2 then(!i)else false))=false->((!(e.1.toList==(⟨#[48]⟩:Bt).toList))=true->(0<=(0:Int)/\(0:Int)<(e.1.size:Int)))/\R ((ai,(ah,(e.1,(e.2.1,d)))),bif (e.1.toList==(⟨#[48]⟩:Bt).toList)then true else((Zc e.1 (0:Int).toNat:Int) != 48))))))->c d ai ah ak am aj)->(b.2.2=true->PC Tp gl 138 [Arg.mk .str b.2.1,Arg.mk .str (⟨#[45]⟩:Bt)] [.str,.bool] (λj:Bt×Bool=>∀k:Bt->Bool->Bool->Bt->Bt->Bt->Prop,(∀l:Bt,∀af ae:Bool,∀ab aa Z:Bt,(PC Tp gl 141 [Arg.mk .str l] [.bool] (λm:Bool=>((!m)=true->R ((af,(ae,(ab,(aa,Z)))),false))/\((!m)=false->c l af ae ab aa Z)))->k l af ae ab aa Z)->((!j.2)=true->PC Tp gl 140 [Arg.mk .str j.1,Arg.mk .str (⟨#[43]⟩:Bt)] [.str] (λn:Bt=>k n a.2 j.2 (⟨#[]⟩:Bt) (⟨#[]⟩:Bt) (⟨#[]⟩:Bt)))/\((!j.2)=false->k j.1 a.2 j.2 (⟨#[]⟩:Bt) (⟨#[]⟩:Bt) (⟨#[]⟩:Bt))))/\(b.2.2=false->c b.2.1 a.2 false (⟨#[]⟩:Bt) (⟨#[]⟩:Bt) (⟨#[]⟩:Bt))))):
  PC Tp gl 75 [Arg.mk .str s0] [.pair .bool (.pair .bool (.pair .str (.pair .str .str))),.bool] R:=
 PF ⟨[],[(14,8,[],[0,1,2,3,4,5,6,7],[4,5,6,7])],[],[(9,⟨[(4,.one (.dat .str))],[(2,[.dat .bool,.dat .bool,.dat .str,.dat .str,.dat .str])],[],[100256,1000128,1000129,1000130,1000131,1000132]⟩),(7,⟨[(4,.one (.dat .str))],[(2,[.dat .bool,.dat .bool,.dat .str,.dat .str,.dat .str])],[],[100256,1000128,1000129,1000130,1000131,1000132]⟩)]⟩ [.cell 2 102,.tmp 3] 69 Tryz.func75 H
theorem Xk(gl:Fr)(s0:Bt)(R:Int->Prop)
  (H:(false=true->(0<=(0:Int)/\(0:Int)<(s0.size:Int))/\(0<=(1:Int)/\(1:Int)<(s0.size:Int))/\(0<=(2:Int)/\(2:Int)<(s0.size:Int))/\(0<=(3:Int)/\(3:Int)<(s0.size:Int))/\R (Ar .u64 (((AH (AB .u64) (Ar .u64 (((AH (AB .u64) (Ar .u64 (((AH (AB .u64) (Ar .u64 (Zc s0 (0:Int).toNat))) ||| (AH (AB .u64) (Ar .u64 ((Ar .u64 (Zc s0 (1:Int).toNat))*2 ^ 8)))).toNat:Int))) ||| (AH (AB .u64) (Ar .u64 ((Ar .u64 (Zc s0 (2:Int).toNat))*2 ^ 16)))).toNat:Int))) ||| (AH (AB .u64) (Ar .u64 ((Ar .u64 (Zc s0 (3:Int).toNat))*2 ^ 24)))).toNat:Int)))/\(false=false->(0<=(0:Int)/\(0:Int)<(s0.size:Int))/\(0<=(1:Int)/\(1:Int)<(s0.size:Int))/\(0<=(2:Int)/\(2:Int)<(s0.size:Int))/\(0<=(3:Int)/\(3:Int)<(s0.size:Int))/\(0<=(4:Int)/\(4:Int)<(s0.size:Int))/\(0<=(5:Int)/\(5:Int)<(s0.size:Int))/\(0<=(6:Int)/\(6:Int)<(s0.size:Int))/\(0<=(7:Int)/\(7:Int)<(s0.size:Int))/\R (Ar .u64 (((AH (AB .u64) (Ar .u64 (((AH (AB .u64) (Ar .u64 (((AH (AB .u64) (Ar .u64 (((AH (AB .u64) (Ar .u64 (((AH (AB .u64) (Ar .u64 (((AH (AB .u64) (Ar .u64 (((AH (AB .u64) (Ar .u64 (Zc s0 (0:Int).toNat))) ||| (AH (AB .u64) (Ar .u64 ((Ar .u64 (Zc s0 (1:Int).toNat))*2 ^ 8)))).toNat:Int))) ||| (AH (AB .u64) (Ar .u64 ((Ar .u64 (Zc s0 (2:Int).toNat))*2 ^ 16)))).toNat:Int))) ||| (AH (AB .u64) (Ar .u64 ((Ar .u64 (Zc s0 (3:Int).toNat))*2 ^ 24)))).toNat:Int))) ||| (AH (AB .u64) (Ar .u64 ((Ar .u64 (Zc s0 (4:Int).toNat))*2 ^ 32)))).toNat:Int))) ||| (AH (AB .u64) (Ar .u64 ((Ar .u64 (Zc s0 (5:Int).toNat))*2 ^ 40)))).toNat:Int))) ||| (AH (AB .u64) (Ar .u64 ((Ar .u64 (Zc s0 (6:Int).toNat))*2 ^ 48)))).toNat:Int))) ||| (AH (AB .u64) (Ar .u64 ((Ar .u64 (Zc s0 (7:Int).toNat))*2 ^ 56)))).toNat:Int)))):
  PC Tp gl 217 [Arg.mk .str s0] [.int .u64] R:=
 PF ⟨[],[],[],[]⟩ [.tmp 2] 59 Tryz.func217 H
theorem zmk(gl:Fr)(s0:Bt)(Z:Bt)(R:(Bt×Bt×Bool)->Prop)
  (H:∃(a:Int->Prop) (b:Int->Nat),a 0/\∀c:Int,a c->((decide (c<s0.size)=true->(0<=c/\c<s0.size)/\PC Tp gl 212 [Arg.mk .str Z,Arg.mk (.int .u8) (Zc s0 c.toNat)] [.int .i64] (λd:Int=>(decide (d>=0)=true->(0<=(0:Int)/\(0:Int)<=c/\c<=s0.size)/\(0<=(Ar .i64 (c+1))/\(Ar .i64 (c+1))<=(s0.size:Int)/\(s0.size:Int)<=(s0.size:Int))/\R (s0.extract (0:Int).toNat c.toNat,s0.extract (Ar .i64 (c+1)).toNat (s0.size:Int).toNat,true))/\(decide (d>=0)=false->(a (Ar .i64 (c+1))/\b (Ar .i64 (c+1))<b c))))/\(decide (c<s0.size)=false->R (s0,(⟨#[]⟩:Bt),false)))):
  PC Tp gl 139 [Arg.mk .str s0,Arg.mk .str Z] [.str,.str,.bool] R:=
 PF ⟨[],[],[(2,⟨[(10,.one (.dat (.int .i64)))],[],[],[100640]⟩)],[]⟩ [.tmp 4,.tmp 5,.tmp 6] 28 Tryz.func139 H
end
section
abbrev bl(l:List UInt8):Bt:=⟨l.toArray⟩
abbrev lb(s:Bt):List UInt8:=s.data.toList
@[simp] theorem Yh(l:List UInt8):lb (bl l)=l:=by simp[lb]
@[simp] theorem zo4(s:Bt):bl (lb s)=s:=by cases s;simp[lb,bl]
theorem zo5{s t:Bt}:lb s=lb t↔s=t:=⟨λh=>by rw[<-zo4 s,h,zo4],λh=>by rw[h]⟩
theorem zo6(s:Bt):(lb s).length=s.size:=by cases s;simp[lb,ByteArray.size]
theorem zys(s t:Bt):lb (s++t)=lb s++lb t:=by
 cases s;cases t
 simp[lb]
theorem zv5(s:Bt)(a b:Nat):lb (s.extract a b)=((lb s).drop a).take (b-a):=by
 cases s
 simp[lb,ByteArray.data_extract,List.extract_eq_take_drop]
theorem zyt(s:Bt)(i:Nat):Zc s i=((((lb s)[i]?).getD 0).toNat:Int):=by
 cases s;simp[lb,Zc]
theorem z7d(s:Bt)(i:Nat):s.get! i=((lb s)[i]?).getD 0:=by
 cases s with
 |mk d=>simp[lb,ByteArray.get!,Array.getElem!_eq_getD];rfl
def dec(l:List UInt8):Nat×Nat:=Go.Lib.decodeN l.length (l.getD 0 0).toNat (l.getD 1 0).toNat (l.getD 2 0).toNat (l.getD 3 0).toNat
theorem ztp(s:Bt)(i:Nat):Es s i=dec ((lb s).drop i):=by
 rw[Go.Lib.decode_at,dec]
 simp only[z7d,Df,AY,AW,zo6,CM]
theorem Yv(l:List UInt8):1<=(dec l).2/\(dec l).2<=4:=by
 unfold dec Go.Lib.decodeN
 repeat' split
 all_goals simp
theorem ztq{l:List UInt8}(h:l≠[]):(dec l).2<=l.length:=by
 have:0<l.length:=BC.2 h
 unfold dec Go.Lib.decodeN
 repeat' split
 all_goals simp only
 all_goals omega
def zc6(d:Nat×Nat):Bool:=d.1==65533&&d.2==1
def Ys(l:List UInt8):Bool:=if h:l=[]then true else if zc6 (dec l)then false else Ys (l.drop (dec l).2)
termination_by l.length
decreasing_by
 have h1:=Yv l
 have h2:0<l.length:=BC.2 h
 simp only[AW];omega
theorem ztr:Ys []=true:=by unfold Ys;simp
theorem Ym{l:List UInt8}(h:l≠[]):Ys l=if zc6 (dec l)then false else Ys (l.drop (dec l).2):=by
 rw[Ys];simp[h]
theorem Xl{c:UInt8}{l:List UInt8}(h:c.toNat<128):dec (c::l)=(c.toNat,1):=by
 simp[dec,Go.Lib.decodeN,h]
theorem zv6{c:UInt8}{l:List UInt8}(h:c.toNat<128):zc6 (dec (c::l))=false:=by
 rw[Xl h,zc6]
 have:(c.toNat==65533)=false:=by simp;omega
 simp[this]
theorem zla{c:UInt8}{l:List UInt8}(h:c.toNat<128):Ys (c::l)=Ys l:=by
 rw[Ym (by simp),zv6 h,Xl h];simp
end
end Go.X
end
section
namespace Go.X
open Go Go.Lib
section
abbrev Bs:=List UInt8
end
end Go.X
end
section
namespace Go.X
section
variable {n b0 b1 b2 b3:Nat}
theorem zcf{n:Int}(h1:-2147483648<=n)(h2:n<=2147483647):Ar .i32 n=n:=by
 unfold Ar
 have e:(2:Int) ^ AB .i32=4294967296:=by decide
 have e':(2:Int) ^ (AB .i32-1)=2147483648:=by decide
 simp only[e,e']
 have hs:Do .i32=true:=rfl
 simp only[hs,Dj,decide_eq_true_eq]
 split <;> omega
theorem qet(h:128<=b0/\b0<194\/245<=b0/\b0<256):Lib.decodeN n b0 b1 b2 b3=(65533,1):=by
 refine Lib.bad_eq _ _ _ _ _ (by omega) ?_
 unfold Lib.firstT
 repeat' split
 all_goals first|rfl|(exfalso;omega)
theorem qeu(h:194<=b0/\b0<224)(h1:b1<256):Lib.decodeN n b0 b1 b2 b3=if 2<=n/\128<=b1/\b1<=191 then((b0-192)*64+(b1-128),2)else(65533,1):=by
 unfold Lib.decodeN
 rw[if_neg (by omega)]
 by_cases hc:2<=n/\128<=b1/\b1<=191
 ·have e:b0 % 32*64+b1 % 64=(b0-192)*64+(b1-128):=by omega
  rw[if_pos (by omega),if_pos (by omega),if_pos hc,e]
 ·rw[if_neg (by omega),if_neg (by omega),if_neg (by omega),if_neg hc]
theorem qev(h:224<=b0/\b0<240)(h1:b1<256)(h2:b2<256):Lib.decodeN n b0 b1 b2 b3=
  if 3<=n/\(128<=b1/\b1<=191)/\(128<=b2/\b2<=191)/\2048<=((b0-224)*64+(b1-128))*64+(b2-128)/\(((b0-224)*64+(b1-128))*64+(b2-128)<55296\/57344<=((b0-224)*64+(b1-128))*64+(b2-128))
  then(((b0-224)*64+(b1-128))*64+(b2-128),3)else(65533,1):=by
 unfold Lib.decodeN
 rw[if_neg (by omega),if_neg (by omega)]
 by_cases hc:3<=n/\(128<=b1/\b1<=191)/\(128<=b2/\b2<=191)
 ·rw[if_pos (by omega)]
  have e:b0 % 16*4096+b1 % 64*64+b2 % 64=((b0-224)*64+(b1-128))*64+(b2-128):=by omega
  rw[e]
  split <;> rename_i hx
  ·rw[if_pos (by omega)]
  ·rw[if_neg (by omega)]
 ·rw[if_neg (by omega),if_neg (by omega),if_neg (by omega)]
theorem qew(h:240<=b0/\b0<245)(h1:b1<256)(h2:b2<256)(h3:b3<256):Lib.decodeN n b0 b1 b2 b3=
  if 4<=n/\(128<=b1/\b1<=191)/\(128<=b2/\b2<=191)/\(128<=b3/\b3<=191)/\65536<=(((b0-240)*64+(b1-128))*64+(b2-128))*64+(b3-128)/\(((b0-240)*64+(b1-128))*64+(b2-128))*64+(b3-128)<=1114111
  then((((b0-240)*64+(b1-128))*64+(b2-128))*64+(b3-128),4)else(65533,1):=by
 unfold Lib.decodeN
 rw[if_neg (by omega),if_neg (by omega),if_neg (by omega)]
 by_cases hc:4<=n/\(128<=b1/\b1<=191)/\(128<=b2/\b2<=191)/\(128<=b3/\b3<=191)
 ·rw[if_pos (by omega)]
  have e:b0 % 8*262144+b1 % 64*4096+b2 % 64*64+b3 % 64=(((b0-240)*64+(b1-128))*64+(b2-128))*64+(b3-128):=by omega
  rw[e]
  split <;> rename_i hx
  ·rw[if_pos (by omega)]
  ·rw[if_neg (by omega)]
 ·rw[if_neg (by omega),if_neg (by omega)]
end
end Go.X
end
section
namespace Go.X
open Go Go.Proofs Go.Shelf Go.RowKit
section
theorem LF{α : Type}{x y : α}{o : Option α}(h : o = some x)(e : x = y := by kernel_rfl): o = some y := h.trans (congrArg some e)
def zml:Go.Shelf.Ren:=⟨fun|161=>76|231=>142|227=>143|233=>144|235=>145|228=>214|197=>151|151=>215|260=>218|152=>269|137=>212|119=>300|224=>301|225=>302|217=>268|266=>299|n=>n,fun|9=>9|4=>4|3=>3|5=>5|117=>170|116=>169|0=>0|124=>173|105=>174|21=>21|119=>230|46=>177|139=>233|138=>232|n=>n,fun|3=>0|4=>1|n=>n⟩
theorem zyu:Go.Proofs.Lays.n161 Tp zml:={
 mixed:=by kernel_rfl
 f119:=LF Tryz.func300
 f137:=LF Eg
 f151:=LF Tryz.func215
 f152:=LF Tryz.func269
 f161:=LF Tryz.func76
 f197:=LF Tryz.func151
 f217:=LF Tryz.func268
 f224:=LF Tryz.func301
 f225:=LF Tryz.func302
 f227:=LF Tryz.func143
 f228:=LF Tryz.func214
 f231:=LF Tryz.func142
 f233:=LF Tryz.func144
 f235:=LF Tryz.func145
 f260:=LF Tryz.func218
 f266:=LF Tryz.func299
 t0:=Cw
 a0:=Di
 z0:=C9
 v0:=CE
 t3:=BZ
 a3:=CJ
 z3:=Cy
 v3:=Cg
 t4:=B6
 a4:=CQ
 z4:=CF
 v4:=Co
 t5:=BU
 a5:=CK
 z5:=Cz
 v5:=Ci
 t9:=BM
 a9:=CL
 z9:=CB
 v9:=Cj
 t21:=C6
 a21:=DV
 z21:=DF
 v21:=Dd
 t46:=Tryz.underlying177
 a46:=Tryz.isAgg177
 z46:=Tryz.sizeOf177
 v46:=Tryz.zeroValue177
 t105:=Tryz.underlying174
 a105:=Tryz.isAgg174
 z105:=Tryz.sizeOf174
 v105:=Tryz.zeroValue174
 t116:=Tryz.underlying169
 a116:=Tryz.isAgg169
 z116:=Tryz.sizeOf169
 t117:=Tryz.underlying170
 a117:=Tryz.isAgg170
 z117:=Tryz.sizeOf170
 v117:=Tryz.zeroValue170
 t119:=Tryz.underlying230
 a119:=Tryz.isAgg230
 z119:=Tryz.sizeOf230
 t124:=Tryz.underlying173
 a124:=Tryz.isAgg173
 z124:=Tryz.sizeOf173
 v124:=Tryz.zeroValue173
 t138:=Tryz.underlying232
 a138:=Tryz.isAgg232
 z138:=Tryz.sizeOf232
 v138:=Tryz.zeroValue232
 t139:=Tryz.underlying233
 a139:=Tryz.isAgg233
 z139:=Tryz.sizeOf233
 v139:=Tryz.zeroValue233
 g3:=by kernel_rfl
 g4:=by kernel_rfl }
theorem zbq(s:Bt)(c:UInt8)(hc:c.toNat<128)(w:World):
  Calls Tp 76 #[.string s,.string ⟨#[c]⟩] w λe w'=>e=.returned (.string ⟨(Lib.trimLeftB s.data.toList c).toArray⟩)/\w'=w:=Any.strings_TrimLeft_one zyu s c hc w
def zmm:Go.Shelf.Ren:=⟨fun|162=>77|232=>146|227=>143|234=>147|236=>148|228=>214|271=>216|151=>215|120=>270|197=>151|152=>269|260=>218|137=>212|119=>300|224=>301|225=>302|217=>268|266=>299|n=>n,fun|9=>9|4=>4|3=>3|5=>5|117=>170|116=>169|0=>0|124=>173|21=>21|105=>174|46=>177|119=>230|139=>233|138=>232|n=>n,fun|3=>0|4=>1|n=>n⟩
theorem zyv:Go.Proofs.Lays.n162 Tp zmm:={
 mixed:=by kernel_rfl
 f119:=LF Tryz.func300
 f120:=LF Tryz.func270
 f137:=LF Eg
 f151:=LF Tryz.func215
 f152:=LF Tryz.func269
 f162:=LF Tryz.func77
 f197:=LF Tryz.func151
 f217:=LF Tryz.func268
 f224:=LF Tryz.func301
 f225:=LF Tryz.func302
 f227:=LF Tryz.func143
 f228:=LF Tryz.func214
 f232:=LF Tryz.func146
 f234:=LF Tryz.func147
 f236:=LF Tryz.func148
 f260:=LF Tryz.func218
 f266:=LF Tryz.func299
 f271:=LF Tryz.func216
 t0:=Cw
 a0:=Di
 z0:=C9
 v0:=CE
 t3:=BZ
 a3:=CJ
 z3:=Cy
 v3:=Cg
 t4:=B6
 a4:=CQ
 z4:=CF
 v4:=Co
 t5:=BU
 a5:=CK
 z5:=Cz
 v5:=Ci
 t9:=BM
 a9:=CL
 z9:=CB
 v9:=Cj
 t21:=C6
 a21:=DV
 z21:=DF
 v21:=Dd
 t46:=Tryz.underlying177
 a46:=Tryz.isAgg177
 z46:=Tryz.sizeOf177
 v46:=Tryz.zeroValue177
 t105:=Tryz.underlying174
 a105:=Tryz.isAgg174
 z105:=Tryz.sizeOf174
 v105:=Tryz.zeroValue174
 t116:=Tryz.underlying169
 a116:=Tryz.isAgg169
 z116:=Tryz.sizeOf169
 t117:=Tryz.underlying170
 a117:=Tryz.isAgg170
 z117:=Tryz.sizeOf170
 v117:=Tryz.zeroValue170
 t119:=Tryz.underlying230
 a119:=Tryz.isAgg230
 z119:=Tryz.sizeOf230
 t124:=Tryz.underlying173
 a124:=Tryz.isAgg173
 z124:=Tryz.sizeOf173
 v124:=Tryz.zeroValue173
 t138:=Tryz.underlying232
 a138:=Tryz.isAgg232
 z138:=Tryz.sizeOf232
 v138:=Tryz.zeroValue232
 t139:=Tryz.underlying233
 a139:=Tryz.isAgg233
 z139:=Tryz.sizeOf233
 v139:=Tryz.zeroValue233
 g3:=by kernel_rfl
 g4:=by kernel_rfl }
theorem zbe(s:Bt)(c:UInt8)(hc:c.toNat<128)(w:World)(hs:s.size<=9223372036854775807):
  Calls Tp 77 #[.string s,.string ⟨#[c]⟩] w λe w'=>e=.returned (.string ⟨(Lib.trimRightB s.data.toList c).toArray⟩)/\w'=w:=Any.strings_TrimRight_one zyv s c hc w hs
def zmn:Go.Shelf.Ren:=⟨fun|137=>212|217=>268|266=>299|n=>n,fun|9=>9|5=>5|3=>3|n=>n,fun|n=>n⟩
theorem zyw:Go.Proofs.Lays.n137 Tp zmn:={
 mixed:=by kernel_rfl
 f137:=LF Eg
 f217:=LF Tryz.func268
 f266:=LF Tryz.func299
 t3:=BZ
 a3:=CJ
 z3:=Cy
 v3:=Cg
 t5:=BU
 a5:=CK
 z5:=Cz
 v5:=Ci
 t9:=BM
 a9:=CL
 z9:=CB
 v9:=Cj }
theorem Ya(s:Bt)(c:Int)(w:World):
  Calls Tp 212 #[.string s,.int .u8 c] w λe w'=>e=.returned (.int .i64 (Lib.indexByte s.data.toList c.toNat.toUInt8))/\w'=w:=Any.strings_IndexByte zyw s c w
def zmo:Go.Shelf.Ren:=⟨fun|103=>138|210=>211|206=>227|n=>n,fun|9=>9|4=>4|24=>163|3=>3|n=>n,fun|n=>n⟩
theorem zyx:Go.Proofs.Lays.n103 Tp zmo:={
 mixed:=by kernel_rfl
 f103:=LF Tryz.func138
 f206:=LF Tryz.func227
 f210:=LF Tryz.func211
 t3:=BZ
 a3:=CJ
 z3:=Cy
 v3:=Cg
 t4:=B6
 a4:=CQ
 z4:=CF
 v4:=Co
 t9:=BM
 a9:=CL
 z9:=CB
 v9:=Cj
 t24:=Tryz.underlying163
 a24:=Tryz.isAgg163
 z24:=Tryz.sizeOf163
 v24:=Tryz.zeroValue163 }
theorem zd5(s p:Bt)(w:World):
  Calls Tp 138 #[.string s,.string p] w λe w'=>e=.returned (.tuple #[.string ⟨(Lib.trimPrefix s.data.toList p.data.toList).toArray⟩,.bool (Lib.hasPrefix s.data.toList p.data.toList)])/\w'=w:=Any.strings_CutPrefix zyx s p w
def zmp:Go.Shelf.Ren:=⟨fun|242=>153|278=>220|n=>n,fun|37=>110|21=>21|51=>236|4=>4|5=>5|46=>177|n=>n,fun|n=>n⟩
theorem zyy:Go.Proofs.Lays.n242 Tp zmp:={
 mixed:=by kernel_rfl
 f242:=LF Tryz.func153
 f278:=LF Tryz.func220
 t4:=B6
 a4:=CQ
 z4:=CF
 v4:=Co
 t5:=BU
 a5:=CK
 z5:=Cz
 v5:=Ci
 t21:=C6
 a21:=DV
 z21:=DF
 v21:=Dd
 t37:=Tryz.underlying110
 a37:=Tryz.isAgg110
 z37:=Tryz.sizeOf110
 v37:=Tryz.zeroValue110
 t46:=Tryz.underlying177
 a46:=Tryz.isAgg177
 z46:=Tryz.sizeOf177
 v46:=Tryz.zeroValue177
 t51:=Tryz.underlying236
 a51:=Tryz.isAgg236
 z51:=Tryz.sizeOf236
 v51:=Tryz.zeroValue236 }
theorem zbf(B:Nat)(v:Value)(n:Nat)(xs:List Value)(r:Int)(af:-2147483648<=r)(ae:r<=2147483647)(w:World)(aa:w.ownsRow B 5 1 v n xs)(Z:n+4<=140737488355328)(ab:B<=w.heap.size):
  Calls Tp 153 #[v,.int .i32 r] w λe w'=>∃v',e=.returned v'/\w'.ownsRow B 5 1 v' (n+(Lib.runeCells r).length) (xs++Lib.runeCells r)/\∃o,(w.alloc o).grownBy w' v.ownBlock:=Any.utf8_AppendRune_plain zyy (by kernel_rfl) B v n xs r af ae w aa Z ab
def zjy:Go.Shelf.Ren:=⟨fun|171=>79|243=>149|246=>154|283=>221|284=>222|285=>223|286=>224|129=>252|317=>271|318=>272|319=>273|320=>274|337=>303|338=>304|n=>n,fun|3=>3|9=>9|2=>2|4=>4|171=>237|0=>0|53=>238|37=>110|5=>5|173=>241|212=>273|51=>236|20=>20|213=>274|46=>177|232=>306|233=>307|n=>n,fun|17=>2|18=>6|19=>7|n=>n⟩
theorem zv7:Go.Proofs.LaysM.n171 Tp zjy:={
 mixed:=by kernel_rfl
 f129:=LF Tryz.func252
 f171:=LF Tryz.func79
 f243:=LF Tryz.func149
 f246:=LF Tryz.func154
 f283:=LF Tryz.func221
 f284:=LF Tryz.func222
 f285:=LF Tryz.func223
 f286:=LF Tryz.func224
 f317:=LF Tryz.func271
 f318:=LF Tryz.func272
 f319:=LF Tryz.func273
 f320:=LF Tryz.func274
 f337:=LF Tryz.func303
 f338:=LF Tryz.func304
 t0:=Cw
 a0:=Di
 z0:=C9
 v0:=CE
 t2:=Tryz.underlying2
 a2:=Tryz.isAgg2
 z2:=Tryz.sizeOf2
 v2:=Tryz.zeroValue2
 t3:=BZ
 a3:=CJ
 z3:=Cy
 v3:=Cg
 t4:=B6
 a4:=CQ
 z4:=CF
 v4:=Co
 t5:=BU
 a5:=CK
 z5:=Cz
 v5:=Ci
 t9:=BM
 a9:=CL
 z9:=CB
 v9:=Cj
 t20:=Tryz.underlying20
 a20:=Tryz.isAgg20
 z20:=Tryz.sizeOf20
 v20:=Tryz.zeroValue20
 t37:=Tryz.underlying110
 a37:=Tryz.isAgg110
 z37:=Tryz.sizeOf110
 v37:=Tryz.zeroValue110
 t46:=Tryz.underlying177
 a46:=Tryz.isAgg177
 z46:=Tryz.sizeOf177
 v46:=Tryz.zeroValue177
 t51:=Tryz.underlying236
 a51:=Tryz.isAgg236
 z51:=Tryz.sizeOf236
 v51:=Tryz.zeroValue236
 t53:=Tryz.underlying238
 a53:=Tryz.isAgg238
 z53:=Tryz.sizeOf238
 v53:=Tryz.zeroValue238
 t171:=Tryz.underlying237
 a171:=Tryz.isAgg237
 z171:=Tryz.sizeOf237
 v171:=Tryz.zeroValue237
 t173:=Tryz.underlying241
 a173:=Tryz.isAgg241
 z173:=Tryz.sizeOf241
 v173:=Tryz.zeroValue241
 t212:=Tryz.underlying273
 a212:=Tryz.isAgg273
 z212:=Tryz.sizeOf273
 v212:=Tryz.zeroValue273
 t213:=Tryz.underlying274
 a213:=Tryz.isAgg274
 z213:=Tryz.sizeOf274
 t232:=Tryz.underlying306
 a232:=Tryz.isAgg306
 z232:=Tryz.sizeOf306
 v232:=Tryz.zeroValue306
 t233:=Tryz.underlying307
 a233:=Tryz.isAgg307
 z233:=Tryz.sizeOf307
 v233:=Tryz.zeroValue307
 g17:=by kernel_rfl
 g18:=by kernel_rfl
 g19:=by kernel_rfl
 i0:=by kernel_rfl
 i2:=by kernel_rfl
 i3:=by kernel_rfl
 i4:=by kernel_rfl
 i5:=by kernel_rfl
 i9:=by kernel_rfl
 i20:=by kernel_rfl
 i37:=by kernel_rfl
 i46:=by kernel_rfl
 i51:=by kernel_rfl
 i53:=by kernel_rfl
 i171:=by kernel_rfl
 i173:=by kernel_rfl
 i212:=by kernel_rfl
 i232:=by kernel_rfl
 i233:=by kernel_rfl
 m17:=by kernel_rfl
 m18:=by kernel_rfl
 m19:=by kernel_rfl }
open Go.RowKit Go.Sort Go.Lib in
theorem zjz(n : Int)(h0 : -9223372036854775808 ≤ n)(h1 : n ≤ 9223372036854775807)(w : World)(htab : Lib.TabIs Tp w "internal/strconv.uint64pow10" .u64 Lib.pow10Tab):
  Calls Tp 79 #[.int .i64 n] w λe w'=>e=.returned (.string ⟨(Lib.itoa n).toArray⟩)/\∃k os,w'=grow (w.drewN k) os:=Any.strconv_Itoa zv7 n h0 h1 w htab
def zj0:Go.Shelf.Ren:=⟨fun|245=>267|279=>295|280=>296|281=>297|282=>298|316=>317|171=>79|205=>318|243=>149|246=>154|283=>221|284=>222|285=>223|286=>224|129=>252|317=>271|318=>272|319=>273|320=>274|337=>303|338=>304|n=>n,fun|9=>9|3=>3|75=>114|167=>287|4=>4|168=>288|210=>304|37=>110|0=>0|127=>181|145=>315|143=>313|2=>2|171=>237|53=>238|5=>5|173=>241|212=>273|51=>236|20=>20|213=>274|46=>177|232=>306|233=>307|80=>122|n=>n,fun|15=>4|16=>5|17=>2|18=>6|19=>7|n=>n⟩
theorem zv8:Go.Proofs.LaysC.n245 Tp zj0:={
 mixed:=by kernel_rfl
 f129:=LF Tryz.func252
 f171:=LF Tryz.func79
 f205:=LF Tryz.func318
 f243:=LF Tryz.func149
 f245:=LF Tryz.func267
 f246:=LF Tryz.func154
 f279:=LF Tryz.func295
 f280:=LF Tryz.func296
 f281:=LF Tryz.func297
 f282:=LF Tryz.func298
 f283:=LF Tryz.func221
 f284:=LF Tryz.func222
 f285:=LF Tryz.func223
 f286:=LF Tryz.func224
 f316:=LF Tryz.func317
 f317:=LF Tryz.func271
 f318:=LF Tryz.func272
 f319:=LF Tryz.func273
 f320:=LF Tryz.func274
 f337:=LF Tryz.func303
 f338:=LF Tryz.func304
 t0:=Cw
 a0:=Di
 z0:=C9
 v0:=CE
 t2:=Tryz.underlying2
 a2:=Tryz.isAgg2
 z2:=Tryz.sizeOf2
 v2:=Tryz.zeroValue2
 t3:=BZ
 a3:=CJ
 z3:=Cy
 v3:=Cg
 t4:=B6
 a4:=CQ
 z4:=CF
 v4:=Co
 t5:=BU
 a5:=CK
 z5:=Cz
 v5:=Ci
 t9:=BM
 a9:=CL
 z9:=CB
 v9:=Cj
 t20:=Tryz.underlying20
 a20:=Tryz.isAgg20
 z20:=Tryz.sizeOf20
 v20:=Tryz.zeroValue20
 t37:=Tryz.underlying110
 a37:=Tryz.isAgg110
 z37:=Tryz.sizeOf110
 v37:=Tryz.zeroValue110
 t46:=Tryz.underlying177
 a46:=Tryz.isAgg177
 z46:=Tryz.sizeOf177
 v46:=Tryz.zeroValue177
 t51:=Tryz.underlying236
 a51:=Tryz.isAgg236
 z51:=Tryz.sizeOf236
 v51:=Tryz.zeroValue236
 t53:=Tryz.underlying238
 a53:=Tryz.isAgg238
 z53:=Tryz.sizeOf238
 v53:=Tryz.zeroValue238
 t75:=Tryz.underlying114
 a75:=Tryz.isAgg114
 z75:=Tryz.sizeOf114
 v75:=Tryz.zeroValue114
 t127:=Tryz.underlying181
 a127:=Tryz.isAgg181
 z127:=Tryz.sizeOf181
 v127:=Tryz.zeroValue181
 t143:=Tryz.underlying313
 a143:=Tryz.isAgg313
 z143:=Tryz.sizeOf313
 v143:=Tryz.zeroValue313
 t145:=Tryz.underlying315
 a145:=Tryz.isAgg315
 z145:=Tryz.sizeOf315
 v145:=Tryz.zeroValue315
 t167:=Tryz.underlying287
 a167:=Tryz.isAgg287
 z167:=Tryz.sizeOf287
 v167:=Tryz.zeroValue287
 t168:=Tryz.underlying288
 a168:=Tryz.isAgg288
 z168:=Tryz.sizeOf288
 v168:=Tryz.zeroValue288
 t171:=Tryz.underlying237
 a171:=Tryz.isAgg237
 z171:=Tryz.sizeOf237
 v171:=Tryz.zeroValue237
 t173:=Tryz.underlying241
 a173:=Tryz.isAgg241
 z173:=Tryz.sizeOf241
 v173:=Tryz.zeroValue241
 t210:=Tryz.underlying304
 a210:=Tryz.isAgg304
 z210:=Tryz.sizeOf304
 v210:=Tryz.zeroValue304
 t212:=Tryz.underlying273
 a212:=Tryz.isAgg273
 z212:=Tryz.sizeOf273
 v212:=Tryz.zeroValue273
 t213:=Tryz.underlying274
 a213:=Tryz.isAgg274
 z213:=Tryz.sizeOf274
 t232:=Tryz.underlying306
 a232:=Tryz.isAgg306
 z232:=Tryz.sizeOf306
 v232:=Tryz.zeroValue306
 t233:=Tryz.underlying307
 a233:=Tryz.isAgg307
 z233:=Tryz.sizeOf307
 v233:=Tryz.zeroValue307
 g15:=by kernel_rfl
 g16:=by kernel_rfl
 g17:=by kernel_rfl
 g18:=by kernel_rfl
 g19:=by kernel_rfl
 t80:=Tryz.underlying122
 a80:=Tryz.isAgg122
 z80:=Tryz.sizeOf122
 v80:=Tryz.zeroValue122
 i0:=by kernel_rfl
 i2:=by kernel_rfl
 i3:=by kernel_rfl
 i4:=by kernel_rfl
 i5:=by kernel_rfl
 i9:=by kernel_rfl
 i20:=by kernel_rfl
 i37:=by kernel_rfl
 i46:=by kernel_rfl
 i51:=by kernel_rfl
 i53:=by kernel_rfl
 i75:=by kernel_rfl
 i80:=by kernel_rfl
 i127:=by kernel_rfl
 i143:=by kernel_rfl
 i145:=by kernel_rfl
 i167:=by kernel_rfl
 i168:=by kernel_rfl
 i171:=by kernel_rfl
 i173:=by kernel_rfl
 i210:=by kernel_rfl
 i212:=by kernel_rfl
 i232:=by kernel_rfl
 i233:=by kernel_rfl
 m15:=by kernel_rfl
 m16:=by kernel_rfl
 m17:=by kernel_rfl
 m18:=by kernel_rfl
 m19:=by kernel_rfl
 c0:=by kernel_rfl
 c2:=by kernel_rfl
 c3:=by kernel_rfl
 c4:=by kernel_rfl
 c5:=by kernel_rfl
 c9:=by kernel_rfl
 c20:=by kernel_rfl
 c37:=by kernel_rfl
 c46:=by kernel_rfl
 c51:=by kernel_rfl
 c53:=by kernel_rfl
 c75:=by kernel_rfl
 c80:=by kernel_rfl
 c127:=by kernel_rfl
 c143:=by kernel_rfl
 c145:=by kernel_rfl
 c167:=by kernel_rfl
 c168:=by kernel_rfl
 c171:=by kernel_rfl
 c173:=by kernel_rfl
 c210:=by kernel_rfl
 c212:=by kernel_rfl
 c213:=by kernel_rfl
 c232:=by kernel_rfl
 c233:=by kernel_rfl }
theorem zah(fn s:Bt)(base Z:Int)(ev:Value)(w:World)(aa:s.size<=281474976710656)(hv:w.cell? ⟨4,0,none⟩=some ev)(ab:ev=.nilIface\/∃te pe,ev=.iface te pe):
  Calls Tp 267 #[.string fn,.string s,.int .i64 base,.int .i64 Z,.iface 287 (.int .i64 2)] w λe w'=>∃N,e=.returned (.iface 288 (.pointer (some ⟨N,0,none⟩)))/\w.heap.size<=N/\w'.heap[N]?=some (.cells #[.string fn,.string s,ev] 304 (0,0))/\Below w.heap.size w w':=Any.strconv_toError_syntax zv8 fn s base Z ev w aa hv ab
def zj1:Go.Shelf.Ren:=⟨fun|172=>210|244=>266|245=>267|247=>294|279=>295|280=>296|281=>297|282=>298|287=>316|316=>317|171=>79|205=>318|321=>325|322=>326|243=>149|246=>154|283=>221|284=>222|285=>223|286=>224|129=>252|317=>271|318=>272|319=>273|320=>274|337=>303|338=>304|n=>n,fun|9=>9|3=>3|75=>114|76=>117|4=>4|5=>5|167=>287|37=>110|0=>0|85=>277|2=>2|168=>288|53=>238|175=>300|46=>177|210=>304|127=>181|145=>315|143=>313|21=>21|171=>237|173=>241|212=>273|51=>236|20=>20|213=>274|232=>306|233=>307|80=>122|n=>n,fun|15=>4|16=>5|17=>2|18=>6|19=>7|n=>n⟩
theorem zgu:Go.Proofs.LaysC.n172 Tp zj1:={
 mixed:=by kernel_rfl
 f129:=LF Tryz.func252
 f171:=LF Tryz.func79
 f172:=LF Tryz.func210
 f205:=LF Tryz.func318
 f243:=LF Tryz.func149
 f244:=LF Tryz.func266
 f245:=LF Tryz.func267
 f246:=LF Tryz.func154
 f247:=LF Tryz.func294
 f279:=LF Tryz.func295
 f280:=LF Tryz.func296
 f281:=LF Tryz.func297
 f282:=LF Tryz.func298
 f283:=LF Tryz.func221
 f284:=LF Tryz.func222
 f285:=LF Tryz.func223
 f286:=LF Tryz.func224
 f287:=LF Tryz.func316
 f316:=LF Tryz.func317
 f317:=LF Tryz.func271
 f318:=LF Tryz.func272
 f319:=LF Tryz.func273
 f320:=LF Tryz.func274
 f321:=LF Tryz.func325
 f322:=LF Tryz.func326
 f337:=LF Tryz.func303
 f338:=LF Tryz.func304
 t0:=Cw
 a0:=Di
 z0:=C9
 v0:=CE
 t2:=Tryz.underlying2
 a2:=Tryz.isAgg2
 z2:=Tryz.sizeOf2
 v2:=Tryz.zeroValue2
 t3:=BZ
 a3:=CJ
 z3:=Cy
 v3:=Cg
 t4:=B6
 a4:=CQ
 z4:=CF
 v4:=Co
 t5:=BU
 a5:=CK
 z5:=Cz
 v5:=Ci
 t9:=BM
 a9:=CL
 z9:=CB
 v9:=Cj
 t20:=Tryz.underlying20
 a20:=Tryz.isAgg20
 z20:=Tryz.sizeOf20
 v20:=Tryz.zeroValue20
 t21:=C6
 a21:=DV
 z21:=DF
 v21:=Dd
 t37:=Tryz.underlying110
 a37:=Tryz.isAgg110
 z37:=Tryz.sizeOf110
 v37:=Tryz.zeroValue110
 t46:=Tryz.underlying177
 a46:=Tryz.isAgg177
 z46:=Tryz.sizeOf177
 v46:=Tryz.zeroValue177
 t51:=Tryz.underlying236
 a51:=Tryz.isAgg236
 z51:=Tryz.sizeOf236
 v51:=Tryz.zeroValue236
 t53:=Tryz.underlying238
 a53:=Tryz.isAgg238
 z53:=Tryz.sizeOf238
 v53:=Tryz.zeroValue238
 t75:=Tryz.underlying114
 a75:=Tryz.isAgg114
 z75:=Tryz.sizeOf114
 v75:=Tryz.zeroValue114
 t76:=Tryz.underlying117
 a76:=Tryz.isAgg117
 z76:=Tryz.sizeOf117
 v76:=Tryz.zeroValue117
 t85:=Tryz.underlying277
 a85:=Tryz.isAgg277
 z85:=Tryz.sizeOf277
 v85:=Tryz.zeroValue277
 t127:=Tryz.underlying181
 a127:=Tryz.isAgg181
 z127:=Tryz.sizeOf181
 v127:=Tryz.zeroValue181
 t143:=Tryz.underlying313
 a143:=Tryz.isAgg313
 z143:=Tryz.sizeOf313
 v143:=Tryz.zeroValue313
 t145:=Tryz.underlying315
 a145:=Tryz.isAgg315
 z145:=Tryz.sizeOf315
 v145:=Tryz.zeroValue315
 t167:=Tryz.underlying287
 a167:=Tryz.isAgg287
 z167:=Tryz.sizeOf287
 v167:=Tryz.zeroValue287
 t168:=Tryz.underlying288
 a168:=Tryz.isAgg288
 z168:=Tryz.sizeOf288
 v168:=Tryz.zeroValue288
 t171:=Tryz.underlying237
 a171:=Tryz.isAgg237
 z171:=Tryz.sizeOf237
 v171:=Tryz.zeroValue237
 t173:=Tryz.underlying241
 a173:=Tryz.isAgg241
 z173:=Tryz.sizeOf241
 v173:=Tryz.zeroValue241
 t175:=Tryz.underlying300
 a175:=Tryz.isAgg300
 z175:=Tryz.sizeOf300
 v175:=Tryz.zeroValue300
 t210:=Tryz.underlying304
 a210:=Tryz.isAgg304
 z210:=Tryz.sizeOf304
 v210:=Tryz.zeroValue304
 t212:=Tryz.underlying273
 a212:=Tryz.isAgg273
 z212:=Tryz.sizeOf273
 v212:=Tryz.zeroValue273
 t213:=Tryz.underlying274
 a213:=Tryz.isAgg274
 z213:=Tryz.sizeOf274
 t232:=Tryz.underlying306
 a232:=Tryz.isAgg306
 z232:=Tryz.sizeOf306
 v232:=Tryz.zeroValue306
 t233:=Tryz.underlying307
 a233:=Tryz.isAgg307
 z233:=Tryz.sizeOf307
 v233:=Tryz.zeroValue307
 g15:=by kernel_rfl
 g16:=by kernel_rfl
 g17:=by kernel_rfl
 g18:=by kernel_rfl
 g19:=by kernel_rfl
 t80:=Tryz.underlying122
 a80:=Tryz.isAgg122
 z80:=Tryz.sizeOf122
 v80:=Tryz.zeroValue122
 i0:=by kernel_rfl
 i2:=by kernel_rfl
 i3:=by kernel_rfl
 i4:=by kernel_rfl
 i5:=by kernel_rfl
 i9:=by kernel_rfl
 i20:=by kernel_rfl
 i21:=by kernel_rfl
 i37:=by kernel_rfl
 i46:=by kernel_rfl
 i51:=by kernel_rfl
 i53:=by kernel_rfl
 i75:=by kernel_rfl
 i76:=by kernel_rfl
 i80:=by kernel_rfl
 i85:=by kernel_rfl
 i127:=by kernel_rfl
 i143:=by kernel_rfl
 i145:=by kernel_rfl
 i167:=by kernel_rfl
 i168:=by kernel_rfl
 i171:=by kernel_rfl
 i173:=by kernel_rfl
 i175:=by kernel_rfl
 i210:=by kernel_rfl
 i212:=by kernel_rfl
 i232:=by kernel_rfl
 i233:=by kernel_rfl
 m15:=by kernel_rfl
 m16:=by kernel_rfl
 m17:=by kernel_rfl
 m18:=by kernel_rfl
 m19:=by kernel_rfl
 c0:=by kernel_rfl
 c2:=by kernel_rfl
 c3:=by kernel_rfl
 c4:=by kernel_rfl
 c5:=by kernel_rfl
 c9:=by kernel_rfl
 c20:=by kernel_rfl
 c21:=by kernel_rfl
 c37:=by kernel_rfl
 c46:=by kernel_rfl
 c51:=by kernel_rfl
 c53:=by kernel_rfl
 c75:=by kernel_rfl
 c76:=by kernel_rfl
 c80:=by kernel_rfl
 c85:=by kernel_rfl
 c127:=by kernel_rfl
 c143:=by kernel_rfl
 c145:=by kernel_rfl
 c167:=by kernel_rfl
 c168:=by kernel_rfl
 c171:=by kernel_rfl
 c173:=by kernel_rfl
 c175:=by kernel_rfl
 c210:=by kernel_rfl
 c212:=by kernel_rfl
 c213:=by kernel_rfl
 c232:=by kernel_rfl
 c233:=by kernel_rfl }
def zmq:Go.Shelf.Ren:=⟨fun|321=>325|n=>n,fun|5=>5|n=>n,fun|n=>n⟩
theorem zyz:Go.Proofs.Lays.n321 Tp zmq:={
 mixed:=by kernel_rfl
 f321:=LF Tryz.func325
 t5:=BU
 a5:=CK
 z5:=Cz
 v5:=Ci }
theorem zai(c:Int)(w:World):
  Calls Tp 325 #[.int .u8 c] w λe w'=>e=.returned (.int .u8 (bits .or .u8 c 32))/\w'=w:=Any.internal_strconv_lower zyz c w
theorem zgv(s:Bt)(Z:s.size<=9223372036854775806)(v:Int)(h:Lib.atoiAll s.data.toList=.ok v)(w:World):
  Calls Tp 210 #[.string s] w λe w'=>e=.returned (.tuple #[.int .i64 v,.nilIface])/\(w'=w\/∃t,w'=Lib.bytesWorld w 5 t):=Any.strconv_Atoi_ok zgu s Z v h w
theorem zcg(s:Bt)(Z:s.size<=281474976710656)(h:Lib.atoiAll s.data.toList=Lib.atoiAll [])(ev:Value)(w:World)(hv:w.cell? ⟨4,0,none⟩=some ev)(aa:ev=.nilIface\/∃te pe,ev=.iface te pe):
  Calls Tp 210 #[.string s] w λe w'=>∃N,e=.returned (.tuple #[.int .i64 (0),.iface 288 (.pointer (some ⟨N,0,none⟩))])/\w.heap.size<=N/\w'.heap[N]?=some (.cells #[.string ⟨#[65,116,111,105]⟩,.string s,ev] 304 (0,0))/\Below w.heap.size w w':=Any.strconv_Atoi_syntax zgu s Z h ev w hv aa
theorem zc7(s:Bt)(Z:s.size<=281474976710656)(h:Lib.atoiAll s.data.toList=.range)(ev:Value)(w:World)(hv:w.cell? ⟨5,0,none⟩=some ev)(aa:ev=.nilIface\/∃te pe,ev=.iface te pe):
  Calls Tp 210 #[.string s] w λe w'=>∃N,e=.returned (.tuple #[.int .i64 (Lib.atoiSat s.data.toList),.iface 288 (.pointer (some ⟨N,0,none⟩))])/\w.heap.size<=N/\w'.heap[N]?=some (.cells #[.string ⟨#[65,116,111,105]⟩,.string s,ev] 304 (0,0))/\Below w.heap.size w w':=Any.strconv_Atoi_range zgu s Z h ev w hv aa
def zo7:Go.Shelf.Ren:=⟨fun|99=>156|206=>227|n=>n,fun|9=>9|4=>4|3=>3|n=>n,fun|n=>n⟩
theorem z2l:Go.Proofs.Lays.n99 Tp zo7:={
 mixed:=by kernel_rfl
 f99:=LF Tryz.func156
 f206:=LF Tryz.func227
 t3:=BZ
 a3:=CJ
 z3:=Cy
 v3:=Cg
 t4:=B6
 a4:=CQ
 z4:=CF
 v4:=Co
 t9:=BM
 a9:=CL
 z9:=CB
 v9:=Cj }
open Go.RowKit Go.Lib in
theorem zd6(s p:Bt)(w:World):
  Calls Tp 156 #[.string s,.string p] w λe w'=>e=.returned (.bool (Lib.hasPrefix s.data.toList p.data.toList))/\w'=w:=Any.strings_HasPrefix z2l s p w
def zmr:Go.Shelf.Ren:=⟨fun|101=>140|208=>213|206=>227|n=>n,fun|9=>9|4=>4|3=>3|n=>n,fun|n=>n⟩
theorem zy0:Go.Proofs.Lays.n101 Tp zmr:={
 mixed:=by kernel_rfl
 f101:=LF Tryz.func140
 f206:=LF Tryz.func227
 f208:=LF Tryz.func213
 t3:=BZ
 a3:=CJ
 z3:=Cy
 v3:=Cg
 t4:=B6
 a4:=CQ
 z4:=CF
 v4:=Co
 t9:=BM
 a9:=CL
 z9:=CB
 v9:=Cj }
open Go.RowKit Go.Lib in
theorem zc8(s p:Bt)(w:World):
  Calls Tp 140 #[.string s,.string p] w λe w'=>e=.returned (.string ⟨(Lib.trimPrefix s.data.toList p.data.toList).toArray⟩)/\w'=w:=Any.strings_TrimPrefix zy0 s p w
def zms:Go.Shelf.Ren:=⟨fun|197=>151|260=>218|n=>n,fun|9=>9|21=>21|3=>3|4=>4|5=>5|105=>174|119=>230|0=>0|46=>177|139=>233|138=>232|n=>n,fun|3=>0|4=>1|n=>n⟩
theorem zy1:Go.Proofs.Lays.n197 Tp zms:={
 mixed:=by kernel_rfl
 f197:=LF Tryz.func151
 f260:=LF Tryz.func218
 t0:=Cw
 a0:=Di
 z0:=C9
 v0:=CE
 t3:=BZ
 a3:=CJ
 z3:=Cy
 v3:=Cg
 t4:=B6
 a4:=CQ
 z4:=CF
 v4:=Co
 t5:=BU
 a5:=CK
 z5:=Cz
 v5:=Ci
 t9:=BM
 a9:=CL
 z9:=CB
 v9:=Cj
 t21:=C6
 a21:=DV
 z21:=DF
 v21:=Dd
 t46:=Tryz.underlying177
 a46:=Tryz.isAgg177
 z46:=Tryz.sizeOf177
 v46:=Tryz.zeroValue177
 t105:=Tryz.underlying174
 a105:=Tryz.isAgg174
 z105:=Tryz.sizeOf174
 v105:=Tryz.zeroValue174
 t119:=Tryz.underlying230
 a119:=Tryz.isAgg230
 z119:=Tryz.sizeOf230
 t138:=Tryz.underlying232
 a138:=Tryz.isAgg232
 z138:=Tryz.sizeOf232
 v138:=Tryz.zeroValue232
 t139:=Tryz.underlying233
 a139:=Tryz.isAgg233
 z139:=Tryz.sizeOf233
 v139:=Tryz.zeroValue233
 g3:=by kernel_rfl
 g4:=by kernel_rfl }
def zmt:Go.Shelf.Ren:=⟨fun|150=>209|153=>265|152=>269|226=>293|227=>143|228=>214|137=>212|119=>300|224=>301|225=>302|217=>268|266=>299|n=>n,fun|9=>9|4=>4|3=>3|5=>5|21=>21|117=>170|116=>169|0=>0|46=>177|124=>173|n=>n,fun|n=>n⟩
theorem zy2:Go.Proofs.Lays.n150 Tp zmt:={
 mixed:=by kernel_rfl
 f119:=LF Tryz.func300
 f137:=LF Eg
 f150:=LF Tryz.func209
 f152:=LF Tryz.func269
 f153:=LF Tryz.func265
 f217:=LF Tryz.func268
 f224:=LF Tryz.func301
 f225:=LF Tryz.func302
 f226:=LF Tryz.func293
 f227:=LF Tryz.func143
 f228:=LF Tryz.func214
 f266:=LF Tryz.func299
 t0:=Cw
 a0:=Di
 z0:=C9
 v0:=CE
 t3:=BZ
 a3:=CJ
 z3:=Cy
 v3:=Cg
 t4:=B6
 a4:=CQ
 z4:=CF
 v4:=Co
 t5:=BU
 a5:=CK
 z5:=Cz
 v5:=Ci
 t9:=BM
 a9:=CL
 z9:=CB
 v9:=Cj
 t21:=C6
 a21:=DV
 z21:=DF
 v21:=Dd
 t46:=Tryz.underlying177
 a46:=Tryz.isAgg177
 z46:=Tryz.sizeOf177
 v46:=Tryz.zeroValue177
 t116:=Tryz.underlying169
 a116:=Tryz.isAgg169
 z116:=Tryz.sizeOf169
 t117:=Tryz.underlying170
 a117:=Tryz.isAgg170
 z117:=Tryz.sizeOf170
 v117:=Tryz.zeroValue170
 t124:=Tryz.underlying173
 a124:=Tryz.isAgg173
 z124:=Tryz.sizeOf173
 v124:=Tryz.zeroValue173 }
open Go.RowKit Go.Lib in
theorem Xo(s Z:Bt)(w:World)(hs:s.size<4294967281)(ab:Z.size<4294967281)(ae:∀(j:Nat) b,s.data.toList[j]?=some b->b.toNat<128)(aa:∀(j:Nat) b,Z.data.toList[j]?=some b->b.toNat<128):
  Calls Tp 209 #[.string s,.string Z] w λe w'=>e=.returned (.bool (Lib.containsAny s.data.toList Z.data.toList))/\Below w.heap.size w w':=Any.strings_ContainsAny_laid zy2 (by kernel_rfl) s Z w hs ab ae aa
def zfr:Go.Shelf.Ren:=⟨fun|105=>86|212=>155|99=>156|165=>157|166=>85|170=>158|169=>87|263=>225|264=>226|206=>227|240=>152|241=>228|276=>219|277=>275|n=>n,fun|9=>9|3=>3|4=>4|20=>20|0=>0|46=>177|109=>178|5=>5|72=>112|76=>117|51=>236|146=>243|53=>238|148=>245|70=>109|37=>110|75=>114|127=>181|164=>234|80=>122|n=>n,fun|n=>n⟩
theorem zy3:Go.Proofs.Lays.n105 Tp zfr:={
 mixed:=by kernel_rfl
 f99:=LF Tryz.func156
 f105:=LF Tryz.func86
 f165:=LF Tryz.func157
 f166:=LF Tryz.func85
 f169:=LF Tryz.func87
 f170:=LF Tryz.func158
 f206:=LF Tryz.func227
 f212:=LF Tryz.func155
 f240:=LF Tryz.func152
 f241:=LF Tryz.func228
 f263:=LF Tryz.func225
 f264:=LF Tryz.func226
 f276:=LF Tryz.func219
 f277:=LF Tryz.func275
 t0:=Cw
 a0:=Di
 z0:=C9
 v0:=CE
 t3:=BZ
 a3:=CJ
 z3:=Cy
 v3:=Cg
 t4:=B6
 a4:=CQ
 z4:=CF
 v4:=Co
 t5:=BU
 a5:=CK
 z5:=Cz
 v5:=Ci
 t9:=BM
 a9:=CL
 z9:=CB
 v9:=Cj
 t20:=Tryz.underlying20
 a20:=Tryz.isAgg20
 z20:=Tryz.sizeOf20
 v20:=Tryz.zeroValue20
 t37:=Tryz.underlying110
 a37:=Tryz.isAgg110
 z37:=Tryz.sizeOf110
 v37:=Tryz.zeroValue110
 t46:=Tryz.underlying177
 a46:=Tryz.isAgg177
 z46:=Tryz.sizeOf177
 v46:=Tryz.zeroValue177
 t51:=Tryz.underlying236
 a51:=Tryz.isAgg236
 z51:=Tryz.sizeOf236
 v51:=Tryz.zeroValue236
 t53:=Tryz.underlying238
 a53:=Tryz.isAgg238
 z53:=Tryz.sizeOf238
 v53:=Tryz.zeroValue238
 t70:=Tryz.underlying109
 a70:=Tryz.isAgg109
 z70:=Tryz.sizeOf109
 v70:=Tryz.zeroValue109
 t72:=Tryz.underlying112
 a72:=Tryz.isAgg112
 z72:=Tryz.sizeOf112
 v72:=Tryz.zeroValue112
 t75:=Tryz.underlying114
 a75:=Tryz.isAgg114
 z75:=Tryz.sizeOf114
 v75:=Tryz.zeroValue114
 t76:=Tryz.underlying117
 a76:=Tryz.isAgg117
 z76:=Tryz.sizeOf117
 v76:=Tryz.zeroValue117
 t109:=Tryz.underlying178
 a109:=Tryz.isAgg178
 z109:=Tryz.sizeOf178
 v109:=Tryz.zeroValue178
 t127:=Tryz.underlying181
 a127:=Tryz.isAgg181
 z127:=Tryz.sizeOf181
 v127:=Tryz.zeroValue181
 t146:=Tryz.underlying243
 a146:=Tryz.isAgg243
 z146:=Tryz.sizeOf243
 v146:=Tryz.zeroValue243
 t148:=Tryz.underlying245
 a148:=Tryz.isAgg245
 z148:=Tryz.sizeOf245
 v148:=Tryz.zeroValue245
 t164:=Tryz.underlying234
 a164:=Tryz.isAgg234
 z164:=Tryz.sizeOf234
 v164:=Tryz.zeroValue234 }
theorem zd7:Builder.Extra Tp zfr:={
 sizeBuilder:=by kernel_rfl
 liesBuilder:=by kernel_rfl
 t5:=BU
 a5:=CK
 z5:=Cz
 v5:=Ci
 infoByte:=by kernel_rfl
 cellsByte:=by kernel_rfl
 sizeByte:=by kernel_rfl
 neB5:=by decide }
open Go.RowKit Go.Lib in
theorem zhm(s:Bt)(c:Nat)(w:World)(hc:c<=9223372036854775807)(Z:s.size*c<=140737488355328):
  Calls Tp 86 #[.string s,.int .i64 c] w λe w'=>e=.returned (.string ⟨(Lib.repeatL s.data.toList c).toArray⟩)/\Below w.heap.size w w':=Any.strings_Repeat zy3 zd7 s c w hc Z
open Go.RowKit Go.Lib in
theorem X1(s:Bt)(w:World)(hT:Lib.Utf8Tabs 0 1 w):
  Calls Tp 151 #[.string s] w λe w'=>e=.returned (.tuple #[.int .i32 (Lib.decodeGo s).1,.int .i64 (Lib.decodeGo s).2])/\Below w.heap.size w w':=Any.utf8_DecodeRuneInString zy1 s w hT
end
end Go.X
end
section
namespace Go.X
open Go Go.X Go.Proofs Go.RowKit
section
variable {gl M:Fr} {s:Bt}
theorem zch{c:Int}{R:Int->Prop}(h:R (Lib.indexByte (lb s) c.toNat.toUInt8)):PC Tp gl 212 [Arg.mk .str s,Arg.mk (.int .u8) c] [.int .i64] R:=
 PC.of_same rfl (λ_=>zyq _ _) h λw _=>Ya s c w
theorem zo8{s p:Bt}{R:Bt×Bool->Prop}(h:R (bl (Lib.trimPrefix (lb s) (lb p)),Lib.hasPrefix (lb s) (lb p))):PC Tp gl 138 [Arg.mk .str s,Arg.mk .str p] [.str,.bool] R:=
 PC.of_same rfl (λM=>⟨[_,_],⟨_,_,rfl,rfl,_,rfl,rfl⟩,rfl⟩) h λw _=>zd5 s p w
theorem zmu{s p:Bt}{R:Bt->Prop}(h:R (bl (Lib.trimPrefix (lb s) (lb p)))):PC Tp gl 140 [Arg.mk .str s,Arg.mk .str p] [.str] R:=
 PC.of_same rfl (λ_=>zi6 _) h λw _=>zc8 s p w
theorem zrp{c:UInt8}(hc:c.toNat<128){R:Bt->Prop}(h:R (bl (Lib.trimLeftB (lb s) c))):PC Tp gl 76 [Arg.mk .str s,Arg.mk .str ⟨#[c]⟩] [.str] R:=
 PC.of_same rfl (λ_=>zi6 _) h λw _=>zbq s c hc w
theorem zo9{c:UInt8}(hc:c.toNat<128)(hs:s.size<=9223372036854775807){R:Bt->Prop}(h:R (bl (Lib.trimRightB (lb s) c))):PC Tp gl 77 [Arg.mk .str s,Arg.mk .str ⟨#[c]⟩] [.str] R:=
 PC.of_same rfl (λ_=>zi6 _) h λw _=>zbe s c hc w hs
def z4u(gl:Fr):Prop:=∃(cs:Array Value) (m:Int),gl 3=some cs/\cs[0]?=some (.int .i64 m)
theorem zi9(w:World)(n:Nat):Below w.heap.size w (w.drewN n):=⟨rfl,rfl,rfl,Av _,λ_ _=>rfl⟩
theorem zy4{c:Nat}(hc:c<=9223372036854775807)(Z:s.size*c<=140737488355328){R:Bt->Prop}(h:R (bl (Lib.repeatL (lb s) c))):PC Tp gl 86 [Arg.mk .str s,Arg.mk (.int .i64) (c:Int)] [.str] R:=
 PC.of_scal rfl (λ_=>zi6 _) h λw hw=>zhm s c w hc Z
def Tabs(gl:Fr):Prop:=(∃cs:Array Value,gl 0=some cs/\∀c,c<256->cs[c]?=some (.int .u8 (Lib.firstT c)))/\∃cs:Array Value,gl 1=some cs/\∀i,i<16->cs[2*i]?=some (.int .u8 (Lib.accLo i))/\cs[2*i+1]?=some (.int .u8 (Lib.accHi i))
theorem Tabs.at(h:Tabs gl){w:World}(hw:AgM gl w.heap):Lib.Utf8Tabs 0 1 w:=by
 obtain⟨⟨c1,a1,b1⟩,c2,a2,b2⟩:=h
 exact⟨λc hc=>hw.glob a1 (b1 c hc),λi hi=>⟨hw.glob a2 (b2 i hi).1,hw.glob a2 (b2 i hi).2⟩⟩
theorem zpa(hg:Tabs gl){R:Int×Int->Prop}(h:R ((Lib.decodeGo s).1,(Lib.decodeGo s).2)):PC Tp gl 151 [Arg.mk .str s] [.int .i32,.int .i64] R:=
 PC.of_scal rfl (λM=>⟨[_,_],⟨_,_,rfl,rfl,_,rfl,rfl⟩,rfl⟩) h λw hw=>X1 s w (hg.at hw)
theorem zv9(w:World)(k:Nat)(os:Array Obj):Below w.heap.size w (Go.Sort.grow (w.drewN k) os):=⟨rfl,rfl,rfl,by simp[Go.Sort.grow,World.drewN],λi hi=>by
 show((w.drewN k).heap++os)[i]?=_
 exact CN hi⟩
def Pow(gl : Fr): Prop := ∃ b cs, Tryz.prog.globalNamed "internal/strconv.uint64pow10" = some b ∧ gl b = some cs ∧ cs = (Lib.pow10Tab.map λz => Value.int .u64 z).toArray
theorem zy5(hg:Pow gl){n:Int}(h0:-9223372036854775808<=n)(h1:n<=9223372036854775807){R:Bt->Prop}(h:R (bl (Lib.itoa n))):PC Tp gl 79 [Arg.mk (.int .i64) n] [.str] R:=by
 obtain⟨b,cs,e1,e2,e3⟩:=hg
 refine PC.of_scal rfl (λ_=>zi6 _) h λw hw=>(zjz n h0 h1 w ?_).mono λe w' ⟨he,k,os,Z⟩=>⟨he,Z ▸ zv9 w k os⟩
 obtain⟨T,m,e4⟩:=hw b cs e2
 unfold Lib.TabIs World.var?
 rw[e1]
 simp only[CX,e4,e3]
def z7e(l:List UInt8):Int×Bool:=match Lib.atoiAll l with
 |.ok v=>(v,true)
 |.range=>(Lib.atoiSat l,false)
 |_=>(0,false)
def zrq(gl:Fr):Prop:=(∃(cs:Array Value) (e:Value),gl 4=some cs/\cs[0]?=some e/\(e=.nilIface\/∃te pe,e=.iface te pe))/\∃(cs:Array Value) (e:Value),gl 5=some cs/\cs[0]?=some e/\(e=.nilIface\/∃te pe,e=.iface te pe)
theorem zrr(k:IntKind)(i:Int)(t:TypeId)(u:Value):ze0 M [.int k,.err] (i,false) (.tuple #[.int k i,.iface t u]):=⟨[_,_],⟨_,_,rfl,rfl,.iface t u,rfl,⟨_,rfl,.inr ⟨rfl,_,_,rfl⟩⟩⟩,rfl⟩
theorem zpb(k:IntKind)(i:Int):ze0 M [.int k,.err] (i,true) (.tuple #[.int k i,.nilIface]):=⟨[_,_],⟨_,_,rfl,rfl,.nilIface,rfl,⟨_,rfl,.inl ⟨rfl,rfl⟩⟩⟩,rfl⟩
theorem z7f(hg:zrq gl)(hs:s.size<=281474976710656){R:Int×Bool->Prop}(h:R (z7e (lb s))):PC Tp gl 210 [Arg.mk .str s] [.int .i64,.err] R:=by
 unfold z7e at h
 cases hx:Lib.atoiAll (lb s)with
 |ok v=>
  rw[hx]at h
  refine PC.of_ex rfl λw hw=>(zgv s (by omega) v hx w).mono λe w' ⟨he,aa⟩=>⟨_,(v,true),he,λM=>zpb _ _,h,?_⟩
  rcases aa with rfl|⟨t,rfl⟩
  ·exact Below.refl _ _
  ·exact Lib.bytesWorld_below _ _ _
 |range=>
  rw[hx]at h
  obtain⟨_,⟨cs,ev,e1,e2,e3⟩⟩:=hg
  exact PC.of_ex rfl λw hw=>(zc7 s hs hx ev w (hw.glob e1 e2) e3).mono λe w' ⟨N,he,_,_,Z⟩=>⟨_,(Lib.atoiSat (lb s),false),he,λM=>zrr _ _ _ _,h,Z⟩
 |_=>
  rw[hx]at h
  obtain⟨⟨cs,ev,e1,e2,e3⟩,_⟩:=hg
  exact PC.of_ex rfl λw hw=>(zcg s hs hx ev w (hw.glob e1 e2) e3).mono λe w' ⟨N,he,_,_,Z⟩=>⟨_,(0,false),he,λM=>zrr _ _ _ _,h,Z⟩
theorem zj2{s c:Bt}(hs:s.size<4294967281)(hc:c.size<4294967281)(aa:∀(j:Nat) b,(lb s)[j]?=some b->b.toNat<128)(Z:∀(j:Nat) b,(lb c)[j]?=some b->b.toNat<128){R:Bool->Prop}(h:R (Lib.containsAny (lb s) (lb c))):
  PC Tp gl 209 [Arg.mk .str s,Arg.mk .str c] [.bool] R:=
 PC.of_scal rfl (λ_=>ztn _) h λw hw=>Xo s c w hs hc aa Z
end
end Go.X
end
section
namespace Go.X
open Go Go.Lib
section
theorem Zf(l:Bs):(bl l).size=l.length:=by rw[<-zo6,Yh]
theorem Jy(l:Bs)(a b:Nat):(bl l).extract a b=bl ((l.drop a).take (b-a)):=by rw[<-zo5,zv5,Yh,Yh]
theorem Z2(a b:Bs):bl a++bl b=bl (a++b):=by rw[<-zo5,zys,Yh,Yh,Yh]
theorem Yd(l:Bs)(i:Nat):Zc (bl l) i=((l[i]?.getD 0).toNat:Int):=by rw[zyt,Yh]
theorem zaj(s:Bt):s.toList=lb s:=by
 cases s with
 |mk d=>exact Go.Lib.toList_data ⟨d⟩
theorem zmv(a b:Bs):((bl a).toList==(bl b).toList)=decide (a=b):=by
 rw[zaj,zaj,Yh,Yh]
 rw[A6];simp
theorem qaq{a b:Bs}:bl a=bl b↔a=b:=by rw[<-zo5,Yh,Yh]
theorem zpc(l:Bs)(p:Nat):nxB (bl l) p=decide (p<l.length):=by
 rw[A6];simp[nxB,Zf]
theorem zpd(l:Bs)(p:Nat):nxR (bl l) p=((dec (l.drop p)).1:Int):=by rw[nxR,ztp,Yh]
theorem zja(l:Bs)(p:Nat)(h:p<l.length):nxP (bl l) p=p+(dec (l.drop p)).2:=by
 rw[nxP,ztp,Yh]
 have:Nat.blt p (bl l).size=true:=by simp[Zf,h]
 rw[this];rfl
theorem zts{l:Bs}{i:Nat}(h:i<l.length):l[i]?.getD 0=l[i]:=by rw[AE h];rfl
def Q1(c:UInt8):Bool:=decide (48<=c.toNat)&&decide (c.toNat<=57)
def zby(l:Bs):Bool:=l.all Q1 && !l.isEmpty
abbrev Nm:=Bool×Bs×Int
abbrev nmB(n:Nm):Bool×Bt×Int:=(n.1,(bl n.2.1,n.2.2))
def zpe(n:Nm):Bool:=!n.1&&(n.2.1.isEmpty&&n.2.2==0)
def Wm(n:Nm):Bool:=zpe n||(zby n.2.1&&decide (n.2.1.length<=1000)&&n.2.1.head? != some 48&&n.2.1.getLast? != some 48&&decide (-1000000<=n.2.2)&&decide (n.2.2<=1000000))
def We(n:Nm):Bs:=if Wm n then(if n.2.1=[]then [48]else(if n.1 then [45]else [])++n.2.1++(if n.2.2=0 then []else 101::Go.Lib.itoa n.2.2))else []
theorem zrs{n:Nm}(h:Wm n=true):n.2.1.length<=1000/\-1000000<=n.2.2/\n.2.2<=1000000:=by
 unfold Wm zpe at h
 obtain⟨a,d,e⟩:=n
 simp at h
 rcases h with⟨_,h,h'⟩|h
 ·subst h;subst h';simp
 ·simp only;omega
def cutAt(p:UInt8->Bool):Bs->Bs×Bs×Bool
 |[]=>([],[],false)
 |c::l=>if p c then([],l,true)else(c::(cutAt p l).1,(cutAt p l).2)
theorem zlb{p:UInt8->Bool}:∀{l},(∀c∈l,p c=false)->cutAt p l=(l,[],false)
 |[],_=>rfl
 |c::l,h=>by
  unfold cutAt
  rw[if_neg (by simp[h c (by simp)]),zlb λc hc=>h c (by simp[hc])]
theorem ztt{p:UInt8->Bool}:∀{l:Bs} {k:Nat} (hk:k<l.length),(∀i (hi:i<k),p (l[i]'(by omega))=false)->p l[k]=true->cutAt p l=(l.take k,l.drop (k+1),true)
 |c::l,0,_,_,h=>by
  unfold cutAt
  rw[if_pos (by simpa using h)];simp
 |c::l,k+1,hk,h0,h=>by
  unfold cutAt
  have h1:p c=false:=h0 0 (by omega)
  rw[if_neg (by simp[h1]),ztt (k:=k) (by simpa using hk) (λi hi=>by simpa using h0 (i+1) (by omega)) (by simpa using h)]
  simp
structure Lit where
 neg:Bool
 whole:Bs
 rest:Bs
 low:Bool
 exp:Bs
def zqo(s:Bs):Bs:=if s.head?==some 45 then s.tail else s
def isE(c:UInt8):Bool:=c==101||c==69
def zpf(c:UInt8):Bool:=c==46
def W8(s:Bs):Bs×Bs×Bool:=cutAt isE (zqo s)
def zfs(s:Bs):Bool:=(W8 s).2.2&&(W8 s).2.1.head?==some 45
def zqp(s:Bs):Bs:=if zfs s then(W8 s).2.1.tail else if(W8 s).2.1.head?==some 43 then(W8 s).2.1.tail else(W8 s).2.1
def Jz(s:Bs):Bs×Bs×Bool:=cutAt zpf (W8 s).1
def zhn(s:Bs):Bool:=(!(W8 s).2.2||zby (zqp s))&&zby (Jz s).1&&(!(Jz s).2.2||zby (Jz s).2.1)&&((Jz s).1==[48]||(Jz s).1.head? != some 48)
def zj3(s:Bs):Lit:=⟨s.head?==some 45,(Jz s).1,(Jz s).2.1,zfs s,if(W8 s).2.2 then zqp s else []⟩
def zdi(s:Bs):Option Lit:=if zhn s then some (zj3 s)else none
theorem zd8{s:Bs}{x:Lit}(h:zdi s=some x):zhn s=true/\x=zj3 s:=by
 unfold zdi at h
 split at h
 ·rename_i e;exact⟨e,(AL h).symm⟩
 ·exact absurd h (by simp)
theorem zak{p:UInt8->Bool}:∀{l:Bs},(cutAt p l).2.2=false->(cutAt p l).1=l/\(cutAt p l).2.1=[]
 |[],_=>⟨rfl,rfl⟩
 |c::l,h=>by
  unfold cutAt at h ⊢
  split
  ·rename_i e;rw[if_pos e]at h;exact absurd h (by simp)
  ·rename_i e
   rw[if_neg e]at h
   have:=zak h
   exact⟨by simp[this.1],this.2⟩
def Yb(l:Bs):Bs:=((l.dropWhile (· == 48)).reverse.dropWhile (· == 48)).reverse
def Zv(l:Bs):Nat:=l.foldl (λn c=>10*n+(c.toNat-48)) 0
def Zh(s:Bs):Nm×Int:=match zdi s with
 |none=>((false,[],0),2)
 |some x=>
  if x.whole.length+x.rest.length>1000 then((false,[],0),3)
  else if(x.exp.dropWhile (· == 48)).length>9 then((false,[],0),4)
  else
   let e:Int:=if x.low then-(Zv (x.exp.dropWhile (· == 48)):Int)else Zv (x.exp.dropWhile (· == 48))
   let d:=(x.whole++x.rest).dropWhile (· == 48)
   let Z:=Yb (x.whole++x.rest)
   if d=[]then((false,[],0),0)
   else if -1000000<=e-x.rest.length+d.length-Z.length/\e-x.rest.length+d.length-Z.length<=1000000 then((x.neg,Z,e-x.rest.length+d.length-Z.length),0)
   else((false,[],0),4)
def qar(n:Nm):Int×Bool:=
 if Wm n&&decide (0<=n.2.2)&&decide ((n.2.1.length:Int)+n.2.2<=19)then
  let v:Int:=if n.1 then-((Zv n.2.1*10 ^ n.2.2.toNat:Nat):Int)else(Zv n.2.1*10 ^ n.2.2.toNat:Nat)
  if -9223372036854775808<=v/\v<=9223372036854775807 then(v,true)else(0,false)
 else(0,false)
end
end Go.X
end
section
namespace Go.X
section
variable {n:Nat} {l:Bs} {gl:Fr} {R:Bool -> Prop}
theorem zj4{k n:Nat}(h:k<n)(hn:n<=4611686018427387904):Ar .i64 ((k:Int)+1)=((k+1:Nat):Int):=zxk (by omega)
theorem z7g(h:l≠[]):(48<=(dec l).1/\(dec l).1<=57)->(dec l).2=1/\∃c t,l=c::t/\Q1 c=true/\(dec l).1=c.toNat:=by
 obtain⟨c,t,rfl⟩:=BK h
 intro hh
 by_cases hc:c.toNat<128
 ·rw[Xl hc]at hh ⊢
  exact⟨rfl,c,t,rfl,by simp[Q1];simpa using hh,rfl⟩
 ·exfalso
  unfold dec at hh
  have b0:((c::t).getD 0 0).toNat=c.toNat:=rfl
  rw[b0]at hh
  have:=c.toNat_lt
  have b1:=((c::t).getD 1 0).toNat_lt;have b2:=((c::t).getD 2 0).toNat_lt;have b3:=((c::t).getD 3 0).toNat_lt
  generalize ((c::t).getD 1 0).toNat=x1 at *
  generalize ((c::t).getD 2 0).toNat=x2 at *
  generalize ((c::t).getD 3 0).toNat=x3 at *
  generalize c.toNat=x0 at *
  unfold Lib.decodeN at hh
  rw[if_neg hc]at hh
  split at hh
  ·split at hh <;> simp only at hh <;> omega
  ·split at hh
   ·split at hh <;> simp only at hh <;> omega
   ·split at hh
    ·split at hh <;> simp only at hh <;> omega
    ·simp only at hh;omega
theorem zft(h:R (zby l)):PC Tp gl 141 [Arg.mk .str (bl l)] [.bool] R:=by
 apply zhl
 refine⟨λp=>p.1=bl l/\p.2<=l.length/\(l.drop p.2).all Q1=l.all Q1,λp=>l.length-p.2,⟨rfl,by omega,by simp⟩,?_⟩
 rintro⟨_,p⟩ ⟨rfl,hp,h2⟩
 simp only at hp h2 ⊢
 rw[zpc,zpd]
 refine⟨λhc=>⟨hc,λhx=>?_,λhx=>?_⟩,λhc=>?_⟩
 all_goals first
  |have ab:p<l.length:=by simpa using hc
  |have ab:¬p<l.length:=by simpa using hc
 ·have aa:l.drop p≠[]:=λe=>by have:=congrArg Db e;simp at this;omega
  have hd:¬(48<=(dec (l.drop p)).1/\(dec (l.drop p)).1<=57):=by
   rw[Cr]at hx
   rcases Cb _ _ ▸ hx with hx|hx <;> simp at hx <;> omega
  have hf:l.all Q1=false:=by
   rw[<-h2]
   obtain⟨c,t,e⟩:=BK aa
   rw[e]
   cases Z:Q1 c with
   |false=>simp[Z]
   |true=>
    exfalso;apply hd
    have:c.toNat<128:=by simp[Q1]at Z;omega
    rw[e,Xl this]
    simpa[Q1]using Z
  have:zby l=false:=by simp[zby,hf]
  rw[this]at h;exact h
 ·have aa:l.drop p≠[]:=λe=>by have:=congrArg Db e;simp at this;omega
  have hd:48<=(dec (l.drop p)).1/\(dec (l.drop p)).1<=57:=by
   rw[Cr]at hx
   have:=Cu.1 hx
   simp at this;omega
  obtain⟨h1,c,t,e,Z,_⟩:=z7g aa hd
  rw[zja l p ab,h1]
  refine⟨⟨trivial,by omega,?_⟩,by omega⟩
  have e2:l.drop (p+1)=t:=by rw[<-Bq,e];rfl
  rw[e2,<-h2,e];simp[Z]
 ·have:l.drop p=[]:=BJ (by omega)
  rw[this]at h2
  have e:zby l=!(decide (l=[])):=by
   rw[zby,<-h2];cases l <;> simp
  have:=zmv l []
  rw[show(⟨#[]⟩:Bt)=bl []from rfl,this,<-e];exact h
abbrev tN:Ty:=.pair .bool (.pair .str (.int .i64))
theorem ztu(h:0<l.length):(((l[0]?.getD 0).toNat:Int) != 48)=(l.head? != some 48):=by
 cases l with
 |nil=>simp at h
 |cons c t=>
  rw[A6];simp
  constructor
  ·intro h1 h2;exact h1 (by rw[h2];rfl)
  ·intro h1 h2;exact h1 (D7.1 (by(have:c.toNat=48:=by omega);rw[this];rfl))
theorem z2m(h:0<l.length):(((l[l.length-1]?.getD 0).toNat:Int) != 48)=(l.getLast? != some 48):=by
 rw[List.getLast?_eq_getElem?]
 rw[AE (by omega)]
 rw[A6];simp
 constructor
 ·intro h1 h2;exact h1 (by rw[h2];rfl)
 ·intro h1 h2;exact h1 (D7.1 (by(have:l[l.length-1].toNat=48:=by omega);rw[this];rfl))
theorem ztv(h:zby l=true):0<l.length:=by
 cases l with
 |nil=>simp[zby]at h
 |cons=>simp
theorem z7h(h:0<n)(hn:n<=4611686018427387904):Ar .i64 ((n:Int)-1)=((n-1:Nat):Int):=by
 rw[wrap64 (by omega) (by omega)];omega
theorem ztw{n:Nm}(hn:n.2.1.length<=4611686018427387904)(h:R (Wm n)):PC Tp gl 78 [Arg.mk tN (nmB n)] [.bool] R:=by
 apply zi7
 simp only[show(⟨#[]⟩:Bt)=bl []from rfl,zmv,Zf,Yd]
 have e:((n.1==false)&&(decide (n.2.1=[])&&((n.2.2==0)&&true)))=zpe n:=by
  unfold zpe
  rcases n with⟨_|_,_|⟨_,_⟩,e⟩ <;> simp
 rw[e]
 refine⟨λh1=>?_,λh1=>?_⟩
 ·have:Wm n=true:=by simp[Wm,h1]
  rw[this]at h;exact h
 ·unfold Wm at h
  rw[h1,DD]at h
  refine zft ⟨λh2=>⟨λ_=>?_,λh3=>?_⟩,λh2=>⟨λh3=>⟨λ_=>?_,λh4=>?_⟩,λh3=>⟨?_,λh4=>⟨λ_=>?_,λh5=>?_⟩,λh4=>⟨?_,λh5=>?_,λh5=>?_⟩⟩⟩⟩
  ·have:zby n.2.1=false:=by simpa using h2
   rw[this]at h;simpa using h
  ·rw[h2]at h3;cases h3
  ·have:decide (n.2.1.length<=1000)=false:=by simp at h3 ⊢;omega
   rw[this]at h;simpa using h
  ·rw[h3]at h4;cases h4
  all_goals
   have hd:zby n.2.1=true:=by simpa using h2
   have hp:=ztv hd
   have Z:decide (n.2.1.length<=1000)=true:=by simp at h3 ⊢;omega
   have eh:=ztu hp
   have el:=z2m hp
  ·omega
  ·have:(n.2.1.head? != some 48)=false:=by
    rw[<-eh];simp at h4 ⊢;exact h4
   rw[this]at h;simpa using h
  ·rw[h4]at h5;cases h5
  ·rw[z7h hp hn];omega
  ·have:(n.2.1.getLast? != some 48)=false:=by
    rw[<-el];rw[z7h hp hn]at h5;simp at h5 ⊢;exact h5
   rw[this]at h;simpa using h
  ·have e1:(n.2.1.head? != some 48)=true:=by
    rw[<-eh];simp at h4 ⊢;exact h4
   have e2:(n.2.1.getLast? != some 48)=true:=by
    rw[<-el];rw[z7h hp hn]at h5;simp at h5 ⊢;exact h5
   rw[hd,Z,e1,e2]at h
   simp only[Dj]at h
   rw[Bool.cond_false_right]
   exact h
end
end Go.X
end
section
namespace Go.X
open Go Go.Lib
section
variable {n k:Nat} {l s:Bs}
theorem u8n{c:UInt8}(hn:n<256):c=Be n↔c.toNat=n:=by
 constructor
 ·rintro rfl;simp;omega
 ·intro h;rw[<-h];simp
theorem Ww(c:UInt8):∀l:Bs,-1<=indexByte l c/\(0<=indexByte l c↔c∈l)
 |[]=>by simp[indexByte]
 |b::l=>by
  have ih:=Ww c l
  unfold indexByte
  by_cases h:b=c
  ·simp[h]
  ·have h':¬c=b:=λe=>h e.symm
   simp only[beq_iff_eq,h,if_false,Ay,h',false_or]
   obtain⟨i1,i2⟩:=ih
   split
   ·rename_i e
    rw[e]at i2
    exact⟨by omega,by rw[<-i2]⟩
   ·rename_i e
    refine⟨by omega,?_⟩
    rw[<-i2];omega
theorem zbg(u:Nat):(decDigits u).length<=u+1:=by
 rw[decDigits]
 split
 ·simp
 ·rename_i h
  have:=zbg (u / 10)
  simp;omega
theorem itoa_len(n:Int):(itoa n).length<=n.natAbs+2:=by
 unfold itoa
 split
 ·have:=zbg n.natAbs;simp;omega
 ·have:=zbg n.toNat;omega
theorem zfu(l:Bs)(c:UInt8):hasPrefix l [c]=(l.head?==some c):=by
 cases l with
 |nil=>rfl
 |cons b t=>simp[hasPrefix,List.isPrefixOf];rw[A6];simp;exact eq_comm
theorem zdj(l:Bs)(c:UInt8):trimPrefix l [c]=if l.head?==some c then l.tail else l:=by
 unfold trimPrefix
 rw[zfu]
 split <;> simp
theorem zrt(l:Bs)(c:UInt8):Zv (l++[c])=10*Zv l+(c.toNat-48):=by simp[Zv,List.foldl_append]
theorem zjb(hk:k<l.length):Zv (l.take (k+1))=10*Zv (l.take k)+(l[k].toNat-48):=by
 rw[Ba hk,zrt]
theorem ztx{p:UInt8->Bool}(h:l.all p=true)(k:Nat):(l.take k).all p=true:=by
 rw[A5]at h ⊢
 exact λx hx=>h x (List.mem_of_mem_take hx)
theorem z4v(h:l.all Q1=true)(hk:k<l.length):48<=l[k].toNat/\l[k].toNat<=57:=by
 have:=A5.1 h _ (BG hk)
 simpa[Q1]using this
theorem zpg:∀(n:Nat) (l:Bs),l.length=n->l.all Q1=true->Zv l<10 ^ n
 |0,l,h,_=>by
  have:l=[]:=Bb h
  subst this;simp[Zv]
 |n+1,l,h,hd=>by
  have hl:l=l.take (n+1):=by rw[<-h,BL]
  rw[hl,zjb (by omega)]
  have h1:=zpg n (l.take n) (by simp;omega) (ztx hd n)
  have h2:=z4v hd (k:=n) (by omega)
  rw[Nat.pow_succ];omega
theorem zfv(hn:l.length<=n)(h:l.all Q1=true):Zv l<10 ^ n:=
 Dr (zpg _ l rfl h) (Nat.pow_le_pow_right (by omega) hn)
theorem zfw(h:zby l=true):l.all Q1=true:=by
 unfold zby at h;exact(Bool.and_eq_true_iff.1 h).1
theorem zbh{p q:UInt8->Bool}(h:l.all p=true):(l.dropWhile q).all p=true:=by
 rw[A5]at h ⊢
 exact λx hx=>h x ((List.dropWhile_sublist q).mem hx)
theorem Jk(l:Bs)(q:UInt8->Bool):(l.dropWhile q).length<=l.length:=(List.dropWhile_sublist q).length_le
theorem zdk{q:UInt8->Bool}:∀c,(l.dropWhile q).head?=some c->q c=false:=by
 induction l with
 |nil=>simp
 |cons b t ih=>
  intro c h
  rw[List.dropWhile_cons]at h
  split at h
  ·exact ih c h
  ·rename_i hq;simp at h;subst h;exact Bool.eq_false_iff.2 hq
theorem zfx(h:l.all Q1=true)(Z:l.dropWhile (· == 48)≠[]):zby (Yb l)=true/\(Yb l).length<=(l.dropWhile (· == 48)).length/\((Yb l).head? != some 48)=true/\((Yb l).getLast? != some 48)=true:=by
 unfold Yb
 obtain⟨c,t,hd⟩:=BK Z
 have hc:(c==48)=false:=by
  have:=zdk (l:=l) (q:=(· == 48)) c (by rw[hd];rfl)
  simpa using this
 have key:∀(t:Bs),∃u,((c::t).reverse.dropWhile (· == 48)).reverse=c::u:=by
  intro t
  rw[List.reverse_cons]
  have hx:∀(r:Bs),∃u,(r++[c]).dropWhile (· == 48)=u++[c]:=by
   intro r
   induction r with
   |nil=>exact⟨[],by simp[hc]⟩
   |cons b r ih=>
    rw[A8,List.dropWhile_cons]
    split
    ·exact ih
    ·exact⟨b::r,rfl⟩
  obtain⟨u,e⟩:=hx t.reverse
  exact⟨u.reverse,by rw[e];simp⟩
 rw[hd]
 obtain⟨u,e⟩:=key t
 refine⟨?_,?_,?_,?_⟩
 ·rw[zby,Bool.and_eq_true_iff]
  refine⟨?_,by rw[e];rfl⟩
  rw[List.all_reverse]
  apply zbh
  rw[List.all_reverse,<-hd]
  exact zbh h
 ·rw[List.length_reverse]
  refine Ec (Jk _ _) ?_
  simp
 ·rw[e];simp;simpa using hc
 ·rw[List.getLast?_reverse]
  cases hh:((c::t).reverse.dropWhile (· == 48)).head? with
  |none=>rfl
  |some x=>
   have:=zdk (l:=(c::t).reverse) (q:=(· == 48)) x hh
   simpa using this
theorem zwa(h:l.all Q1=true)(Z:l.dropWhile (· == 48)≠[])(hl:l.length<=1000)(neg:Bool)(e:Int):Wm (neg,Yb l,e)=(decide (-1000000<=e)&&decide (e<=1000000)):=by
 obtain⟨h1,h2,h3,h4⟩:=zfx h Z
 have h5:=Jk l (· == 48)
 have hp:(Yb l).isEmpty=false:=by
  rw[zby]at h1
  have:=(Bool.and_eq_true_iff.1 h1).2
  simpa using this
 unfold Wm zpe
 simp only[h1,h3,h4,hp,Bool.and_false,DL,DD,Dj]
 have:decide ((Yb l).length<=1000)=true:=by simp;omega
 rw[this];simp
theorem zru{x:Lit}(h:zdi s=some x):zby x.whole=true/\x.rest.all Q1=true/\x.exp.all Q1=true:=by
 obtain⟨Z,rfl⟩:=zd8 h
 unfold zhn at Z
 simp only[BP]at Z
 obtain⟨⟨⟨h1,h2⟩,h3⟩,h4⟩:=Z
 refine⟨h2,?_,?_⟩
 ·show(Jz s).2.1.all Q1=true
  cases hp:(Jz s).2.2 with
  |true=>rw[hp]at h3;exact zfw (by simpa using h3)
  |false=>rw[show(Jz s).2.1=[]from(zak hp).2];rfl
 ·show(if(W8 s).2.2 then zqp s else []).all Q1=true
  cases hm:(W8 s).2.2 with
  |true=>rw[hm]at h1;simpa using zfw (by simpa using h1)
  |false=>rfl
theorem zgw(p:UInt8->Bool)(l:Bs):(cutAt p l).1.length+(cutAt p l).2.1.length<=l.length:=by
 induction l with
 |nil=>simp[cutAt]
 |cons c t ih=>unfold cutAt;split <;> simp <;> omega
theorem zlc{x:Lit}(h:zdi s=some x):x.whole.length+x.rest.length+x.exp.length<=s.length:=by
 obtain⟨Z,rfl⟩:=zd8 h
 have h1:(zqo s).length<=s.length:=by unfold zqo;split <;> simp
 have h2:=zgw isE (zqo s)
 have h3:=zgw zpf (W8 s).1
 have h4:(zqp s).length<=(W8 s).2.1.length:=by
  unfold zqp
  split
  ·simp
  ·split <;> simp
 have h5:(if(W8 s).2.2 then zqp s else []).length<=(W8 s).2.1.length:=by
  split
  ·exact h4
  ·simp
 show(Jz s).1.length+(Jz s).2.1.length+(if(W8 s).2.2 then zqp s else []).length<=s.length
 unfold Jz
 unfold W8 at *
 omega
end
end Go.X
end
section
namespace Go.X
section
variable {gl:Fr} {l s:Bs}
theorem qas(c:UInt8):(((c.toNat:Int)).toNat).toUInt8=c:=by simp
theorem z4w{l sep:Bs}{p:UInt8->Bool}(hp:∀c,p c=true↔c∈sep)(hl:l.length<=4611686018427387904){R:Bt×Bt×Bool->Prop}(h:R (bl (cutAt p l).1,bl (cutAt p l).2.1,(cutAt p l).2.2)):
  PC Tp gl 139 [Arg.mk .str (bl l),Arg.mk .str (bl sep)] [.str,.str,.bool] R:=by
 apply zmk
 simp only[Zf,Yd,Jy]
 refine⟨λi=>∃k:Nat,i=k/\k<=l.length/\∀j (hj:j<l.length),j<k->p l[j]=false,λi=>l.length-i.toNat,⟨0,rfl,by omega,λj _ h=>by omega⟩,?_⟩
 rintro i ⟨k,rfl,hk,h2⟩
 refine⟨λhc=>?_,λhc=>?_⟩
 ·have Z:k<l.length:=by simpa using hc
  simp only[AK,zts Z]
  refine⟨by omega,zch ?_⟩
  rw[qas,Yh]
  have hm:=(Ww l[k] sep).2
  rw[zj4 Z hl]
  refine⟨λhx=>⟨by omega,by omega,?_⟩,λhx=>⟨⟨k+1,rfl,by omega,λj hj ae=>?_⟩,by simp;omega⟩⟩
  ·have aa:p l[k]=true:=(hp _).2 (hm.1 (by simpa using hx))
   rw[ztt Z (λj hj=>h2 j (by omega) hj) aa]at h
   simp only[AK,Int.toNat_zero,Cc,Dv]
   rw[Cv (l:=l.drop (k+1)) (by simp)]
   exact h
  ·by_cases e:j=k
   ·subst e
    cases hpj:p l[j]with
    |false=>rfl
    |true=>exact absurd (hm.2 ((hp _).1 hpj)) (by simpa using hx)
   ·exact h2 j hj (by omega)
 ·have Z:¬k<l.length:=by simpa using hc
  rw[zlb (λc ab=>by
   obtain⟨j,hj,rfl⟩:=BR ab
   exact h2 j hj (by omega))]at h
  exact h
theorem zld{c:UInt8}{R:Bt×Bool->Prop}(h:R (bl (if l.head?==some c then l.tail else l),l.head?==some c)):PC Tp gl 138 [Arg.mk .str (bl l),Arg.mk .str (bl [c])] [.str,.bool] R:=by
 refine zo8 ?_
 rw[Yh,Yh,zdj,zfu];exact h
theorem zrv{c:UInt8}{R:Bt->Prop}(h:R (bl (if l.head?==some c then l.tail else l))):PC Tp gl 140 [Arg.mk .str (bl l),Arg.mk .str (bl [c])] [.str] R:=by
 refine zmu ?_
 rw[Yh,Yh,zdj];exact h
theorem zjc{R:Bt->Prop}(h:R (bl (l.dropWhile (· == 48)))):PC Tp gl 76 [Arg.mk .str (bl l),Arg.mk .str (bl [48])] [.str] R:=by
 refine zrp (c:=48) (by decide) ?_
 rw[Yh];exact h
theorem zwb(hl:l.length<=4611686018427387904){R:Bt->Prop}(h:R (bl (l.reverse.dropWhile (· == 48)).reverse)):PC Tp gl 77 [Arg.mk .str (bl l),Arg.mk .str (bl [48])] [.str] R:=by
 refine zo9 (c:=48) (by decide) (by rw[Zf];omega) ?_
 rw[Yh];exact h
theorem z7i(hs:s.length<=4611686018427387904){R:(Bool×Bool×Bt×Bt×Bt)×Bool->Prop}
  (h1:zhn s=true->R (((zj3 s).neg,(zj3 s).low,bl (zj3 s).whole,bl (zj3 s).rest,bl (zj3 s).exp),true)) (h2:zhn s=false->∀a b c d e,R ((a,b,bl c,bl d,bl e),false)):
  PC Tp gl 75 [Arg.mk .str (bl s)] [.pair .bool (.pair .bool (.pair .str (.pair .str .str))),.bool] R:=by
 apply zjx
 refine zld (c:=45) ?_
 dsimp only
 have hS:(zqo s).length<=s.length:=by unfold zqo;split <;> simp
 have hM:=zgw isE (zqo s)
 refine z4w (l:=zqo s) (sep:=[101,69]) (p:=isE) (λc=>by simp[isE]) (by omega) ?_
 dsimp only
 have au:(W8 s).1.length+(W8 s).2.1.length<=(zqo s).length:=hM
 have tail:∀(e:Bs) (low:Bool),((W8 s).2.2=true->zby (zqp s)=true/\low=zfs s/\e=zqp s)->((W8 s).2.2=false->low=false/\e=[]) ->
   PC Tp gl 139 [Arg.mk .str (bl (W8 s).1),Arg.mk .str (bl [46])] [.str,.str,.bool] (λZ:Bt×Bt×Bool=>PC Tp gl 141 [Arg.mk .str Z.1] [.bool] (λab:Bool=>∃aj:Bool->Prop,(((!(!ab))&&Z.2.2)=true->PC Tp gl 141 [Arg.mk .str Z.2.1] [.bool] aj) /\
      ∀ah:Bool,(((!(!ab))&&Z.2.2)=true->aj ah)->((bif (!ab)then true else(bif Z.2.2 then(!ah)else false))=true->R ((s.head?==some 45,(low,(Z.1,(Z.2.1,bl e)))),false)) /\
      ((bif (!ab)then true else(bif Z.2.2 then(!ah)else false))=false->((!((Z.1:Bt).toList==((⟨#[48]⟩:Bt):Bt).toList))=true->(0<=(0:Int)/\(0:Int)<((Z.1).size:Int))) /\
       R ((s.head?==some 45,(low,(Z.1,(Z.2.1,bl e)))),bif ((Z.1:Bt).toList==((⟨#[48]⟩:Bt):Bt).toList)then true else((Zc Z.1 (0:Int).toNat:Int) != 48))))):=by
  intro e low k1 k2
  have am:(!(W8 s).2.2||zby (zqp s))=true/\zfs s=low/\(if(W8 s).2.2 then zqp s else [])=e:=by
   cases hm:(W8 s).2.2 with
   |true=>obtain⟨a,b,c⟩:=k1 hm;exact⟨by simp[a],b.symm,by simp[c]⟩
   |false=>obtain⟨a,b⟩:=k2 hm;exact⟨rfl,by unfold zfs;rw[hm,a];rfl,by simp[b]⟩
  refine z4w (l:=(W8 s).1) (sep:=[46]) (p:=zpf) (λc=>by simp[zpf]) (by omega) ?_
  refine zft ⟨λx=>zby (Jz s).2.1=x,λ_=>zft rfl,λy hy=>?_⟩
  dsimp only
  simp only[show(⟨#[48]⟩:Bt)=bl [48]from rfl,zmv,Zf,Yd]
  change (_->zby (Jz s).2.1=y)at hy
  show((bif (!zby (Jz s).1)then true else(bif (Jz s).2.2 then(!y)else false))=true->R ((s.head?==some 45,(low,(bl (Jz s).1,(bl (Jz s).2.1,bl e)))),false)) /\
      ((bif (!zby (Jz s).1)then true else(bif (Jz s).2.2 then(!y)else false))=false->((!decide ((Jz s).1=[48]))=true->(0<=(0:Int)/\(0:Int)<((Jz s).1.length:Int))) /\
       R ((s.head?==some 45,(low,(bl (Jz s).1,(bl (Jz s).2.1,bl e)))),bif decide ((Jz s).1=[48])then true else(((((Jz s).1[(0:Int).toNat]?).getD 0).toNat:Int) != 48)))
  have an:zby (Jz s).1=true->(Jz s).2.2=true->zby (Jz s).2.1=y:=λa b=>hy (by
   show((!(!zby (Jz s).1))&&(Jz s).2.2)=true
   rw[a,b];rfl)
  refine⟨λhx=>h2 ?_ _ _ _ _ _,λhx=>⟨λ_=>?_,?_⟩⟩
  ·unfold zhn
   cases hd:zby (Jz s).1 with
   |false=>simp
   |true=>
    rw[hd]at hx
    cases hw:(Jz s).2.2 with
    |false=>rw[hw]at hx;simp at hx
    |true=>
     rw[hw]at hx
     have:=an hd hw
     rw[this]
     simp at hx;simp[hx]
  all_goals
   have hd:zby (Jz s).1=true:=by
    cases hd:zby (Jz s).1 with
    |true=>rfl
    |false=>rw[hd]at hx;simp at hx
   have hp:=ztv hd
  ·omega
  ·have h3:(!(Jz s).2.2||zby (Jz s).2.1)=true:=by
    cases hw:(Jz s).2.2 with
    |false=>rfl
    |true=>
     rw[hd,hw]at hx
     have:=an hd hw
     rw[this];simpa using hx
   have h4:(bif decide ((Jz s).1=[48])then true else(((((Jz s).1[(0:Int).toNat]?).getD 0).toNat:Int) != 48))=((Jz s).1==[48]||(Jz s).1.head? != some 48):=by
    rw[show(0:Int).toNat=0 from rfl,ztu hp,Cr,A6];simp
   have ai:zhn s=((Jz s).1==[48]||(Jz s).1.head? != some 48):=by
    unfold zhn;rw[am.1,hd,h3];simp
   rw[h4]
   cases ho:((Jz s).1==[48]||(Jz s).1.head? != some 48)with
   |true=>
    have:=h1 (ai.trans ho)
    unfold zj3 at this
    rw[am.2.1,am.2.2]at this
    exact this
   |false=>exact h2 (ai.trans ho) _ _ _ _ _
 intro K hK
 refine⟨λhm=>?_,λhm=>?_⟩
 ·have af:(W8 s).2.2=true:=hm
  refine zld (c:=45) (l:=(W8 s).2.1) ?_
  dsimp only
  intro K2 ar
  have step:∀low e,low=zfs s->e=zqp s->K2 (bl e) (s.head?==some 45) low (bl []) (bl []) (bl []):=by
   intro low e ap ak
   refine ar _ _ _ _ _ _ (zft ⟨λhx=>?_,λhx=>?_⟩)
   ·refine h2 ?_ _ _ [] [] []
    unfold zhn;rw[af,<-ak]
    have:zby e=false:=by simpa using hx
    rw[this];rfl
   ·refine hK _ _ _ _ _ _ (tail e low (λ_=>⟨by rw[<-ak];simpa using hx,ap,ak⟩) λh=>by rw[af]at h;cases h)
  have ae:zfs s=((W8 s).2.1.head?==some 45):=by unfold zfs;rw[af];rfl
  refine⟨λhx=>?_,λhx=>?_⟩
  ·have aa:((W8 s).2.1.head?==some 45)=false:=by simpa using hx
   rw[aa]
   refine zrv (c:=43) ?_
   simp only[Bv,if_false]
   refine step false _ (by rw[ae,aa]) ?_
   unfold zqp;rw[ae,aa];simp
  ·have aa:((W8 s).2.1.head?==some 45)=true:=by simpa using hx
   rw[aa]
   simp only[if_true]
   refine step true _ (by rw[ae,aa]) ?_
   unfold zqp;rw[ae,aa];simp
 ·have af:(W8 s).2.2=false:=hm
  have he:(W8 s).2.1=[]:=(zak af).2
  have:=tail [] false (λh=>by rw[af]at h;cases h) λ_=>⟨rfl,rfl⟩
  show K (bl (W8 s).2.1) _ _ _ _ _
  rw[he]
  exact hK _ _ _ _ _ _ this
theorem qat{α β γ δ:Type}{B:α->β->γ->δ->Prop}{c:Bool}{a b:α}{x:β}{y:γ}{z:δ}(h:∀e,e=(bif c then a else b)->B e x y z):∀K:α->β->γ->δ->Prop,(∀e x y z,B e x y z->K e x y z)->(c=true->K a x y z)/\(c=false->K b x y z):=
 λK hK=>⟨λhc=>hK _ _ _ _ (h _ (by subst hc;rfl)),λhc=>hK _ _ _ _ (h _ (by subst hc;rfl))⟩
theorem w64{n:Int}(h:-4611686018427387904<=n/\n<=4611686018427387904):Ar .i64 n=n:=wrap64 (by omega) (by omega)
set_option maxHeartbeats 1000000 in
theorem zhz(hs:s.length<=1152921504606846976){R:(Bool×Bt×Int)×Int->Prop}(h:R (nmB (Zh s).1,(Zh s).2)):PC Tp gl 25 [Arg.mk .str (bl s)] [tN,.int .i64] R:=by
 apply zi8
 refine z7i (by omega) (λah=>?_) (λah a b c d e=>?_)
 rotate_left
 ·refine zjc ⟨λ_=>?_,λhx=>by cases hx⟩
  have:zdi s=none:=by unfold zdi;simp[ah]
  unfold Zh at h
  rw[this]at h;exact h
 ·have Z:zdi s=some (zj3 s):=by unfold zdi;simp[ah]
  have aA:=zlc Z
  obtain⟨d1,d2,d3⟩:=zru Z
  unfold Zh at h
  rw[Z]at h
  simp only at h
  generalize zj3 s=x at *
  refine zjc ⟨λhx=>(by cases hx),λ_=>?_⟩
  simp only[Zf]
  rw[w64 (by omega)]
  refine⟨λhx=>?_,λhx=>?_⟩
  ·rw[if_pos (by simp at hx;omega)]at h;exact h
  ·rw[if_neg (by simp at hx;omega)]at h
   refine⟨λab=>?_,λab=>?_⟩
   ·rw[if_pos (by simp at ab;omega)]at h;exact h
   ·rw[if_neg (by simp at ab;omega)]at h
    have ar:x.whole.length+x.rest.length<=1000:=by simp at hx;omega
    have aC:x.exp.all Q1=true:=d3
    generalize hE:x.exp.dropWhile (· == 48)=E at *
    have ae:E.all Q1=true:=by rw[<-hE];exact zbh d3
    have ap:E.length<=9:=by simp at ab;omega
    have aB:Zv E<10 ^ 9:=zfv ap ae
    refine⟨λe _ _ _ p=>p.1=bl E/\p.2<=E.length/\e=(Zv (E.take p.2):Int),λ_ _ _ _ p=>E.length-p.2,⟨rfl,by omega,by simp[Zv]⟩,?_⟩
    rintro e b1 b2 b3 ⟨_,p⟩ ⟨rfl,hp,rfl⟩
    simp only at hp ⊢
    rw[zpc,zpd]
    refine⟨λhc=>⟨hc,?_⟩,λhc=>?_⟩
    ·have aa:p<E.length:=by simpa using hc
     have hd:=z4v ae aa
     have au:E.drop p=E[p]::E.drop (p+1):=A9 aa
     rw[zja E p aa,au,Xl (by omega)]
     have aE:=zfv (n:=9) (l:=E.take p) (by simp;omega) (ztx ae p)
     rw[zcf (by omega) (by omega),w64 (n:=10*_) (by omega),w64 (n:=(_:Int)-48) (by omega),w64 (by omega)]
     simp only
     refine⟨⟨trivial,by omega,?_⟩,by omega⟩
     rw[zjb aa];omega
    ·have aa:¬p<E.length:=by simpa using hc
     have am:p=E.length:=by omega
     subst am
     rw[BL]
     apply qat
     intro e7 an
     refine⟨by unfold Qk;omega,?_⟩
     rw[Z2]
     refine zjc ?_
     rw[show(⟨#[]⟩:Bt)=bl []from rfl]
     simp only[zmv]
     have hD:(x.whole++x.rest).all Q1=true:=by rw[List.all_append,zfw d1,d2];rfl
     refine⟨λai=>?_,λai=>?_⟩
     ·rw[if_pos (by simpa using ai)]at h;exact h
     ·have af:(x.whole++x.rest).dropWhile (· == 48)≠[]:=by simpa using ai
      rw[if_neg af]at h
      have az:=Jk (x.whole++x.rest) (· == 48)
      rw[AF]at az
      refine zwb (by omega) ?_
      have aF:=(zfx hD af).2.1
      have ay:=zwa hD af (by rw[AF];exact ar)
      simp only[Zf,show((List.dropWhile (λx=>x==48) (x.whole++x.rest)).reverse.dropWhile (λx=>x==48)).reverse=Yb (x.whole++x.rest)from rfl]
      have ak:e7=if x.low then-(Zv E:Int)else(Zv E:Int):=by rw[an];cases x.low <;> simp;exact w64 (by omega)
      have hb:-1000000000<=e7/\e7<=1000000000:=by rw[ak];split <;> omega
      rw[w64 (n:=e7-_) (by omega),w64 (n:=e7-_+_) (by omega),w64 (by omega)]
      refine ztw (n:=(x.neg,Yb (x.whole++x.rest),e7-(x.rest.length:Int)+(((x.whole++x.rest).dropWhile (· == 48)).length:Int)-((Yb (x.whole++x.rest)).length:Int))) (by simp only;omega) ?_
      rw[ay]
      change R (nmB (if -1000000<=(if x.low=true then-(Zv E:Int)else(Zv E:Int))-(x.rest.length:Int)+(((x.whole++x.rest).dropWhile (· == 48)).length:Int)-((Yb (x.whole++x.rest)).length:Int)/\(if x.low=true then-(Zv E:Int)else(Zv E:Int))-(x.rest.length:Int)+(((x.whole++x.rest).dropWhile (· == 48)).length:Int)-((Yb (x.whole++x.rest)).length:Int)<=1000000 then((x.neg,Yb (x.whole++x.rest),(if x.low=true then-(Zv E:Int)else(Zv E:Int))-(x.rest.length:Int)+(((x.whole++x.rest).dropWhile (· == 48)).length:Int)-((Yb (x.whole++x.rest)).length:Int)),0)else((false,[],0),4)).1,_)at h
      rw[<-ak]at h
      refine⟨λaj=>?_,λaj=>?_⟩
      ·rw[if_neg (by simp at aj;omega)]at h;exact h
      ·rw[if_pos (by simp at aj;omega)]at h;exact h
end
section
variable {gl:Fr}
theorem z7j{a b:Bs}(h:a.length+b.length<=4611686018427387904):Qk ((bl a).size+(bl b).size):=by
 unfold Qk;rw[Zf,Zf];omega
theorem zrw(hg:Pow gl){n:Nm}(hn:n.2.1.length<=4611686018427387904){R:Bt->Prop}(h:R (bl (We n))):PC Tp gl 26 [Arg.mk tN (nmB n)] [.str] R:=by
 apply zjv
 refine ztw hn ⟨λhx=>?_,λhx=>?_⟩
 ·have:Wm n=false:=by simpa using hx
  have e:We n=[]:=by unfold We;simp[this]
  rw[e]at h;exact h
 ·have hr:Wm n=true:=by simpa using hx
  obtain⟨hl,ah,ae⟩:=zrs hr
  unfold We at h
  rw[if_pos hr]at h
  simp only[show(⟨#[]⟩:Bt)=bl []from rfl,zmv]
  refine⟨λaa=>?_,λaa=>?_⟩
  ·rw[if_pos (by simpa using aa)]at h;exact h
  ·rw[if_neg (by simpa using aa)]at h
   intro K hK
   have key:∀t:Bs,t=(if n.1 then [45]else [])++n.2.1->K (bl t):=by
    intro t ht
    have ab:t.length<=1001:=by rw[ht];split <;> simp <;> omega
    rw[<-ht]at h
    refine hK _ ⟨λZ=>?_,λZ=>?_⟩
    ·rw[if_neg (by simpa using Z)]at h
     have af:=Go.X.itoa_len n.2.2
     refine zy5 hg (by omega) (by omega) ?_
     refine⟨z7j (a:=[101]) (by simp;omega),?_⟩
     rw[show(⟨#[101]⟩:Bt)=bl [101]from rfl,Z2,Z2]
     exact⟨z7j (by simp;omega),h⟩
    ·rw[if_pos (by simpa using Z),Bu]at h;exact h
   refine⟨λZ=>⟨z7j (a:=[45]) (by simp;omega),?_⟩,λZ=>?_⟩
   ·rw[show(⟨#[45]⟩:Bt)=bl [45]from rfl,Z2]
    exact key _ (by rw[if_pos (by simpa using Z)])
   ·exact key _ (by rw[if_neg (by simpa using Z)];rfl)
theorem qdh(hg:Pow gl){n:Int}(h1:-9223372036854775808<=n)(h2:n<=9223372036854775807){R:Bool×Bt×Int->Prop}(h:R (nmB (Zh (Lib.itoa n)).1)):PC Tp gl 110 [Arg.mk (.int .i64) n] [tN] R:=by
 apply zo3
 refine zy5 hg h1 h2 (zhz ?_ h)
 have:=Go.X.itoa_len n
 have Z:∀u:Nat,u<10 ^ 20->(Lib.decDigits u).length<=20:=by
  have:∀(k u:Nat),u<10 ^ (k+1)->(Lib.decDigits u).length<=k+1:=by
   intro k
   induction k with
   |zero=>intro u hu;rw[Lib.decDigits,dif_pos (by simpa using hu)];simp
   |succ k ih=>
    intro u hu
    rw[Lib.decDigits]
    split
    ·simp
    ·have:=ih (u / 10) (by rw[Nat.pow_succ]at hu;omega)
     simp;omega
  exact this 19
 have:(Lib.itoa n).length<=21:=by
  unfold Lib.itoa
  split
  ·have:=Z n.natAbs (by omega);simp;omega
  ·have:=Z n.toNat (by omega);omega
 omega
end
section
theorem zty{c:UInt8}{n:Int}(d:UInt8)(hn:n=(d.toNat:Int)):((c.toNat:Int) != n)=!(c==d):=by
 subst hn
 rw[A6]
 simp only[bne_iff_ne,ne_eq,Int.natCast_inj,Dh,beq_eq_false_iff_ne]
 exact⟨λh e=>h (by rw[e]),λh e=>h (D7.1 e)⟩
end
section
theorem qau{n:Int}(h1:0<=n)(h2:n<256):Ar .u8 n=n:=by
 unfold Ar
 have e:(2:Int) ^ AB .u8=256:=by decide
 simp only[e]
 have hs:Do .u8=false:=rfl
 simp only[hs,DL,Bv,if_false]
 omega
end
end Go.X
end
section
namespace Go.X
open Go Go.Lib
section
variable {a b b0 b1 b2 b3 b4 b5 b6 b7:Nat}
theorem zy6(l:Bs)(a:Nat):l.foldl (λn c=>10*n+(c.toNat-48)) a=a*10 ^ l.length+Zv l:=by
 induction l generalizing a with
 |nil=>simp[Zv]
 |cons c t ih=>
  simp only[List.foldl_cons,AN,Zv]
  rw[ih,ih (10*0+(c.toNat-48)),Nat.pow_succ]
  have:(10*a+(c.toNat-48))*10 ^ t.length=a*(10 ^ t.length*10)+(c.toNat-48)*10 ^ t.length:=by
   rw[Cp,C4 10 a,Nat.mul_assoc,C4 10 (10 ^ t.length)]
  rw[this];simp;omega
theorem zmw(a b:Bs):Zv (a++b)=Zv a*10 ^ b.length+Zv b:=by
 rw[Zv,List.foldl_append,zy6];rfl
theorem zy7(ha:a<18446744073709551616)(hb:b<18446744073709551616):Ar .u64 (((AH (AB .u64) (a:Int)) ||| (AH (AB .u64) (b:Int))).toNat:Int)=((a ||| b:Nat):Int):=by
 have Z:AB .u64=64:=rfl
 have e:((AH (AB .u64) (a:Int)) ||| (AH (AB .u64) (b:Int))).toNat=a ||| b:=by
  rw[BitVec.toNat_or,DN,DN,Eb,Eb,Z,DW (by omega),DW (by omega)]
 rw[e]
 have aa:a ||| b<2 ^ 64:=DI (by omega) (by omega)
 unfold Ar
 have e1:(2:Int) ^ AB .u64=18446744073709551616:=by decide
 simp only[e1]
 have hs:Do .u64=false:=rfl
 simp only[hs,DL,Bv,if_false]
 omega
theorem z2n(ha:a<18446744073709551616)(hb:b<18446744073709551616):Ar .u64 (((AH (AB .u64) (a:Int)) &&& (AH (AB .u64) (b:Int))).toNat:Int)=((a &&& b:Nat):Int):=by
 have Z:AB .u64=64:=rfl
 have e:((AH (AB .u64) (a:Int)) &&& (AH (AB .u64) (b:Int))).toNat=a &&& b:=by
  rw[BitVec.toNat_and,DN,DN,Eb,Eb,Z,DW (by omega),DW (by omega)]
 rw[e]
 have aa:a &&& b<2 ^ 64:=Nat.and_lt_two_pow _ (by omega)
 unfold Ar
 have e1:(2:Int) ^ AB .u64=18446744073709551616:=by decide
 simp only[e1]
 have hs:Do .u64=false:=rfl
 simp only[hs,DL,Bv,if_false]
 omega
theorem zy8{n:Int}(h1:0<=n)(h2:n<18446744073709551616):Ar .u64 n=n:=by
 unfold Ar
 have e1:(2:Int) ^ AB .u64=18446744073709551616:=by decide
 simp only[e1]
 have hs:Do .u64=false:=rfl
 simp only[hs,DL,Bv,if_false]
 omega
theorem zci{n:Nat}(h:n<256):n.testBit 7=false↔n<128:=by
 rw[Nat.testBit_eq_decide_div_mod_eq]
 simp;omega
def MASK:Nat:=9259542123273814144
theorem z2o:∀i,i<8->MASK.testBit (8*i+7)=true:=by decide
theorem z2p{w:Nat}(h:w &&& MASK=0):∀i,i<8->w.testBit (8*i+7)=false:=by
 intro i hi
 have:=congrArg (λx=>x.testBit (8*i+7)) h
 simp only[Nat.testBit_and,z2o i hi,Bool.and_true,Nat.zero_testBit]at this
 exact this
def zy9(b0 b1 b2 b3 b4 b5 b6 b7:Nat):Nat:=((((((b0 ||| b1*2 ^ 8) ||| b2*2 ^ 16) ||| b3*2 ^ 24) ||| b4*2 ^ 32) ||| b5*2 ^ 40) ||| b6*2 ^ 48) ||| b7*2 ^ 56
theorem qav(b k j:Nat):(b*2 ^ k).testBit j=(decide (k<=j)&&b.testBit (j-k)):=by
 rw[Nat.testBit_mul_two_pow]
theorem zwc{j:Nat}:(zy9 b0 b1 b2 b3 b4 b5 b6 b7).testBit j=(b0.testBit j||(decide (8<=j)&&b1.testBit (j-8))||(decide (16<=j)&&b2.testBit (j-16))||(decide (24<=j)&&b3.testBit (j-24))||(decide (32<=j)&&b4.testBit (j-32))||(decide (40<=j)&&b5.testBit (j-40))||(decide (48<=j)&&b6.testBit (j-48))||(decide (56<=j)&&b7.testBit (j-56))):=by
 unfold zy9
 simp only[Nat.testBit_or,qav]
theorem zrx(h:∀i,i<8->(zy9 b0 b1 b2 b3 b4 b5 b6 b7).testBit (8*i+7)=false)(r0:b0<256)(r1:b1<256)(r2:b2<256)(r3:b3<256)(r4:b4<256)(r5:b5<256)(r6:b6<256)(r7:b7<256):
  b0<128/\b1<128/\b2<128/\b3<128/\b4<128/\b5<128/\b6<128/\b7<128:=by
 have h0:=h 0 (by decide);have h1:=h 1 (by decide);have h2:=h 2 (by decide);have h3:=h 3 (by decide)
 have h4:=h 4 (by decide);have h5:=h 5 (by decide);have h6:=h 6 (by decide);have h7:=h 7 (by decide)
 rw[zwc]at h0 h1 h2 h3 h4 h5 h6 h7
 simp only[Cu,CW]at h0 h1 h2 h3 h4 h5 h6 h7
 refine⟨(zci r0).1 ?_,(zci r1).1 ?_,(zci r2).1 ?_,(zci r3).1 ?_,(zci r4).1 ?_,(zci r5).1 ?_,(zci r6).1 ?_,(zci r7).1 ?_⟩
 ·exact h0.1.1.1.1.1.1.1
 ·rcases h1.1.1.1.1.1.1.2 with h|h
  ·simp at h
  ·simpa using h
 ·rcases h2.1.1.1.1.1.2 with h|h
  ·simp at h
  ·simpa using h
 ·rcases h3.1.1.1.1.2 with h|h
  ·simp at h
  ·simpa using h
 ·rcases h4.1.1.1.2 with h|h
  ·simp at h
  ·simpa using h
 ·rcases h5.1.1.2 with h|h
  ·simp at h
  ·simpa using h
 ·rcases h6.1.2 with h|h
  ·simp at h
  ·simpa using h
 ·rcases h7.2 with h|h
  ·simp at h
  ·simpa using h
theorem zhb{l:Bs}:∀{n:Nat},n<=l.length->(∀i (hi:i<l.length),i<n->l[i].toNat<128)->Ys l=Ys (l.drop n)
 |0,_,_=>by simp
 |n+1,hn,h=>by
  rw[zhb (n:=n) (by omega) (λi hi Z=>h i hi (by omega))]
  rw[A9 (show n<l.length by omega),zla (h n (by omega) (by omega))]
end
end Go.X
end
section
namespace Go.X
section
variable {gl:Fr} {l:Bs}
def bN(l:Bs)(i:Nat):Nat:=(l[i]?.getD 0).toNat
theorem zal(l:Bs)(i:Nat):bN l i<256:=(l[i]?.getD 0).toNat_lt
theorem ztz(l:Bs)(i:Nat):Zc (bl l) i=((bN l i:Nat):Int):=Yd l i
def Wn(l:Bs):Nat:=zy9 (bN l 0) (bN l 1) (bN l 2) (bN l 3) (bN l 4) (bN l 5) (bN l 6) (bN l 7)
theorem Qy(l:Bs):Wn l<18446744073709551616:=by
 have h:=zal l
 have o:∀a b:Nat,a<2 ^ 64->b<2 ^ 64->a ||| b<2 ^ 64:=λa b ha hb=>DI ha hb
 show _<2 ^ 64
 unfold Wn zy9
 refine o _ _ (o _ _ (o _ _ (o _ _ (o _ _ (o _ _ (o _ _ ?_ ?_) ?_) ?_) ?_) ?_) ?_) ?_
 ·have:=h 0;omega
 ·have:=h 1;omega
 ·have:=h 2;omega
 ·have:=h 3;omega
 ·have:=h 4;omega
 ·have:=h 5;omega
 ·have:=h 6;omega
 ·have:=h 7;omega
theorem zd9(a k:Nat)(c:Int)(hc:c=((2 ^ k:Nat):Int)):(a:Int)*c=((a*2 ^ k:Nat):Int):=by rw[hc];omega
theorem zea(hl:8<=l.length){R:Int->Prop}(h:R (Wn l:Int)):PC Tp gl 217 [Arg.mk .str (bl l)] [.int .u64] R:=by
 apply Xk
 refine⟨λhx=>(by cases hx),λ_=>?_⟩
 simp only[Zf,ztz,show(0:Int).toNat=0 from rfl,show(1:Int).toNat=1 from rfl,show(2:Int).toNat=2 from rfl,show(3:Int).toNat=3 from rfl,show(4:Int).toNat=4 from rfl,show(5:Int).toNat=5 from rfl,show(6:Int).toNat=6 from rfl,show(7:Int).toNat=7 from rfl]
 refine⟨by omega,by omega,by omega,by omega,by omega,by omega,by omega,by omega,?_⟩
 have r:=zal l
 have r0:=r 0;have r1:=r 1;have r2:=r 2;have r3:=r 3;have r4:=r 4;have r5:=r 5;have r6:=r 6;have r7:=r 7
 have m1:=zd9 (bN l 1) 8 (2 ^ 8) (by decide);have m2:=zd9 (bN l 2) 16 (2 ^ 16) (by decide);have m3:=zd9 (bN l 3) 24 (2 ^ 24) (by decide);have m4:=zd9 (bN l 4) 32 (2 ^ 32) (by decide)
 have m5:=zd9 (bN l 5) 40 (2 ^ 40) (by decide);have m6:=zd9 (bN l 6) 48 (2 ^ 48) (by decide);have m7:=zd9 (bN l 7) 56 (2 ^ 56) (by decide)
 have o:∀a b:Nat,a<18446744073709551616->b<18446744073709551616->a ||| b<18446744073709551616:=λa b ha hb=>DI (n:=64) ha hb
 have w:∀n:Nat,n<18446744073709551616->Ar .u64 (n:Int)=(n:Int):=λn hn=>zy8 (by omega) (by omega)
 rw[w (bN l 0) (by omega),w (bN l 1) (by omega),w (bN l 2) (by omega),w (bN l 3) (by omega),w (bN l 4) (by omega),w (bN l 5) (by omega),w (bN l 6) (by omega),w (bN l 7) (by omega),m1,m2,m3,m4,m5,m6,m7]
 rw[w (bN l 1*2 ^ 8) (by omega),w (bN l 2*2 ^ 16) (by omega),w (bN l 3*2 ^ 24) (by omega),w (bN l 4*2 ^ 32) (by omega),w (bN l 5*2 ^ 40) (by omega),w (bN l 6*2 ^ 48) (by omega),w (bN l 7*2 ^ 56) (by omega)]
 have q1:bN l 0 ||| bN l 1*2 ^ 8<18446744073709551616:=o _ _ (by omega) (by omega)
 have q2:=o _ (bN l 2*2 ^ 16) q1 (by omega)
 have q3:=o _ (bN l 3*2 ^ 24) q2 (by omega)
 have q4:=o _ (bN l 4*2 ^ 32) q3 (by omega)
 have q5:=o _ (bN l 5*2 ^ 40) q4 (by omega)
 have q6:=o _ (bN l 6*2 ^ 48) q5 (by omega)
 rw[zy7 (by omega) (by omega),zy7 q1 (by omega),zy7 q2 (by omega),zy7 q3 (by omega),zy7 q4 (by omega),zy7 q5 (by omega),zy7 q6 (by omega)]
 exact h
theorem J0(hl:8<=l.length)(h:Wn l &&& MASK=0):Ys l=Ys (l.drop 8):=by
 have hs:=zrx (z2p h) (zal l 0) (zal l 1) (zal l 2) (zal l 3) (zal l 4) (zal l 5) (zal l 6) (zal l 7)
 refine zhb hl λi hi aa=>?_
 have e:∀j (hj:j<l.length),bN l j=l[j].toNat:=λj hj=>by unfold bN;rw[zts hj]
 obtain⟨s0,s1,s2,s3,s4,s5,s6,s7⟩:=hs
 have Z:i=0\/i=1\/i=2\/i=3\/i=4\/i=5\/i=6\/i=7:=by omega
 rw[<-e i hi]
 rcases Z with rfl|rfl|rfl|rfl|rfl|rfl|rfl|rfl <;> assumption
theorem zmx{a b:Nat}(h:(a ||| b) &&& MASK=0):a &&& MASK=0/\b &&& MASK=0:=by
 have key:∀x y:Nat,x ||| y=0->x=0:=by
  intro x y Z
  apply Nat.eq_of_testBit_eq
  intro i
  have:=congrArg (λz=>z.testBit i) Z
  simp only[Nat.testBit_or,Nat.zero_testBit,Cu]at this
  rw[this.1,Nat.zero_testBit]
 have e:(a ||| b) &&& MASK=(a &&& MASK) ||| (b &&& MASK):=by
  apply Nat.eq_of_testBit_eq
  intro i
  simp only[Nat.testBit_and,Nat.testBit_or,Bool.and_or_distrib_right]
 rw[e]at h
 exact⟨key _ _ h,key _ _ (by rw[Nat.or_comm];exact h)⟩
theorem zph{n:Int}{k:Nat}(hn:n=(k:Int)):(bl l).extract n.toNat ((l.length:Int)).toNat=bl (l.drop k):=by
 subst hn
 rw[AK,AK,Jy,Cv (by simp)]
theorem Tabs.first(h:Tabs gl){c:Nat}(hc:c<256):zis gl 0 (0+c*1) (.int .u8 (Lib.firstT c)):=by
 obtain⟨⟨cs,a,b⟩,_⟩:=h
 exact⟨cs,a,by rw[AX,C5];exact b c hc⟩
theorem Tabs.acc(h:Tabs gl){i:Nat}(hi:i<16):zis gl 1 (0+i*2) (.int .u8 (Lib.accLo i))/\zis gl 1 (0+i*2+1) (.int .u8 (Lib.accHi i)):=by
 obtain⟨_,cs,a,b⟩:=h
 exact⟨⟨cs,a,by rw[AX,C4];exact(b i hi).1⟩,⟨cs,a,by rw[AX,C4];exact(b i hi).2⟩⟩
end
end Go.X
end
