/- A part of the proof: nothing is stated here for its own sake. -/
import Derived.Test.YtbploiccompocaaGreatDoorPkB
import Derived.ProofKit
import Derived.OpenShut
import Derived.ShutString
import Derived.SizedLaws
import Derived.LaidSub
import Derived.Lib.LaidU8
import Derived.Test.YtbploiccompocaaGreatDoorProg
import Derived.Shelf.Strings.Trim
import Derived.Shelf.Small.Wraps
import Derived.Shelf.Utf8.RuneCount
import Derived.Shelf.Strconv.Itoa3
import Derived.Shelf.Strconv.AtoiErr
import Derived.Shelf.Strconv.ErrVarAll
import Derived.Shelf.Strconv.ErrVarParseInt
import Derived.Shelf.Strings.Shaped
import Derived.Shelf.Strings.SplitShaped
import Derived.Shelf.Strings.IndexAnyAll
import Derived.Shelf.Strings.Explode
import Derived.Shelf.Strings.Repeat
import Derived.Shelf.Unicode.DecodeLast
import Derived.Shelf.Strings.BuilderCap
import Derived.Shelf.Slices.Turned
import Derived.Shelf.Slices.Clone
import Derived.Shelf.Slices.Cells
import Derived.Shelf.Slices.Empties
import Derived.Shelf.SlicesE.Clone
open _root_.Go.Addr renaming add->Aj
open _root_.Array renaming getD_eq_getD_getElem?->Bi,getElem?_append_left->CB,getElem?_eq_getElem->AK,getElem?_eq_some_iff->Ac,getElem?_push->BH,getElem?_toList->AU,range->EV,replicate->Bc,toList->D9,toList_map->C3
open _root_.BitVec renaming ofInt->As
open _root_.Bool renaming and_eq_true->AI,and_true->EG,cond_false_right->C9,cond_true_left->Ca,eq_iff_iff->AJ,false_eq_true->A0,false_or->Ec,or_eq_false_iff->Cx,or_eq_true->Cp,true_and->B0
open _root_.Go.Builtin renaming append_->Ax
open _root_.Go.Code renaming cond->EC,region->CX
open _root_.Go.Instr renaming fill->E0
open _root_.Int renaming toNat_natCast->Ah
open _root_.Go.IntKind renaming bits->Ap,signed->Eo,wrap->Ab
open _root_.List renaming all_eq_true->AP,append_assoc->AQ,append_nil->Ba,cons_append->A3,drop_drop->Ce,drop_eq_getElem_cons->AL,drop_eq_nil_of_le->A7,drop_zero->A2,eq_nil_of_length_eq_zero->Aw,exists_cons_of_ne_nil->Cg,ext_getElem?->AZ,flatMap_cons->DR,getD_eq_getElem?_getD->Bm,getElem?_append_left->Bg,getElem?_drop->AE,getElem?_eq_getElem->Ai,getElem?_eq_none->Bj,getElem?_eq_some_iff->Az,getElem?_map->Cc,getElem?_take->AC,getElem_mem->Ay,isPrefixOf->Bw,length->CN,length_append->Ar,length_cons->Av,length_drop->AX,length_eq_zero_iff->Cd,length_erase_of_mem->CL,length_map->Bv,length_pos_iff->A5,length_range->DN,length_singleton->CH,mapM_cons->En,mem_append->An,mem_append_left->Ao,mem_append_right->AB,mem_cons->Ad,mem_cons_of_mem->Af,mem_cons_self->Aq,mem_map->BC,mem_of_mem_take->BR,mem_range->BX,mem_singleton->Bu,nil_append->BJ,nodup_range->Dm,pairwise_cons->BL,range->BE,take_append_drop->BD,take_length->AN,take_of_length_le->Be,take_succ_cons->B5,take_succ_eq_append_getElem->Am
open _root_.List.cons renaming injEq->Ci
open _root_.Nat renaming add_zero->Db,blt_eq->Cz,eq_of_beq_eq_true->Ag,le_mul_of_pos_right->Do,le_of_ble_eq_true->BM,le_refl->Ae,lt_of_lt_of_le->Dq,lt_or_ge->AR,mul_one->B6,zero_add->AD,zero_le->CW,zero_mul->Dc
open _root_.Go.Next renaming value->D2
open _root_.Go.Op renaming bytesLess->CV
open _root_.Option renaming bind_some->Ck
open _root_.Option.some renaming inj->Au,injEq->Aa
open _root_.Pure renaming pure->Dl
open _root_.Go.Proofs.Tryz renaming func142->ER,func171->ES,func191->Et,func221->De,func222->Eu,func231->Dw,func232->Dv,func236->Df,func237->Es,isAgg0->Cv,isAgg119->EH,isAgg154->EM,isAgg172->EI,isAgg174->EJ,isAgg175->EK,isAgg176->Cj,isAgg20->ET,isAgg200->Dk,isAgg201->EN,isAgg21->Dg,isAgg3->BU,isAgg4->Cf,isAgg5->B7,isAgg9->BV,isAgg99->Ez,prog->AF,sizeOf0->Cn,sizeOf119->Ev,sizeOf154->EA,sizeOf172->Ew,sizeOf174->Ex,sizeOf175->Ey,sizeOf176->BZ,sizeOf20->EL,sizeOf200->C6,sizeOf201->EB,sizeOf21->CZ,sizeOf3->BP,sizeOf4->BW,sizeOf5->BS,sizeOf9->BQ,sizeOf99->Ee,underlying0->BI,underlying119->Dx,underlying129->C7,underlying154->DD,underlying172->Dz,underlying174->C5,underlying175->DC,underlying176->BG,underlying20->DW,underlying200->Cs,underlying201->DF,underlying21->Co,underlying3->Bh,underlying4->Bn,underlying5->Bo,underlying9->A9,underlying99->Dh,zeroValue0->BO,zeroValue119->DT,zeroValue154->DX,zeroValue174->DU,zeroValue175->DV,zeroValue176->BK,zeroValue20->Ea,zeroValue200->CE,zeroValue201->DY,zeroValue21->Cw,zeroValue3->Bq,zeroValue4->BF,zeroValue5->Bz,zeroValue9->Br,zeroValue99->Dp
open _root_.UInt8 renaming toNat_inj->Da
open _root_.Go.Value.slice renaming injEq->AO
open _root_.Go.Value renaming string->AW
set_option linter.unusedVariables false
set_option maxRecDepth 100000
namespace Go.X
end Go.X
namespace Go.Proofs
end Go.Proofs
open Go Go.X Go.Proofs
section
namespace Go.X
section
variable {P:Program} {t tr:TypeId} {n d m i id:Nat} {cs R C:CS} {γ:Gh} {h:zb} {o:Oper} {gl:Fr} {c:qb} {ops:Array Oper} {pu ord:List Nat} {listed pl:Array Bool} {a:Act}
variable {h0 : zb} {W : Nat -> Prop} {M0 : Fr}
structure It where
 k:Nat
 dst:Option Nat
 ch:qb
 av:AV
 nb:Option (Nat×Ch)
def itE:List It->qw
 |[]=>[]
 |i::l=>match i.dst with
  |some s=>(s,i.ch,i.av)::itE l
  |none=>itE l
def itC:List It->CS
 |[]=>[]
 |i::l=>match i.nb with
  |some b=>b::itC l
  |none=>itC l
theorem W4{x:Nat×qb×AV}:∀{l:List It},x∈itE l↔∃i∈l,i.dst=some x.1/\i.ch=x.2.1/\i.av=x.2.2
 |[]=>by simp[itE]
 |i::l=>by
  simp only[itE]
  split
  ·rename_i s hs
   rw[Ad,W4 (l:=l)]
   constructor
   ·rintro(rfl|⟨j,hj,h⟩)
    ·exact⟨i,Aq,hs,rfl,rfl⟩
    ·exact⟨j,Af _ hj,h⟩
   ·rintro⟨j,hj,h1,h2,h3⟩
    rcases Ad.1 hj with rfl|hj
    ·left;rw[hs]at h1;cases h1;rw[h2,h3]
    ·exact .inr ⟨j,hj,h1,h2,h3⟩
  ·rename_i hs
   rw[W4 (l:=l)]
   constructor
   ·rintro⟨j,hj,h⟩;exact⟨j,Af _ hj,h⟩
   ·rintro⟨j,hj,h1,h2,h3⟩
    rcases Ad.1 hj with rfl|hj
    ·rw[hs]at h1;cases h1
    ·exact⟨j,hj,h1,h2,h3⟩
def W5(S:List Nat):qw->qw
 |[]=>[]
 |(i,c,v)::e=>bif memN S i then(i,c,v)::W5 S e else W5 S e
theorem Y3{S:List Nat}{x:Nat×qb×AV}:∀{e:qw},x∈W5 S e->x∈e/\x.1∈S
 |[],h=>by cases h
 |(i,c,v)::e,h=>by
  simp only[W5]at h
  cases hm:memN S i with
  |true=>
   rw[hm]at h
   rcases Ad.1 h with rfl|h
   ·exact⟨Aq,zof hm⟩
   ·exact⟨Af _ (Y3 h).1,(Y3 h).2⟩
  |false=>rw[hm]at h;exact⟨Af _ (Y3 h).1,(Y3 h).2⟩
def qcd(P:Program)(tr:TypeId)(t:TypeId)(n:Nat)(ps:List (Nat×AV))(cs:CS)(K:AV->Prop):Prop:=
 match z5p P t with
 |some el=>match z9j P tr 8 el,zgp P el (n*yr P el)with
  |some ty,some zs=>bif Nat.beq (yr P el) (sz ty)then(bif Nat.ble (n*yr P el) 16777216 then(bif Nat.blt 0 (yr P el)then(match zp3 (λi=>some (i*yr P el,yr P el)) (zs.map .v) ps with
   |some r=>match X1 cs ty n r with
    |some (ys,[])=>K (.g (.a (.dc ty ys)))
    |_=>False
   |none=>False)else False)else False)else False
  |_,_=>False
 |none=>False
theorem zim{t el:TypeId}(hu:P.underlying t=some (.slice el))(aa:yu P el=true)(af:n*yr P el<=16777216){zs:List Value}(O:zgp P el (n*yr P el)=some zs){ps:Array (Nat×Value)}{c1:List Value}
  (e6:E0 (λi=>some (i*yr P el,yr P el)) zs.toArray ps.toList=some c1.toArray) (B:World) (e:Nat) (h:zb):
  (Instr.buildSlice t n ps).run P (mk B e h)=.ok (.slice (some ⟨h.size,0,none⟩) n n) (mk B e (h.push (.cells c1.toArray el))):=by
 have hq:=QExec.underlying (h:=h) hu B e
 have hs:=QExec.sizeOf (P:=P) (h:=h) (jj aa).choose_spec B e
 unfold Instr.buildSlice
 rw[Sem.run_bind,hq]
 simp only[Result.andThen_ok]
 rw[Sem.run_bind,hs]
 simp only[Result.andThen_ok]
 rw[if_neg (by omega)]
 unfold zgp at O
 by_cases Z:n*yr P el=0
 ·rw[if_pos Z]
  rw[Z]at O ⊢
  simp at O
  subst O
  simp only[Sem.run_bind,Sem.run_pure,Result.andThen_ok]
  have e7:Array.map (λx=>(#[]:Array Value)[x % (#[]:Array Value).size]!) (EV 0)=([]:List Value).toArray:=by simp
  rw[e7,e6]
  rfl
 ·rw[if_neg Z]
  have hb:Nat.beq (n*yr P el) 0=false:=by
   cases hh:Nat.beq (n*yr P el) 0 with
   |false=>rfl
   |true=>exact absurd (Ag hh) Z
  rw[hb]at O
  simp only[cond_false]at O
  split at O
  ·rename_i z ae
   have ac:=Y2 ae h B e
   simp only[Aa]at O
   rw[Sem.run_bind,ac]
   simp only[Result.andThen_ok,Sem.run_bind,Sem.run_pure]
   have e7:Array.map (λx=>z.cells[x % z.cells.size]!) (EV (n*yr P el))=zs.toArray:=by
    rw[<-O]
   rw[e7,e6]
   rfl
  ·cases O
theorem Inv.newFrozen(I:Inv h0 W M0 cs γ h)(O:Array Value)(el:TypeId):Inv h0 W M0 cs (zen γ h.size O) (h.push (.cells O el))/\Gx none γ (zen γ h.size O)/\(zen γ h.size O).M h.size=some O:=by
 have aa:γ.M h.size=none:=I.ag.none (Ae _)
 have hM:Fr.le γ.M (zen γ h.size O).M:=by
  intro b cc eM
  have:Nat.beq b h.size=false:=by
   cases hb:Nat.beq b h.size with
   |false=>rfl
   |true=>rw[Ag hb,aa]at eM;cases eM
  simp[zen,this,eM]
 have Z:AgM (zen γ h.size O).M (h.push (.cells O el)):=by
  intro b cc eM
  by_cases hb:b=h.size
  ·subst hb
   have:cc=O:=by simp[zen]at eM;exact eM.symm
   subst this
   exact⟨_,_,j6 _ _⟩
  ·have:Nat.beq b h.size=false:=by
    cases hb':Nat.beq b h.size with
    |false=>rfl
    |true=>exact absurd (Ag hb') hb
   simp only[zen,this,cond_false]at eM
   obtain⟨T',m,e'⟩:=I.ag b cc eM
   exact⟨T',m,by rw[BH,if_neg hb];exact e'⟩
 refine⟨I.call (Keep.push h _ (Ae _)) hM (λb hb=>?_) Z,⟨hM,λ_ _=>⟨rfl,rfl⟩⟩,by simp[zen]⟩
 have:Nat.beq b h.size=false:=by
  cases hb':Nat.beq b h.size with
  |false=>rfl
  |true=>have:=Ag hb';omega
 simp[this]
def zgx(h0:zb)(W:Nat->Prop)(M0:Fr)(P:Program)(o:Oper)(a:Act)(γ:Gh)(h:zb)(cs:CS)(nb:Option (Nat×Ch))(Ka:AV->Prop):Prop:=
 ExA P (execOp a.eval o) h λv h'=>∃av γ',Ka av/\DenV γ' av v/\Inv h0 W M0 (nb.toList++cs) γ' h'/\Gx (nb.map (·.1)) γ γ'
theorem z6b{parts:Array (Nat×Operand)}(ho:o.op=.buildSlice t n parts){ps:List (Nat×AV)}{ρ:Operand->Option AV}(ai:zcb ρ parts.toList=some ps){K:AV->Prop}(H:qcd P tr t n ps cs K):
  ∃av,K av/\∀(γ:Gh) (h:zb) (a:Act) (Y:CS),Inv h0 W M0 (Y++cs) γ h->(∀x av,ρ x=some av->DenV γ av (a.eval x))->zgx h0 W M0 P o a γ h (Y++cs) none (· = av):=by
 unfold qcd at H
 split at H
 ·rename_i el ac
  obtain⟨hu,ae⟩:=Y0 ac
  split at H
  ·rename_i ty zs am af
   cases hz:Nat.beq (yr P el) (sz ty)with
   |false=>rw[hz]at H;exact H.elim
   |true=>
   rw[hz]at H
   cases hb1:Nat.ble (n*yr P el) 16777216 with
   |false=>rw[hb1]at H;exact H.elim
   |true=>
   rw[hb1]at H
   cases hb2:Nat.blt 0 (yr P el)with
   |false=>rw[hb2]at H;exact H.elim
   |true=>
   rw[hb2]at H
   simp only[cond_true]at H
   split at H
   ·rename_i r hr
    split at H
    ·rename_i ys aj
     refine⟨_,H,λγ h a Y I hρ=>?_⟩
     have I1:Inv h0 W M0 cs γ h:=I.sub (by simp)
     obtain⟨ws,e1,e2⟩:=Js hr (Zw γ zs) (Xy hρ ai)
     obtain⟨c1,c2,rfl,r3,r4,r5⟩:=za4 I1.fz aj e2
     cases c2 with
     |cons _ _=>exact r5.elim
     |nil=>
     rw[Ba]at *
     have Z:=Ag hz
     have aa:0<yr P el:=by simpa[Cz]using hb2
     have ah:n*yr P el<=16777216:=BM hb1
     have hn:n<=n*yr P el:=Do _ aa
     have al:c1.length=n*yr P el:=by rw[r3.1,r4,Z]
     obtain⟨I2,g2,ak⟩:=I.newFrozen c1.toArray el
     intro B e
     refine .inl ⟨.slice (some ⟨h.size,0,none⟩) n n,e,_,?_,_,_,rfl,?_,I2,g2⟩
     ·have e5:(parts.map λx=>(x.1,a.eval x.2)).toList=parts.toList.map λx=>(x.1,a.eval x.2):=by rw[C3]
      simp only[execOp,ho]
      refine Yq ?_
      exact zim hu ae ah af (by
       show E0 _ _ (parts.map λx=>(x.1,a.eval x.2)).toList=_
       rw[e5];exact e1) B e h
     ·have O:=(r3.mono g2.1).rd (b:=h.size) (o:=0) (c:=n) (cs:=c1.toArray) ak (by rw[A2,Be (by rw[r4,<-Z];simp;omega)]) ⟨by omega,by omega⟩
      rw[r4]at O
      exact⟨⟨some ⟨h.size,0,none⟩,n,n⟩,rfl,rfl,O⟩
    ·exact H.elim
   ·exact H.elim
  ·exact H.elim
 ·exact H.elim
def qce:AV->Bool
 |.g (.a (.dc _ _))=>true
 |_=>false
theorem z6c{tr t tx:TypeId}{bv sv:AV}{c:Call}(ho:o.op=.call c)(hc:c.callee=.builtin .append){s x:Operand}(ai:c.args.toList=[s,x])(ar:c.argTypes.toList=[t,tx]){K:AV->Prop}(aj:qce bv=true)
  (H:zdr P tr t tx bv sv 0 [] cs (λav _ _=>K av)) {ρ:Operand->Option AV} (hs:ρ s=some bv) (hx:ρ x=some sv):
  ∀(γ:Gh) (h:zb) (a:Act) (Y:CS),Inv h0 W M0 (Y++cs) γ h->(∀x av,ρ x=some av->DenV γ av (a.eval x))->zgx h0 W M0 P o a γ h (Y++cs) none K:=by
 intro γ h a Y I hρ
 have ay:=hρ _ _ hs
 have ax:=hρ _ _ hx
 have I1:Inv h0 W M0 ([]++cs) γ h:=I.sub (by simp)
 have key:∀{K':Value->zb->Prop},XRun P (Ax #[t,tx] o.type #[a.eval s,a.eval x]) h K'->ExA P (execOp a.eval o) h K':=by
  intro K' aB B e
  obtain⟨v,d',h',r,hp⟩:=aB B e
  refine .inl ⟨v,d',h',?_,hp⟩
  have ee:execOp a.eval o=(Ax c.argTypes o.type (c.args.map a.eval) >>= λx=>(Dl (D2 x):Sem Next)):=by
   simp only[execOp,ho,resolve,hc]
   rfl
  rw[ee,toList_eq ai,toList_eq ar]
  refine Yq ?_
  simpa using r
 refine key ?_
 clear key
 unfold zdr at H
 split at H
 ·rename_i el aA
  obtain⟨hu,aN⟩:=Y0 aA
  split at H
  ·rename_i ty aI
   split at H
   ·rename_i b ys hb aE
    obtain⟨⟨z,T⟩,am⟩:=zj1 hu hb
    obtain⟨news,ae,ac⟩:=zr9 I1 aE T.pos ax
    split at H
    ·cases aj
    ·cases aj
    ·rename_i t' aH
     split at H
     ·rename_i xs ah
      obtain⟨ak,hK⟩:=H
      have al:=zcf am ak
      obtain⟨e1,e2⟩:=Qs ah
      subst e1
      simp only at e2
      subst e2
      generalize a.eval s=u at *
      generalize a.eval x=v at *
      obtain⟨s2,e,aL,an⟩:=(show ∃s:Sl,u=slV s/\s.cap=s.len/\Rd γ.M (.row t') xs [u]from ay)
      subst e
      obtain⟨s3,e,O,aJ,cells,Z,au⟩:=an.rowC I.ag
      have e':s2=s3:=by cases s2;cases s3;simp only[slV,AO]at e;simp[e]
      subst e'
      have aa:cells.length=s2.len*sz t':=by rw[O];exact Z.1
      intro B dr
      by_cases hm:ys.length=0
      ·have az:ys=[]:=Aw hm
       subst az
       have aC:news=[]:=Aw (by rw[ae.1];simp)
       subst aC
       have hr:=Zq (P:=P) (ty:=o.type) T (s:=s2) (h':=h) (ac B dr) (by simp;omega) (λp hp=>by simp[storeCells]) (λ_=>rfl)
       refine⟨_,dr,h,hr,_,γ,hK,?_,I,Gx.refl _ _⟩
       rw[Ba]
       exact an
      ·obtain⟨cp,af,hr,aD,aO,aM,aG⟩:=Ju (P:=P) (ty:=o.type) (base:=0) T aa (λB d=>Zy au aa T.pos B d) ac (by rw[O];exact ak) (by rw[O];exact al) (CW _) (by omega) B dr
       obtain⟨I2,g2,aF⟩:=I.newFrozen af el
       refine⟨_,dr+1,_,hr,_,_,hK,?_,I2,g2⟩
       have ap:=((Z.append ae).mono g2.1).rd (b:=h.size) (o:=0) (c:=cp) (cs:=af) aF (by rw[A2,Ar,<-O];exact aG) (by rw[Ar,<-O];exact⟨by rw[O];exact al,aD⟩)
       rw[Ar,<-O]at ap
       exact ap
     ·exact H.elim
    ·exact H.elim
   ·exact H.elim
  ·exact H.elim
 ·exact H.elim
def z6d(P:Program)(gl:Fr)(tr:TypeId)(o:Oper)(ρ:Operand->Option AV)(cs:CS)(K:AV->Prop):Prop:=
 match o.op with
 |.call c=>match c.callee with
  |.value x=>match z98 x with
   |some f=>bif qk P f then(match z5u P tr f,zp5 ρ c.args.toList with
    |some (ts,rt),some vs=>match jq cs ts vs with
     |some args=>PC P gl f args rt λr=>K (z9i rt r)
     |none=>False
    |_,_=>False)else False
   |none=>False
  |_=>False
 |_=>False
theorem z1r(Z:Fr.le gl M0){ρ:Operand->Option AV}{K:AV->Prop}(H:z6d P gl tr o ρ cs K):
  ∀(γ:Gh) (h:zb) (a:Act) (Y:CS),Inv h0 W M0 (Y++cs) γ h->(∀x av,ρ x=some av->DenV γ av (a.eval x))->zgx h0 W M0 P o a γ h (Y++cs) none K:=by
 intro γ h a Y I hρ
 unfold z6d at H
 split at H
 ·rename_i c ho
  split at H
  ·rename_i x hx
   split at H
   ·rename_i f hf
    cases hcal:qk P f with
    |false=>rw[hcal]at H;exact H.elim
    |true=>
     rw[hcal]at H
     simp only[cond_true]at H
     split at H
     ·rename_i ts rt vs hs aa
      split at H
      ·rename_i args O
       intro B d
       have e:=zle hf
       subst e
       have I1:Inv h0 W M0 cs γ h:=I.sub (by simp)
       have ha:=ww I1.fz O (W2 hρ aa)
       refine .inr (.inr ⟨f,c.args.map a.eval,zcd ho hx hcal rfl _,?_⟩)
       have e2:c.args.map a.eval=(c.args.toList.map a.eval).toArray:=by rw[<-C3]
       rw[e2]
       refine(zlf Z H I ha).mono ?_
       rintro v h' ⟨r,γ',h1,h2,h3,h4,_⟩
       exact⟨_,γ',h1,h2,h3,h4⟩
      ·exact H.elim
     ·exact H.elim
   ·exact H.elim
  ·exact H.elim
 ·exact H.elim
theorem zuy(Z:Fr.le gl M0){ρ:Operand->Option AV}{b:Bool}{K:AV->Prop}(H:zuo P gl tr o ρ b cs K)(hb:b=true):
  ∀(γ:Gh) (h:zb) (a:Act) (Y:CS),Inv h0 W M0 (Y++cs) γ h->(∀x av,ρ x=some av->DenV γ av (a.eval x))->zgx h0 W M0 P o a γ h (Y++cs) none K:=by
 intro γ h a Y I hρ
 unfold zuo at H
 split at H
 ·rename_i c ho
  split at H
  ·rename_i x hx
   split at H
   ·rename_i f hf
    cases hcal:qk P f with
    |false=>rw[hcal]at H;exact H.elim
    |true=>
     rw[hcal]at H
     simp only[cond_true]at H
     split at H
     ·rename_i ts rt vs hs aa
      split at H
      ·rename_i args O
       obtain⟨J,h1,h2⟩:=H
       intro B d
       have e:=zle hf
       subst e
       have I1:Inv h0 W M0 cs γ h:=I.sub (by simp)
       have ha:=ww I1.fz O (W2 hρ aa)
       refine .inr (.inr ⟨f,c.args.map a.eval,zcd ho hx hcal rfl _,?_⟩)
       have e2:c.args.map a.eval=(c.args.toList.map a.eval).toArray:=by rw[<-C3]
       rw[e2]
       refine(zlf Z (h1 hb) I ha).mono ?_
       rintro v h' ⟨r,γ',g1,g2,g3,g4,_⟩
       exact⟨_,γ',h2 r (λ_=>g1),g2,g3,g4⟩
      ·exact H.elim
     ·exact H.elim
   ·exact H.elim
  ·exact H.elim
 ·exact H.elim
theorem zxh(ho:o.op=.alloc t){z:Value}(hz:zeroOf P t=some z)(Z:itB (z.cells.toList.map .v)=false):
  ∀(γ:Gh) (h:zb) (a:Act) (Y:CS),Inv h0 W M0 (Y++cs) γ h->j3 d (Y++cs)=true->zgx h0 W M0 P o a γ h (Y++cs) (some (d,.box (z.cells.toList.map .v))) (· = .g (.a (.box d 0))):=by
 intro γ h a Y I hR B e
 refine .inl ⟨.pointer (some ⟨h.size,0,none⟩),e,h.push (.cells z.cells t),?_,_,zv3 γ d h.size,rfl,?_,?_,Ww _ _ _⟩
 ·have O:=Y2 hz h B e
  simp only[execOp,ho]
  refine Yq ?_
  unfold Instr.alloc
  rw[Sem.run_bind,O]
  simp only[Result.andThen_ok]
  rw[Sem.run_bind,Xz]
  rfl
 ·simp only[DenV,DenG,DenA,Zu]
 ·have:=Inv.newBox (C:=[]) (R:=Y++cs) (by simpa using I) (c:=d) hR (Zw γ z.cells.toList) (zdp d _) Z t
  simpa[yv]using this
theorem z6e{x:Operand}(ho:o.op=.box t x){l:List AA}(hm:znf d l=false)(O:itB l=false):
  ∀(γ:Gh) (h:zb) (a:Act) (Y:CS),Inv h0 W M0 (Y++cs) γ h->j3 d (Y++cs)=true->All2 (DenA γ) l (a.eval x).cells.toList->zgx h0 W M0 P o a γ h (Y++cs) (some (d,.box l)) (· = .g (.a (.box d 0))):=by
 intro γ h a Y I hR hl B e
 refine .inl ⟨.pointer (some ⟨h.size,0,none⟩),e,h.push (.cells (a.eval x).cells t),?_,_,zv3 γ d h.size,rfl,?_,?_,Ww _ _ _⟩
 ·simp only[execOp,ho]
  refine Yq ?_
  unfold Instr.box
  rw[Sem.run_bind,Xz]
  rfl
 ·simp only[DenV,DenG,DenA,Zu]
 ·have:=Inv.newBox (C:=[]) (R:=Y++cs) (by simpa using I) (c:=d) hR hl hm O t
  simpa[yv]using this
def yp(o:Oper):Bool:=match o.op with
 |.call c=>match c.callee with
  |.builtin .append=>true
  |.builtin _=>false
  |_=>true
 |_=>false
def zci:List AA->Bool
 |[]=>true
 |.v _::l=>zci l
 |.d _ _::l=>zci l
 |.elt _ _ _::l=>zci l
 |.dc _ _::l=>zci l
 |_::_=>false
theorem Ql{c:Nat}:∀{l:List AA},zci l=true->znf c l=false
 |[],_=>rfl
 |.v _::l,h=>by simp only[znf,zug,cond_false];exact Ql (l:=l) h
 |.d _ _::l,h=>by simp only[znf,zug,cond_false];exact Ql (l:=l) h
 |.elt _ _ _::l,h=>by simp only[znf,zug,cond_false];exact Ql (l:=l) h
 |.dc _ _::l,h=>by simp only[znf,zug,cond_false];exact Ql (l:=l) h
 |.box _ _::_,h=>by cases h
 |.own _::_,h=>by cases h
 |.oelt _ _ _ _::_,h=>by cases h
theorem zep:∀l:List Value,zci (l.map .v)=true
 |[]=>rfl
 |_::l=>zep l
def zxi(P:Program)(gl:Fr)(tr:TypeId)(o:Oper)(e:qw)(ch:qb)(cs:CS)(K:AV->Option (Nat×Ch)->Prop):Prop:=
 match o.op with
 |.alloc t=>match ch,o.dst,zeroOf P t with
  |[],some d,some z=>bif j3 d cs then(bif itB (z.cells.toList.map .v)then False else K (.g (.a (.box d 0))) (some (d,.box (z.cells.toList.map .v))))else False
  |_,_,_=>False
 |.box t x=>match ch,o.dst,zgi e [] x with
  |[],some d,some av=>match zum av with
   |some l=>bif j3 d cs then(bif zci l then(bif itB l then False else K (.g (.a (.box d 0))) (some (d,.box l)))else False)else False
   |none=>False
  |_,_,_=>False
 |.buildSlice t n parts=>match ch,zcb (zgi e []) parts.toList with
  |[],some ps=>qcd P tr t n ps cs λav=>K av none
  |_,_=>False
 |.call c=>match c.callee with
  |.builtin .append=>match ch,c.args.toList,c.argTypes.toList with
   |[],[s,x],[t,tx]=>match zgi e [] s,zgi e [] x with
    |some bv,some sv=>bif qce bv then zdr P tr t tx bv sv 0 [] cs (λav _ _=>K av none)else False
    |_,_=>False
   |_,_,_=>False
  |.builtin _=>z1q P gl o e ch cs λav=>K av none
  |_=>match ch with
   |[]=>z6d P gl tr o (zgi e []) cs λav=>K av none
   |_=>match Jr e ch with
    |some (some b)=>zuo P gl tr o (zgi e ch) b cs λav=>K av none
    |_=>False
 |_=>z1q P gl o e ch cs λav=>K av none
structure Spec (h0:zb) (W:Nat->Prop) (M0:Fr) (P:Program) (o:Oper) (e:qw) (ch:qb) (cs:CS) (nb:Option (Nat×Ch)) (Kan:AV->Prop):Prop where
 yes:∀(n:Nat) (γ:Gh) (h:zb) (a:Act) (Y:CS),SatA n e γ a->Inv h0 W M0 (Y++cs) γ h->(∀b,nb=some b->j3 b.1 (Y++cs)=true)->valid (zu a) ch->zgx h0 W M0 P o a γ h (Y++cs) nb Kan
 no:∀(n:Nat) (γ:Gh) (a:Act),SatA n e γ a->¬valid (zu a) ch->nb=none/\∃av,Kan av
 box:∀b,nb=some b->j3 b.1 cs=true/\o.dst=some b.1/\(∃l,b.2=.box l/\zci l=true)/\Kan=(· = .g (.a (.box b.1 0)))
theorem Spec.ofQ(O:Fr.le gl M0){e:qw}{ch:qb}{K:AV->Option (Nat×Ch)->Prop}(H:z1q P gl o e ch cs λav=>K av none):∃nb Kan,Spec h0 W M0 P o e ch cs nb Kan/\(∀av,Kan av->K av nb)/\∃av,Kan=(· = av):=by
 obtain⟨av,h1,h2⟩:=zj6 (h0:=h0) (W:=W) (M0:=M0) O H
 refine⟨none,(· = av),⟨λn γ h a Y hs I _ hv=>?_,λn γ a hs hv=>⟨rfl,av,rfl⟩,λb hb=>by cases hb⟩,λZ e=>e ▸ h1,av,rfl⟩
 obtain⟨v,hd,hq⟩:=h2 n γ a h hs (I.sub (by simp)) hv
 exact λB d=>.inl ⟨v,d,h,hq B d,av,γ,rfl,hd,I,Gx.refl _ _⟩
theorem zp9(Z:Fr.le gl M0){e:qw}{ch:qb}{K:AV->Option (Nat×Ch)->Prop}(H:zxi P gl tr o e ch cs K):
  ∃nb Kan,Spec h0 W M0 P o e ch cs nb Kan/\(∀av,Kan av->K av nb)/\(yp o=false->∃av,Kan=(· = av)):=by
 unfold zxi at H
 split at H
 ·rename_i t ho
  split at H
  ·rename_i d z hd hz
   cases hR:j3 d cs with
   |false=>rw[hR]at H;exact H.elim
   |true=>
    rw[hR]at H
    cases hit:itB (z.cells.toList.map .v)with
    |true=>rw[hit]at H;exact H.elim
    |false=>
    rw[hit]at H
    refine⟨_,(· = .g (.a (.box d 0))),⟨λn γ h a Y hs I hn _=>zxh ho hz hit γ h a Y I (hn _ rfl),λn γ a hs hv=>absurd trivial hv,λb hb=>?_⟩,λav e=>e ▸ H,λ_=>⟨_,rfl⟩⟩
    cases hb
    exact⟨hR,hd,⟨_,rfl,zep _⟩,rfl⟩
  ·exact H.elim
 ·rename_i t x ho
  split at H
  ·rename_i d av hd af
   split at H
   ·rename_i l hl
    cases hR:j3 d cs with
    |false=>rw[hR]at H;exact H.elim
    |true=>
     rw[hR]at H
     cases hm:zci l with
     |false=>rw[hm]at H;exact H.elim
     |true=>
      rw[hm]at H
      cases hit:itB l with
      |true=>rw[hit]at H;exact H.elim
      |false=>
      rw[hit]at H
      refine⟨_,(· = .g (.a (.box d 0))),⟨λn γ h a Y hs I hn _=>z6e ho (Ql hm) hit γ h a Y I (hn _ rfl) (zb9 hl (qa hs (c:=[]) trivial af)),λn γ a hs hv=>absurd trivial hv,λb hb=>?_⟩,λav e=>e ▸ H,λ_=>⟨_,rfl⟩⟩
      cases hb
      exact⟨hR,hd,⟨_,rfl,hm⟩,rfl⟩
   ·exact H.elim
  ·exact H.elim
 ·rename_i t n parts ho
  split at H
  ·rename_i ps ae
   obtain⟨av,h1,h2⟩:=z6b (h0:=h0) (W:=W) (M0:=M0) ho ae H
   exact⟨none,(· = av),⟨λn γ h a Y hs I _ _=>h2 γ h a Y I λx av hx=>qa hs (c:=[]) trivial hx,λn γ a hs hv=>absurd trivial hv,λb hb=>by cases hb⟩,λal e=>e ▸ h1,λ_=>⟨_,rfl⟩⟩
  ·exact H.elim
 ·rename_i c ho
  split at H
  ·rename_i hc
   have O:yp o=true:=by simp[yp,ho,hc]
   split at H
   ·rename_i s x t tx aa ac
    split at H
    ·rename_i bv sv ai ah
     cases hdc:qce bv with
     |false=>rw[hdc]at H;exact H.elim
     |true=>
      rw[hdc]at H
      simp only[cond_true]at H
      exact⟨none,λav=>K av none,⟨λn γ h a Y hs I _ _=>z6c ho hc aa ac hdc H ai ah γ h a Y I λx av hx=>qa hs (c:=[]) trivial hx,λn γ a hs hv=>absurd trivial hv,λb hb=>by cases hb⟩,λav e=>e,λhn=>by rw[O]at hn;cases hn⟩
    ·exact H.elim
   ·exact H.elim
  ·obtain⟨nb,Kan,h1,h2,h3⟩:=Spec.ofQ (h0:=h0) (W:=W) (M0:=M0) Z H
   exact⟨nb,Kan,h1,h2,λ_=>h3⟩
  ·rename_i aj ak
   have O:yp o=true:=by
    simp only[yp,ho]
   split at H
   ·exact⟨none,λav=>K av none,⟨λn γ h a Y hs I _ _=>z1r Z H γ h a Y I λx av hx=>qa hs (c:=[]) trivial hx,λn γ a hs hv=>absurd trivial hv,λb hb=>by cases hb⟩,λav e=>e,λhn=>by rw[O]at hn;cases hn⟩
   ·split at H
    ·rename_i b hb
     refine⟨none,λav=>K av none,⟨λn γ h a Y hs I _ hv=>zuy Z H (xt hs hb hv) γ h a Y I λx av hx=>qa hs hv hx,λn γ a hs hv=>⟨rfl,?_⟩,λb hb=>by cases hb⟩,λav e=>e,λhn=>by rw[O]at hn;cases hn⟩
     have:=zaz hs hb hv
     simp only[Aa]at this
     exact(za2 (h0:=#[]) (W:=λ_=>False) (M0:=λ_=>none) H).1 this
    ·exact H.elim
 ·obtain⟨nb,Kan,h1,h2,h3⟩:=Spec.ofQ (h0:=h0) (W:=W) (M0:=M0) Z H
  exact⟨nb,Kan,h1,h2,λ_=>h3⟩
def yo(ops:Array Oper)(m:Nat):List Nat:=yx (ops.toList.take m)
def Yf(av:AV):List Nat->Bool
 |[]=>true
 |s::l=>bif z0u s av then false else Yf av l
theorem zj7{av:AV}:∀{l:List Nat},Yf av l=true->∀s∈l,z0u s av=false
 |[],_,s,hs=>by cases hs
 |x::l,h,s,hs=>by
  simp only[Yf]at h
  cases hb:z0u x av with
  |true=>rw[hb]at h;cases h
  |false=>
   rw[hb]at h
   rcases Ad.1 hs with rfl|hs
   ·exact hb
   ·exact zj7 h s hs
def ze0(S:List Nat):qw->qw
 |[]=>[]
 |(i,[],v)::e=>bif memN S i then ze0 S e else(bif Yf v S then(i,[],v)::ze0 S e else ze0 S e)
 |(_,_::_,_)::e=>ze0 S e
theorem wy{S:List Nat}{x:Nat×qb×AV}:∀{e:qw},x∈ze0 S e->x∈e/\x.2.1=[]/\x.1∉S/\Yf x.2.2 S=true
 |[],h=>by cases h
 |(i,[],v)::e,h=>by
  simp only[ze0]at h
  cases hm:memN S i with
  |true=>rw[hm]at h;exact⟨Af _ (wy h).1,(wy h).2⟩
  |false=>
   rw[hm]at h
   simp only[cond_false]at h
   cases hn:Yf v S with
   |false=>rw[hn]at h;exact⟨Af _ (wy h).1,(wy h).2⟩
   |true=>
    rw[hn]at h
    rcases Ad.1 h with rfl|h
    ·exact⟨Aq,rfl,xn hm,hn⟩
    ·exact⟨Af _ (wy h).1,(wy h).2⟩
 |(_,_::_,_)::e,h=>⟨Af _ (wy (e:=e) h).1,(wy (e:=e) h).2⟩
def qcf(ops:Array Oper)(o:Oper):qb->Bool
 |[]=>true
 |[(g,_)]=>match o.guard with
  |some (j,_)=>match yw ops j with
   |some g'=>Nat.beq g g'
   |none=>false
  |none=>false
 |_=>false
def z4e:List Nat->Nat->Bool
 |[x],k=>Nat.beq x k
 |_,_=>false
def inL:List Nat->Nat->Bool
 |[],_=>false
 |x::l,k=>bif Nat.beq x k then true else inL l k
theorem zxj{k:Nat}:∀{l:List Nat},inL l k=true->k∈l
 |[],h=>by cases h
 |x::l,h=>by
  simp only[inL]at h
  cases hb:Nat.beq x k with
  |true=>rw[Ag hb];exact Aq
  |false=>rw[hb]at h;exact Af _ (zxj h)
def zgy(ops:Array Oper)(m:Nat)(o:Oper)(k:Nat)(pl:Array Bool):Bool:=
 bif Nat.blt k m then(bif wv ops k (Z4 ops o) m then(bif yp o then z4e (Region.ready .any ops pl) k else inL (Region.ready .any ops pl) k)else false)else false
def zsf(S:List Nat)(av:AV)(nb:Option (Nat×Ch)):Bool:=match nb with
 |none=>Yf av S
 |some _=>true
def zuz(pl:Array Bool):Nat->Bool
 |0=>true
 |k+1=>bif pl.getD k false then zuz pl k else false
theorem zj8{pl:Array Bool}:∀{m:Nat},zuz pl m=true->∀k,k<m->pl.getD k false=true
 |0,_,k,hk=>by omega
 |m+1,h,k,hk=>by
  simp only[zuz]at h
  cases hb:pl.getD m false with
  |false=>rw[hb]at h;cases h
  |true=>
   rw[hb]at h
   rcases AR k m with h1|h1
   ·exact zj8 h k h1
   ·have:k=m:=by omega
    subst this;exact hb
def zsg(P:Program)(ρ:Operand->Option AV)(o:Oper):Bool:=bif zey o then(bif isQ P o then(bif wj o.op then zgk ρ o.op.operands.toList else false)else false)else false
def zds(P:Program)(e:qw)(c:qb)(o:Oper):Bool:=match o.op with
 |.pick _ _ _=>true
 |.move _=>true
 |.assign _=>true
 |.extract _ _=>true
 |.alloc _=>false
 |.box _ _=>false
 |.buildSlice _ _ _=>false
 |.call _=>false
 |.load _ _=>false
 |.indexAddr _ _ _=>false
 |_=>zsg P (zgi e c) o
theorem zoh{e:qw}(h:zds P e c o=true):yp o=false:=by
 unfold yp
 split
 ·rename_i c ho;rw[zds,ho]at h;cases h
 ·rfl
def zcj(P:Program)(o:Oper)(e:qw)(ch:qb)(Kan:AV->Prop):Prop:=
 ∀av,Kan av->∀(n:Nat) (γ:Gh) (a:Act),SatA n e γ a->valid (zu a) ch->∃v,DenV γ av v/\∀w,(execOp a.eval o).run P w=.ok (.value v) w
theorem QExec.all{α:Type}{s:Sem α}{x:α}(H:∀h,QExec P s h x)(w:World):s.run P w=.ok x w:=H w.heap w w.drawn
theorem zxk{e:qw}{K:AV->Prop}(H:z1q P gl o e c cs K)(hp:zds P e c o=true):∃av,K av/\zcj P o e c (· = av):=by
 unfold z1q at H
 split at H
 ·rename_i x y z ho
  obtain⟨av,h1,h2⟩:=Jv H
  refine⟨av,h1,λZ e' n γ a hs hv=>?_⟩
  obtain⟨t,h3,h4⟩:=h2 n γ a hs hv
  subst e'
  refine⟨_,h4,QExec.all λh B d=>?_⟩
  simp only[execOp,ho,h3,asBool,Sem.run_bind,Sem.run_pure,Result.andThen_ok]
 ·rename_i af
  split at H
  ·rename_i g hg
   unfold qA at H
   split at H
   ·rename_i b hb
    exact⟨_,H,λZ e' n γ a hs hv=>⟨_,e' ▸ (show DenV γ (.g (.a (.v (.bool b)))) _ from rfl),QExec.all λh=>zn8 hb (λx av hx=>qa hs hv hx) h⟩⟩
   split at H
   ·rename_i b hb
    exact⟨_,H,λZ e' n γ a hs hv=>⟨_,e' ▸ (show DenV γ (.g (.a (.v (.bool b)))) _ from rfl),QExec.all λh=>zjz hb (λx av hx=>qa hs hv hx) h⟩⟩
   split at H
   ·rename_i t b off aa
    exfalso
    unfold z5r at aa
    split at aa
    ·rename_i t' x ho;rw[zds,ho]at hp;cases hp
    ·cases aa
   split at H
   ·rename_i b off n len z aa
    exfalso
    unfold z5s at aa
    split at aa
    ·rename_i t' x i ho;rw[zds,ho]at hp;cases hp
    ·cases aa
   unfold qA0 at H
   cases hb:zsg P (zgi e c) o with
   |true=>
    unfold zsg at hb
    rw[hb]at H
    cases hfam:zey o with
    |false=>rw[hfam]at hb;cases hb
    |true=>
     cases hq:isQ P o with
     |false=>rw[hfam,hq]at hb;cases hb
     |true=>
      cases hns:wj o.op with
      |false=>rw[hfam,hq,hns]at hb;cases hb
      |true=>
       rw[hfam,hq,hns]at hb
       simp only[cond_true]at hb H
       obtain⟨v,h1,h2⟩:=Xq hfam H
       refine⟨_,h1,λZ e' n γ a hs hv=>⟨v,e' ▸ Yz γ v,QExec.all λh=>?_⟩⟩
       rw[zny (γ:=γ) (λx av hx=>qa hs hv hx) hns hb]
       exact h2 (xt hs hg hv) h ⟨by simp,λi hi=>absurd hi (by simp)⟩
   |false=>
    have ac:=hb
    unfold zsg at ac
    rw[ac]at H
    simp only[cond_false]at H
    unfold zds at hp
    split at hp
    ·rename_i x y z ho;exact absurd ho (af x y z)
    ·rename_i x ho
     rw[ho]at H
     simp only at H
     split at H
     ·rename_i av O
      exact⟨av,H,λZ e' n γ a hs hv=>⟨_,e' ▸ qa hs hv O,QExec.all λh=>by simp only[execOp,ho];exact QExec.pure _⟩⟩
     ·exact H.elim
    ·rename_i x ho
     rw[ho]at H
     simp only at H
     split at H
     ·rename_i av O
      exact⟨av,H,λZ e' n γ a hs hv=>⟨_,e' ▸ qa hs hv O,QExec.all λh=>by simp only[execOp,ho];exact QExec.pure _⟩⟩
     ·exact H.elim
    ·rename_i x i ho
     rw[ho]at H
     simp only at H
     split at H
     ·rename_i l O
      split at H
      ·rename_i ag ae
       refine⟨_,H,λZ e' n γ a hs hv=>?_⟩
       subst e'
       obtain⟨us,e1,h2⟩:=qa hs hv O
       obtain⟨u,hu,hd⟩:=h2.get ae
       refine⟨u,hd,QExec.all λh=>?_⟩
       simp only[execOp,ho,e1]
       refine QExec.val λB d=>?_
       unfold Instr.extract
       simp[hu]
      ·exact H.elim
     ·rename_i b p c O
      split at H
      ·refine⟨_,H,λZ e' n γ a hs hv=>⟨_,e' ▸ (show DenV γ (.g (.a (.v (.bool b)))) _ from rfl),QExec.all λh=>?_⟩⟩
       obtain⟨e1,e2⟩:=qa hs hv O
       simp only[execOp,ho]
       refine QExec.val λB d=>?_
       cases b with
       |true=>rw[e1 rfl];rfl
       |false=>rw[e2 rfl];rfl
      ·refine⟨_,H.2,λZ e' n γ a hs hv=>⟨_,e' ▸ (show DenV γ (.g (.a (.v (.int .i64 p)))) _ from rfl),QExec.all λh=>?_⟩⟩
       obtain⟨e1,_⟩:=qa hs hv O
       simp only[execOp,ho,e1 (H.1.out (xt hs hg hv))]
       exact QExec.val λB d=>rfl
      ·refine⟨_,H.2,λZ e' n γ a hs hv=>⟨_,e' ▸ (show DenV γ (.g (.a (.v (.int .i32 c)))) _ from rfl),QExec.all λh=>?_⟩⟩
       obtain⟨e1,_⟩:=qa hs hv O
       simp only[execOp,ho,e1 (H.1.out (xt hs hg hv))]
       exact QExec.val λB d=>rfl
      ·exact H.elim
     ·exact H.elim
    ·cases hp
    ·cases hp
    ·cases hp
    ·cases hp
    ·cases hp
    ·cases hp
    ·rw[hb]at hp;cases hp
  ·exact H.elim
theorem zu0{e:qw}{ch:qb}{K:AV->Option (Nat×Ch)->Prop}(H:zxi P gl tr o e ch cs K)(hp:zds P e ch o=true):
  ∃av,Spec h0 W M0 P o e ch cs none (· = av)/\K av none/\zcj P o e ch (· = av):=by
 have H':z1q P gl o e ch cs λav=>K av none:=by
  unfold zxi at H
  split at H
  ·rename_i t ho;rw[zds,ho]at hp;cases hp
  ·rename_i t x ho;rw[zds,ho]at hp;cases hp
  ·rename_i t n ps ho;rw[zds,ho]at hp;cases hp
  ·rename_i c ho;rw[zds,ho]at hp;cases hp
  ·exact H
 obtain⟨av,h1,h2⟩:=zxk H' hp
 refine⟨av,⟨λn γ h a Y hs I _ hv=>?_,λn γ a hs hv=>⟨rfl,av,rfl⟩,λb hb=>by cases hb⟩,h1,h2⟩
 obtain⟨v,hd,hq⟩:=h2 av rfl n γ a hs hv
 exact λB d=>.inl ⟨v,d,h,hq _,av,γ,rfl,hd,I,Gx.refl _ _⟩
def zxl(ops:Array Oper)(k:Nat)(o:Oper)(j:Nat):Bool:=bif Nat.beq j k then true else bif Region.waitsFor .any ops j k then true else bif Region.waitsFor .any ops k j then true else match ops[j]? with
 |some oj=>o.apart ops oj
 |none=>true
def zqa(ops:Array Oper)(k:Nat)(o:Oper):Nat->Bool
 |0=>true
 |j+1=>bif zxl ops k o j then zqa ops k o j else false
theorem zj9{ops:Array Oper}{k:Nat}{o:Oper}:∀{n:Nat},zqa ops k o n=true->∀j oj,j<n->ops[j]?=some oj->j≠k->Region.waitsFor .any ops j k=false->Region.waitsFor .any ops k j=false->o.apart ops oj=true
 |0,_,j,oj,hj,_,_,_,_=>by omega
 |n+1,h,j,oj,hj,ho,h1,h2,h3=>by
  simp only[zqa]at h
  cases hx:zxl ops k o n with
  |false=>rw[hx]at h;cases h
  |true=>
   rw[hx]at h
   rcases AR j n with O|O
   ·exact zj9 h j oj O ho h1 h2 h3
   ·have:j=n:=by omega
    subst this
    have e1:Nat.beq j k=false:=by
     cases hb:Nat.beq j k with
     |false=>rfl
     |true=>exact absurd (Ag hb) h1
    unfold zxl at hx
    rw[e1,h2,h3,ho]at hx
    exact hx
def zxm(P:Program)(ops:Array Oper)(pu:List Nat)(o:Oper)(k:Nat)(e:qw)(ch:qb):Bool:=
 bif memN pu k then(bif zds P e ch o then zqa ops k o ops.size else false)else true
def dW(P:Program)(gl:Fr)(tr:TypeId)(n:Nat)(ops:Array Oper)(m:Nat)(pu:List Nat)(e0:qw)(cs:CS)(Kt:List It->Prop):List Nat->Array Bool->List It->Prop
 |[],pl,IL=>bif zuz pl m then Kt IL else False
 |k::ord,pl,IL=>match ops[k]? with
  |none=>False
  |some o=>bif zgy ops m o k pl then(match Ye ops (W5 (Z4 ops o) (itE IL++e0)) o.guard with
   |some ch=>bif qcf ops o ch then(bif yc n ch o.dst then(bif zxm P ops pu o k (W5 (Z4 ops o) (itE IL++e0)) ch then zxi P gl tr o (W5 (Z4 ops o) (itE IL++e0)) ch cs (λav nb=>bif zsf (yo ops m) av nb then dW P gl tr n ops m pu e0 cs Kt ord (pl.setIfInBounds k true) (⟨k,o.dst,ch,av,nb⟩::IL)else False)else False)else False)else False
   |none=>False)else False
def Y4(listed:Array Bool):List It->List It
 |[]=>[]
 |i::l=>bif listed.getD i.k false then i::Y4 listed l else Y4 listed l
theorem X3{listed:Array Bool}{i:It}:∀{l:List It},i∈Y4 listed l↔i∈l/\listed.getD i.k false=true
 |[]=>by simp[Y4]
 |j::l=>by
  simp only[Y4]
  cases h:listed.getD j.k false with
  |true=>
   simp only[cond_true,Ad,X3 (l:=l)]
   constructor
   ·rintro(rfl|⟨h1,h2⟩)
    ·exact⟨.inl rfl,h⟩
    ·exact⟨.inr h1,h2⟩
   ·rintro⟨rfl|h1,h2⟩
    ·exact .inl rfl
    ·exact .inr ⟨h1,h2⟩
  |false=>
   simp only[cond_false,Ad,X3 (l:=l)]
   constructor
   ·rintro⟨h1,h2⟩;exact⟨.inr h1,h2⟩
   ·rintro⟨rfl|h1,h2⟩
    ·rw[h]at h2;cases h2
    ·exact⟨h1,h2⟩
structure ItOK (h0:zb) (W:Nat->Prop) (M0:Fr) (P:Program) (n:Nat) (ops:Array Oper) (m:Nat) (pu:List Nat) (e0:qw) (cs:CS) (IL:List It) (it:It) (Kan:AV->Prop):Prop where
 lt:it.k<m
 dst:yw ops it.k=it.dst
 ok:yc n it.ch it.dst=true
 chw:∀x∈it.ch,∀p,p<m->yw ops p=some x.1->Region.waitsFor .any ops it.k p=true
 ex:∃o e,ops[it.k]?=some o/\Ye ops e o.guard=some it.ch/\Spec h0 W M0 P o e it.ch cs it.nb Kan /\
  (∀x∈e,x∈e0\/(x∈itE IL/\∀p,p<m->yw ops p=some x.1->Region.waitsFor .any ops it.k p=true)) /\
  (memN pu it.k=true->it.nb=none/\zcj P o e it.ch Kan/\zqa ops it.k o ops.size=true/\yp o=false)
 men:∀av,Kan av->it.nb=none->Yf av (yo ops m)=true
theorem ItOK.mono{e0:qw}{IL O:List It}{it:It}{Kan:AV->Prop}(H:ItOK h0 W M0 P n ops m pu e0 cs IL it Kan)(hs:∀i∈IL,i∈O):ItOK h0 W M0 P n ops m pu e0 cs O it Kan:=
 {lt:=H.lt,dst:=H.dst,ok:=H.ok,chw:=H.chw,men:=H.men,ex:=by
   obtain⟨o,e,h1,h2,h3,h4,Z⟩:=H.ex
   refine⟨o,e,h1,h2,h3,λx hx=>(h4 x hx).imp id λ⟨h5,h6⟩=>⟨?_,h6⟩,Z⟩
   obtain⟨i,hi,q⟩:=W4.1 h5
   exact W4.2 ⟨i,hs i hi,q⟩ }
theorem Yg{i p:Nat}(hi:i∈Region.ready .any ops listed)(hw:Region.waitsFor .any ops i p=true):listed.getD p false=true:=by
 obtain⟨oj,Z,e,he,hb,aa⟩:=Region.waitsFor_spec hw
 obtain⟨_,o,ho,O⟩:=mem_ready.1 hi
 have:oj=o:=Au (Z.symm.trans ho)
 subst this
 rw[<-aa];exact O e he hb
structure Mid (h0:zb) (W:Nat->Prop) (M0:Fr) (P:Program) (n:Nat) (ops:Array Oper) (m:Nat) (e0:qw) (cs:CS) (listed:Array Bool) (IL:List It) (γ:Gh) (a:Act) (h:zb):Prop where
 sat:SatA n (itE (Y4 listed IL)++e0) γ a
 inv:Inv h0 W M0 (itC (Y4 listed IL)++cs) γ h
theorem zck{k:Nat}(h:ops[k]?=some o):yw ops k=o.dst:=by simp[yw,h]
theorem zdt{m k t:Nat}(hk:k<m)(h:yw ops k=some t):t∈yo ops m:=by
 unfold yw at h
 split at h
 ·rename_i o ho
  unfold yo
  have O:o∈ops.toList.take m:=by
   rw[List.mem_iff_getElem?]
   exact⟨k,by rw[AC,if_pos hk];simpa using ho⟩
  generalize ops.toList.take m=l at O
  induction l with
  |nil=>cases O
  |cons x l ih=>
   simp only[yx]
   rcases Ad.1 O with rfl|O
   ·rw[h];exact Aq
   ·split
    ·exact Af _ (ih O)
    ·exact ih O
 ·cases h
theorem zqb{x:Nat×Ch}:∀{l:List It},x∈itC l↔∃i∈l,i.nb=some x
 |[]=>by simp[itC]
 |i::l=>by
  simp only[itC]
  split
  ·rename_i b hb
   rw[Ad,zqb (l:=l)]
   constructor
   ·rintro(rfl|⟨j,hj,h⟩)
    ·exact⟨i,Aq,hb⟩
    ·exact⟨j,Af _ hj,h⟩
   ·rintro⟨j,hj,h⟩
    rcases Ad.1 hj with rfl|hj
    ·left;rw[hb]at h;exact(Au h).symm
    ·exact .inr ⟨j,hj,h⟩
  ·rename_i hb
   rw[zqb (l:=l)]
   constructor
   ·rintro⟨j,hj,h⟩;exact⟨j,Af _ hj,h⟩
   ·rintro⟨j,hj,h⟩
    rcases Ad.1 hj with rfl|hj
    ·rw[hb]at h;cases h
    ·exact⟨j,hj,h⟩
theorem zsh{c:Nat}:∀{l:CS},(∀x∈l,x.1≠c/\zgh c x.2=false)->j3 c l=true
 |[],_=>rfl
 |(j,k)::l,h=>by
  obtain⟨h1,h2⟩:=h _ Aq
  simp only[j3]
  have:Nat.beq j c=false:=by
   cases hb:Nat.beq j c with
   |false=>rfl
   |true=>exact absurd (Ag hb) h1
  rw[this,h2]
  exact zsh λx hx=>h x (Af _ hx)
theorem zka{e0:qw}(ap:j8 ops m=true)(aJ:∀x∈e0,x.2.1=[]/\x.1∉yo ops m/\Yf x.2.2 (yo ops m)=true)
  {IL:List It} (an:∀i∈IL,∃Kan,ItOK h0 W M0 P n ops m pu e0 cs IL i Kan/\Kan i.av) (aE:HeadInv .any ops m listed) (M:Mid h0 W M0 P n ops m e0 cs listed IL γ a h)
  {it:It} {Kan:AV->Prop} (T:ItOK h0 W M0 P n ops m pu e0 cs IL it Kan) (hr:it.k∈Region.ready .any ops listed):
  ∃o e,ops[it.k]?=some o/\o.dst=it.dst/\SatA n e γ a/\Ye ops e o.guard=some it.ch/\Spec h0 W M0 P o e it.ch cs it.nb Kan/\(memN pu it.k=true->it.nb=none/\zcj P o e it.ch Kan/\zqa ops it.k o ops.size=true/\yp o=false) /\
   (∀b,it.nb=some b->j3 b.1 (itC (Y4 listed IL)++cs)=true) /\
   ∀av u γ' h',Kan av->(valid (zu a) it.ch->DenV γ' av u)->(¬valid (zu a) it.ch->u=undef)->Inv h0 W M0 (it.nb.toList++(itC (Y4 listed IL)++cs)) γ' h'->Gx (it.nb.map (·.1)) γ γ' ->
    ∀L':List It,L'.Perm ({ it with av:=av }::Y4 listed IL)->SatA n (itE L'++e0) γ' (a.put it.dst u)/\Inv h0 W M0 (itC L'++cs) γ' h':=by
 obtain⟨o,e,ho,az,sp,aA,ar⟩:=T.ex
 have ac:o.dst=it.dst:=by rw[<-zck ho];exact T.dst
 have aC:listed.getD it.k true=false:=(mem_ready.1 hr).1
 have ae:SatA n e γ a:=M.sat.sub λx hx=>by
  rcases aA x hx with h1|⟨h1,h2⟩
  ·exact AB _ h1
  ·refine Ao _ ?_
   obtain⟨i,hi,q⟩:=W4.1 h1
   obtain⟨Ki,Ti,_⟩:=an i hi
   have hw:=h2 i.k Ti.lt (by rw[Ti.dst];exact q.1)
   exact W4.2 ⟨i,X3.2 ⟨hi,Yg hr hw⟩,q⟩
 have hw:=x9 ae az
 have Z:∀i∈Y4 listed IL,i.k≠it.k:=by
  intro i hi e
  have:=(X3.1 hi).2
  rw[e]at this
  have h2:=getD_both aC
  rw[h2]at this
  cases this
 have au:∀b,it.nb=some b->j3 b.1 (itC (Y4 listed IL)++cs)=true:=by
  intro b hb
  obtain⟨h1,h2,_⟩:=sp.box b hb
  refine zsh λx hx=>?_
  rcases An.1 hx with hx|hx
  ·obtain⟨i,hi,O⟩:=zqb.1 hx
   obtain⟨Ki,Ti,al⟩:=an i (X3.1 hi).1
   obtain⟨oi,ei,ah,_,am,_,_⟩:=Ti.ex
   obtain⟨_,h4,⟨l,h5,h6⟩,_⟩:=am.box x O
   refine⟨λe=>Z i hi ?_,by rw[h5];exact Ql h6⟩
   refine qy ap i.k it.k b.1 Ti.lt T.lt ?_ (by rw[T.dst,<-ac];exact h2)
   rw[zck ah,h4,e]
  ·obtain⟨e1,e2⟩:=zb6 h1 x hx
   exact⟨λe=>e1 (by rw[e]),e2⟩
 refine⟨o,e,ho,ac,ae,az,sp,ar,au,?_⟩
 ·intro av u γ' h' aQ hy hn I' g L' hp
  refine⟨?_,?_⟩
  ·refine⟨by rw[qc];exact M.sat.defers,by rw[size_put];exact M.sat.size,λx hx=>?_⟩
   have old:∀x:Nat×qb×AV,x∈itE (Y4 listed IL)++e0->(∀s,it.dst=some s->x.1≠s/\mentions x.2.1 s=false)->z0v z0u (it.nb.map (·.1)) x.2.2=false->zlc γ' (zu (a.put it.dst u)) x:=by
    intro x hx hs hm
    have hf:=M.sat.all x hx
    cases hd:it.dst with
    |none=>
     exact⟨λhv=>(hf.1 hv).gx g hm,hf.2⟩
    |some s=>
     obtain⟨h1,h2⟩:=hs s hd
     have hv:=Zk (σ:=zu (a.put (some s) u)) (τ:=zu a) h2 (λj hj=>qm hj)
     refine⟨λhc=>?_,λhc=>?_⟩
     ·rw[qm h1];exact(hf.1 (hv.1 hc)).gx g hm
     ·exact(qm h1).trans (hf.2 λaj=>hc (hv.2 aj))
   have ax:∀s,it.dst=some s->s∈yo ops m:=λs hs=>zdt T.lt (by rw[T.dst];exact hs)
   have af:∀ai,(Yf ai (yo ops m)=true)->z0v z0u (it.nb.map (·.1)) ai=false:=by
    intro ai h1
    cases O:it.nb with
    |none=>rfl
    |some b=>
     obtain⟨_,h2,_⟩:=sp.box b O
     exact zj7 h1 b.1 (ax _ (by rw[<-ac];exact h2))
   rcases An.1 hx with hx|hx
   ·obtain⟨i,hi,q1,q2,q3⟩:=W4.1 hx
    rcases Ad.1 (hp.subset hi)with rfl|aa
    ·-- the new fact
     simp only at q1 q2 q3
     have ay:x.1<a.tmps.size:=by
      rw[M.sat.size]
      have:=T.ok
      rw[q1]at this
      simp only[yc]at this
      cases hm:mentions it.ch x.1 with
      |true=>rw[hm]at this;cases this
      |false=>rw[hm]at this;simpa[Cz]using this
     have aB:mentions it.ch x.1=false:=by
      have:=T.ok
      rw[q1]at this
      simp only[yc]at this
      cases hm:mentions it.ch x.1 with
      |true=>rw[hm]at this;cases this
      |false=>rfl
     rw[q1]
     have hv:=Zk (σ:=zu (a.put (some x.1) u)) (τ:=zu a) aB (λj hj=>qm hj)
     refine⟨λhc=>?_,λhc=>?_⟩
     ·rw[qt ay,<-q3];rw[<-q2]at hc;exact hy (hv.1 hc)
     ·rw[qt ay];rw[<-q2]at hc;exact hn λaj=>hc (hv.2 aj)
    ·obtain⟨aD,aO⟩:=X3.1 aa
     obtain⟨Ki,Ti,al⟩:=an i aD
     obtain⟨oi,ei,ah,_,am,_,_⟩:=Ti.ex
     refine old x (Ao _ (W4.2 ⟨i,aa,q1,q2,q3⟩)) (λs hs=>⟨λe=>Z i aa ?_,?_⟩) ?_
     ·exact qy ap i.k it.k s Ti.lt T.lt (by rw[Ti.dst,q1,e]) (by rw[T.dst];exact hs)
     ·cases hm:mentions x.2.1 s with
      |false=>rfl
      |true=>
       exfalso
       rw[<-q2]at hm
       have:∃y∈i.ch,y.1=s:=by
        have key:∀c:qb,mentions c s=true->∃y∈c,y.1=s:=by
         intro c
         induction c with
         |nil=>intro h;cases h
         |cons y c ih=>
          intro h
          obtain⟨g,p⟩:=y
          simp only[mentions]at h
          cases hb:Nat.beq s g with
          |true=>exact⟨(g,p),Aq,(Ag hb).symm⟩
          |false=>
           rw[hb]at h
           obtain⟨y,hy,e⟩:=ih h
           exact⟨y,Af _ hy,e⟩
        exact key _ hm
       obtain⟨y,aM,aI⟩:=this
       have aP:=Ti.chw y aM it.k T.lt (by rw[T.dst,hs,aI])
       obtain⟨oj,aF,e',aG,aH,aN⟩:=Region.waitsFor_spec aP
       have:=aE.closed i.k oj aF aO e' aG aH
       rw[aN,getD_both aC]at this
       cases this
     ·rw[<-q3]
      cases hnbi:i.nb with
      |none=>exact af _ (Ti.men _ al hnbi)
      |some bi=>
       obtain⟨_,h4,_,h5⟩:=am.box bi hnbi
       have aL:i.av=.g (.a (.box bi.1 0)):=by
        have:=al;rw[h5]at this;exact this
       rw[aL]
       cases O:it.nb with
       |none=>rfl
       |some b=>
        obtain⟨_,h2,_⟩:=sp.box b O
        show Nat.beq bi.1 b.1=false
        cases hb:Nat.beq bi.1 b.1 with
        |false=>rfl
        |true=>
         exfalso
         have:=Ag hb
         exact Z i aa (qy ap i.k it.k b.1 Ti.lt T.lt (by rw[zck ah,h4,this]) (by rw[T.dst,<-ac];exact h2))
   ·obtain⟨b1,b2,b3⟩:=aJ x hx
    exact old x (AB _ hx) (λs hs=>⟨λe=>b2 (e ▸ ax s hs),by rw[b1];rfl⟩) (af _ b3)
  ·have e1:itC ({ it with av:=av }::Y4 listed IL)=it.nb.toList++itC (Y4 listed IL):=by
    simp only[itC]
    cases it.nb <;> rfl
   rw[<-AQ,<-e1]at I'
   have ak:∀{l l':List It},l.Perm l'->(itC l).Perm (itC l'):=by
    intro l l' hp
    induction hp with
    |nil=>exact .nil
    |cons x p ih=>simp only[itC];split;exact ih.cons _;exact ih
    |swap x y l=>
     simp only[itC]
     split <;> split <;> first|exact .swap _ _ _|exact .refl _
    |trans _ _ i1 i2=>exact i1.trans i2
   exact I'.perm ((ak hp.symm).append_right cs)
theorem zoi{e0:qw}{Q:Exit->Act->World->Prop}(al:j8 ops m=true)(aj:∀x∈e0,x.2.1=[]/\x.1∉yo ops m/\Yf x.2.2 (yo ops m)=true)
  {IL:List It} (ak:∀i∈IL,∃Kan,ItOK h0 W M0 P n ops m pu e0 cs IL i Kan/\Kan i.av) (ai:HeadInv .any ops m listed) (M:Mid h0 W M0 P n ops m e0 cs listed IL γ a h)
  {it:It} {Kan:AV->Prop} (T:ItOK h0 W M0 P n ops m pu e0 cs IL it Kan) (hr:it.k∈Region.ready .any ops listed) {Kp:Act->World->Prop} (B:World) (d:Nat)
  (hK:∀av u γ' h' d',Kan av->(∀L':List It,L'.Perm ({ it with av:=av }::Y4 listed IL)->SatA n (itE L'++e0) γ' (a.put it.dst u)/\Inv h0 W M0 (itC L'++cs) γ' h')->Gx (it.nb.map (·.1)) γ γ'->Kp (a.put it.dst u) (mk B d' h')):
  wpOp P ops Q it.k Kp a (mk B d h):=by
 obtain⟨o,e,ho,ae,O,am,sp,an,ah,ac⟩:=zka al aj ak ai M T hr
 have hw:=x9 O am
 unfold wpOp
 rw[ho]
 simp only
 by_cases hv:valid (zu a) it.ch
 ·rw[if_pos (hw.2 hv)]
  left
  have hx:=sp.yes n γ h a (itC (Y4 listed IL)) O M.inv ah hv
  refine(ExA.upon hx B d ?_)
  rintro v d' h' ⟨av,γ',g1,g2,g3,g4⟩
  rw[ae]
  exact hK av v γ' h' d' g1 (ac av v γ' h' g1 (λ_=>g2) (λaa=>absurd hv aa) g3 g4) g4
 ·rw[if_neg λhx=>hv (hw.1 hx)]
  obtain⟨af,av,Z⟩:=sp.no n γ a O hv
  rw[ae]
  have g4:Gx (it.nb.map (·.1)) γ γ:=by rw[af];exact Gx.refl _ _
  exact hK av undef γ h d Z (ac av undef γ h Z (λaa=>absurd aa hv) (λ_=>rfl) (by rw[af];exact M.inv) g4) g4
theorem zxn{e0:qw}{Q:Exit->Act->World->Prop}(aA:j8 ops m=true)(ar:∀x∈e0,x.2.1=[]/\x.1∉yo ops m/\Yf x.2.2 (yo ops m)=true)
  {IL:List It} (ay:∀i∈IL,∃Kan,ItOK h0 W M0 P n ops m pu e0 cs IL i Kan/\Kan i.av) (al:HeadInv .any ops m listed) (M:Mid h0 W M0 P n ops m e0 cs listed IL γ a h)
  {it:It} {Kan:AV->Prop} (T:ItOK h0 W M0 P n ops m pu e0 cs IL it Kan) (ae:Kan it.av) (hr:it.k∈Region.ready .any ops listed) (aF:memN pu it.k=true) (O:Region.noSelect ops=true) (hQ:∀c a w,¬Q (.panic c) a w) (B:World) (d:Nat) {f:Nat}
  (hK:∀u,(∀L':List It,L'.Perm (it::Y4 listed IL)->SatA n (itE L'++e0) γ (a.put it.dst u)/\Inv h0 W M0 (itC L'++cs) γ h)->Gx (it.nb.map (·.1)) γ γ->wpAny P .any ops Q f (listed.setIfInBounds it.k true) (a.put it.dst u) (mk B d h)):
  wpAny P .any ops Q (f+1) listed a (mk B d h):=by
 obtain⟨o,e,ho,aj,Z,aE,sp,ai,aH,ah⟩:=zka aA ar ay al M T hr
 obtain⟨ac,am,af,_⟩:=ai aF
 have hw:=x9 Z aE
 have g4:Gx (it.nb.map (·.1)) γ γ:=by rw[ac];exact Gx.refl _ _
 have ak:∀j oj,ops[j]?=some oj->j≠it.k->listed.getD j true=false->(∀e∈oj.after,Region.binds .any e=true->e.on≠it.k)->o.apart ops oj=true:=by
  intro j oj hj aB aC aD
  have ap:j<ops.size:=(Ac.1 hj).1
  refine zj9 af j oj ap hj aB ?_ ?_
  ·cases hb:Region.waitsFor .any ops j it.k with
   |false=>rfl
   |true=>
    obtain⟨an,au,e',az,aG,ax⟩:=Region.waitsFor_spec hb
    have:an=oj:=Au (au.symm.trans hj)
    subst this
    exact absurd ax (aD e' az aG)
  ·cases hb:Region.waitsFor .any ops it.k j with
   |false=>rfl
   |true=>
    have:=Yg hr hb
    rw[getD_both aC]at this;cases this
 by_cases hv:valid (zu a) it.ch
 ·obtain⟨v,hd,hx⟩:=am it.av ae n γ a Z hv
  refine wpAny_first ho (Region.noSelect_spec O) (λc a w hq=>absurd hq (hQ c _ w)) f listed a (mk B d h) ak hr (.inl ⟨hw.2 hv,hx⟩) ?_
  rw[aj]
  exact hK v (ah it.av v γ h ae (λ_=>hd) (λaa=>absurd hv aa) (by rw[ac];exact M.inv) g4) g4
 ·refine wpAny_first ho (Region.noSelect_spec O) (λc a w hq=>absurd hq (hQ c _ w)) f listed a (mk B d h) ak hr (.inr ⟨by simpa using λhx=>hv (hw.1 hx),rfl⟩) ?_
  rw[aj]
  exact hK undef (ah it.av undef γ h ae (λaa=>absurd aa hv) (λ_=>rfl) (by rw[ac];exact M.inv) g4) g4
structure GInv (h0:zb) (W:Nat->Prop) (M0:Fr) (P:Program) (n:Nat) (ops:Array Oper) (m:Nat) (pu:List Nat) (e0:qw) (cs:CS) (listed pl:Array Bool) (IL:List It):Prop where
 size:pl.size=ops.size
 mem:∀k,pl.getD k false=true↔∃i∈IL,i.k=k
 dist:IL.Pairwise λi j=>i.k≠j.k
 items:∀i∈IL,∃Kan,ItOK h0 W M0 P n ops m pu e0 cs IL i Kan/\Kan i.av/\(listed.getD i.k false=false->Kan=(· = i.av))
 sub:∀k,listed.getD k false=true->pl.getD k false=true
def zfm(ops:Array Oper):List Nat->Bool
 |[]=>true
 |k::_=>match ops[k]? with
  |some o=>yp o
  |none=>false
theorem getD_lt{k:Nat}(h:k<pl.size):pl.getD k true=pl.getD k false:=by simp[h]
theorem zqc(am:Fr.le gl M0){e0:qw}{Kt:List It->Prop}{k:Nat}{IL:List It}(H:dW P gl tr n ops m pu e0 cs Kt (k::ord) pl IL):
  ∃o ch nb Kan,ops[k]?=some o/\zgy ops m o k pl=true/\(∀av,ItOK h0 W M0 P n ops m pu e0 cs IL ⟨k,o.dst,ch,av,nb⟩ Kan)/\(∀av,Kan av->dW P gl tr n ops m pu e0 cs Kt ord (pl.setIfInBounds k true) (⟨k,o.dst,ch,av,nb⟩::IL))/\(yp o=false->∃av,Kan=(· = av)):=by
 unfold dW at H
 split at H
 ·exact H.elim
 ·rename_i o ho
  cases hst:zgy ops m o k pl with
  |false=>rw[hst]at H;exact H.elim
  |true=>
   rw[hst]at H
   simp only[cond_true]at H
   split at H
   ·rename_i ch aj
    cases hco:qcf ops o ch with
    |false=>rw[hco]at H;exact H.elim
    |true=>
     rw[hco]at H
     cases hok:yc n ch o.dst with
     |false=>rw[hok]at H;exact H.elim
     |true=>
      rw[hok]at H
      simp only[cond_true]at H
      cases hpo:zxm P ops pu o k (W5 (Z4 ops o) (itE IL++e0)) ch with
      |false=>rw[hpo]at H;exact H.elim
      |true=>
      rw[hpo]at H
      simp only[cond_true]at H
      have Z:∃nb Kan,Spec h0 W M0 P o (W5 (Z4 ops o) (itE IL++e0)) ch cs nb Kan/\(∀av,Kan av->(bif zsf (yo ops m) av nb then dW P gl tr n ops m pu e0 cs Kt ord (pl.setIfInBounds k true) (⟨k,o.dst,ch,av,nb⟩::IL)else False))/\(yp o=false->∃av,Kan=(· = av)) /\
        (memN pu k=true->nb=none/\zcj P o (W5 (Z4 ops o) (itE IL++e0)) ch Kan/\zqa ops k o ops.size=true/\yp o=false):=by
       unfold zxm at hpo
       cases hmp:memN pu k with
       |false=>
        obtain⟨nb,Kan,h1,h2,h3⟩:=zp9 (h0:=h0) (W:=W) (M0:=M0) am H
        exact⟨nb,Kan,h1,h2,h3,λhc=>by cases hc⟩
       |true=>
        rw[hmp]at hpo
        simp only[cond_true]at hpo
        cases hpb:zds P (W5 (Z4 ops o) (itE IL++e0)) ch o with
        |false=>rw[hpb]at hpo;cases hpo
        |true=>
         rw[hpb]at hpo
         obtain⟨av,h1,h2,h3⟩:=zu0 (h0:=h0) (W:=W) (M0:=M0) H hpb
         exact⟨none,(· = av),h1,λae e=>e ▸ h2,λ_=>⟨av,rfl⟩,λ_=>⟨rfl,h3,hpo,zoh hpb⟩⟩
      obtain⟨nb,Kan,sp,hK,ah,aa⟩:=Z
      have ai:wv ops k (Z4 ops o) m=true:=by
       unfold zgy at hst
       cases h1:Nat.blt k m with
       |false=>rw[h1]at hst;cases hst
       |true=>
        rw[h1]at hst
        cases h2:wv ops k (Z4 ops o) m with
        |false=>rw[h2]at hst;cases hst
        |true=>rfl
      have an:k<m:=by
       unfold zgy at hst
       cases h1:Nat.blt k m with
       |false=>rw[h1]at hst;cases hst
       |true=>simpa[Cz]using h1
      have af:∀av,Kan av->zsf (yo ops m) av nb=true/\dW P gl tr n ops m pu e0 cs Kt ord (pl.setIfInBounds k true) (⟨k,o.dst,ch,av,nb⟩::IL):=by
       intro av O
       have:=hK av O
       cases hio:zsf (yo ops m) av nb with
       |false=>rw[hio]at this;exact this.elim
       |true=>rw[hio]at this;exact⟨rfl,this⟩
      refine⟨o,ch,nb,Kan,ho,hst,λav=>⟨an,zck ho,hok,?_,⟨o,_,ho,aj,sp,λx hx=>?_,aa⟩,λae O ac=>?_⟩,λav O=>(af av O).2,ah⟩
      ·-- the chain's slots
       intro x hx p hp hd
       refine qh ai p x.1 hp hd ?_
       unfold qcf at hco
       split at hco
       ·cases hx
       ·rename_i g q
        have al:x=(g,q):=by simpa using hx
        subst al
        split at hco
        ·rename_i j pp ak
         split at hco
         ·rename_i g' ap
          have e:=Ag hco
          unfold Z4
          rw[ak]
          simp only[ap]
          rw[e]
          exact Ao _ Aq
         ·cases hco
        ·cases hco
       ·cases hco
      ·obtain⟨h1,h2⟩:=Y3 hx
       rcases An.1 h1 with h1|h1
       ·exact .inr ⟨h1,λp hp hd=>qh ai p x.1 hp hd h2⟩
       ·exact .inl h1
      ·have:=(af ae O).1
       simp only at ac
       subst ac
       exact this
   ·exact H.elim
theorem zxo{k:Nat}(h:zgy ops m o k pl=true):k∈Region.ready .any ops pl/\(yp o=true->Region.ready .any ops pl=[k]):=by
 unfold zgy at h
 cases h1:Nat.blt k m with
 |false=>rw[h1]at h;cases h
 |true=>
  rw[h1]at h
  cases h2:wv ops k (Z4 ops o) m with
  |false=>rw[h2]at h;cases h
  |true=>
   rw[h2]at h
   simp only[cond_true]at h
   cases ha:yp o with
   |false=>rw[ha]at h;exact⟨zxj h,λhc=>by cases hc⟩
   |true=>
    rw[ha]at h
    simp only[cond_true]at h
    have:Region.ready .any ops pl=[k]:=by
     unfold z4e at h
     split at h
     ·rename_i x _ hx;rw[hx,Ag h]
     ·cases h
    exact⟨by rw[this];exact Aq,λ_=>this⟩
theorem zxp{P:Program}{gl:Fr}(af:Fr.le gl M0){tr:TypeId}{n:Nat}{ops:Array Oper}{m:Nat}{pu:List Nat}{e0:qw}{cs:CS}{Kt:List It->Prop}{listed:Array Bool}:∀{ord:List Nat} {pl:Array Bool} {IL:List It},dW P gl tr n ops m pu e0 cs Kt ord pl IL->GInv h0 W M0 P n ops m pu e0 cs listed pl IL ->
  ∃Z ac new,dW P gl tr n ops m pu e0 cs Kt Z ac (new++IL)/\GInv h0 W M0 P n ops m pu e0 cs listed ac (new++IL)/\zfm ops Z=true/\∀i∈new,listed.getD i.k false=false
 |[],pl,IL,H,G=>⟨[],pl,[],H,G,rfl,λi hi=>by cases hi⟩
 |k::ord,pl,IL,H,G=>by
  obtain⟨o,ch,nb,Kan,ho,an,ak,hK,ai⟩:=zqc (h0:=h0) (W:=W) (M0:=M0) af H
  cases ha:yp o with
  |true=>exact⟨k::ord,pl,[],H,G,by simp[zfm,ho,ha],λi hi=>by cases hi⟩
  |false=>
   obtain⟨av,rfl⟩:=ai ha
   have aj:=(zxo an).1
   have ah:pl.getD k true=false:=(mem_ready.1 aj).1
   have ae:k<pl.size:=by
    rcases AR k pl.size with h|h
    ·exact h
    ·simp[Array.getElem?_eq_none h]at ah
   have O:pl.getD k false=false:=by rw[<-getD_lt ae];exact ah
   have al:listed.getD k false=false:=by
    cases hb:listed.getD k false with
    |false=>rfl
    |true=>rw[G.sub k hb]at O;cases O
   have am:∀i∈IL,i.k≠k:=λi hi e=>by
    have:=(G.mem k).2 ⟨i,hi,e⟩
    rw[this]at O;cases O
   have G':GInv h0 W M0 P n ops m pu e0 cs listed (pl.setIfInBounds k true) (⟨k,o.dst,ch,av,nb⟩::IL):=by
    refine⟨by simp[G.size],λj=>?_,BL.2 ⟨λj hj=>(am j hj).symm,G.dist⟩,λi hi=>?_,λj hj=>?_⟩
    ·by_cases aa:k=j
     ·subst aa
      simp only[Ad,exists_eq_or_imp,true_or,iff_true]
      simp[ae]
     ·rw[getD_set_ne false aa,G.mem j]
      simp only[Ad,exists_eq_or_imp,aa,false_or]
    ·rcases Ad.1 hi with rfl|hi
     ·exact⟨(· = av),(ak av).mono λi hi=>Af _ hi,rfl,λ_=>rfl⟩
     ·obtain⟨Ki,h1,h2,h3⟩:=G.items i hi
      exact⟨Ki,h1.mono λi hi=>Af _ hi,h2,h3⟩
    ·by_cases aa:k=j
     ·subst aa;simp[ae]
     ·rw[getD_set_ne false aa];exact G.sub j hj
   obtain⟨Z,ac,new,h1,h2,h3,h4⟩:=zxp af (hK av rfl) G'
   refine⟨Z,ac,new++[⟨k,o.dst,ch,av,nb⟩],by simpa using h1,by simpa using h2,h3,λi hi=>?_⟩
   rcases An.1 hi with hi|hi
   ·exact h4 i hi
   ·simp only[Bu]at hi;subst hi;exact al
theorem zsi{listed:Array Bool}{it:It}(hk:it.k<listed.size)(O:listed.getD it.k false=false):∀{IL:List It},IL.Pairwise (λi j=>i.k≠j.k)->it∈IL->(Y4 (listed.setIfInBounds it.k true) IL).Perm (it::Y4 listed IL)
 |[],_,h=>by cases h
 |i::l,hd,h=>by
  rw[BL]at hd
  simp only[Y4]
  rcases Ad.1 h with rfl|h
  ·have e1:(listed.setIfInBounds it.k true).getD it.k false=true:=by simp[hk]
   have e2:Y4 (listed.setIfInBounds it.k true) l=Y4 listed l:=by
    have:∀{l:List It},(∀j∈l,it.k≠j.k)->Y4 (listed.setIfInBounds it.k true) l=Y4 listed l:=by
     intro l
     induction l with
     |nil=>intro _;rfl
     |cons j l ih=>
      intro hj
      simp only[Y4]
      rw[getD_set_ne false (hj j Aq),ih λx hx=>hj x (Af _ hx)]
    exact this hd.1
   rw[e1,O,e2]
   exact .refl _
  ·have Z:i.k≠it.k:=hd.1 it h
   rw[getD_set_ne false (Ne.symm Z)]
   have ih:=zsi hk O hd.2 h
   cases listed.getD i.k false with
   |true=>exact(ih.cons _).trans (.swap _ _ _)
   |false=>exact ih
theorem zxq{listed:Array Bool}{k:Nat}:∀{l:List It},(∀j∈l,k≠j.k)->Y4 (listed.setIfInBounds k true) l=Y4 listed l
 |[],_=>rfl
 |j::l,hj=>by
  simp only[Y4]
  rw[getD_set_ne false (hj j Aq),zxq λx hx=>hj x (Af _ hx)]
theorem zlm{listed:Array Bool}{IL:List It}:∀{new:List It},(∀i∈new,listed.getD i.k false=false)->Y4 listed (new++IL)=Y4 listed IL
 |[],_=>rfl
 |i::l,h=>by
  simp only[A3,Y4]
  rw[h i Aq]
  exact zlm λx hx=>h x (Af _ hx)
theorem zsj{listed:Array Bool}:∀{l:List It},(∀i∈l,listed.getD i.k false=true)->Y4 listed l=l
 |[],_=>rfl
 |i::l,h=>by
  simp only[Y4]
  rw[h i Aq,zsj λx hx=>h x (Af _ hx)]
  rfl
theorem GInv.ready_pl{e0:qw}{IL:List It}(G:GInv h0 W M0 P n ops m pu e0 cs listed pl IL)(hi:i∈Region.ready .any ops listed)(hp:pl.getD i false=false):i∈Region.ready .any ops pl:=by
 obtain⟨_,o,ho,O⟩:=mem_ready.1 hi
 have Z:i<ops.size:=(Ac.1 ho).1
 exact mem_ready.2 ⟨by rw[getD_lt (by rw[G.size];exact Z)];exact hp,o,ho,λe he hb=>G.sub _ (O e he hb)⟩
theorem zu1(hm:m<=ops.size)(O:qi ops ops.size=true)(ac:listed.size=ops.size)(Z:∃k,k<m/\listed.getD k false=false):∃k,k<m/\k∈Region.ready .any ops listed:=by
 obtain⟨k,⟨h1,h2⟩,h3⟩:=exists_least Z
 refine⟨k,h1,mem_ready.2 ⟨by rw[getD_lt (by omega)];exact h2,ops[k],AK (by omega),λe he hb=>?_⟩⟩
 have aa:=qj O k ops[k] (by omega) (AK (by omega)) e he hb
 cases hb':listed.getD e.on false with
 |true=>rfl
 |false=>
  have:=h3 e.on ⟨by omega,hb'⟩
  omega
def Jz(N m:Nat):Array Bool:=((BE N).map λk=>Nat.blt k m).toArray
theorem zqd(hm:m<=ops.size)(inv:HeadInv .any ops m listed)(O:∀k,k<m->listed.getD k false=true):listed=Jz ops.size m:=by
 refine Array.ext (by simp[Jz,inv.size]) λi h1 h2=>?_
 have hi:i<ops.size:=by rw[<-inv.size];exact h1
 have e:(Jz ops.size m)[i]=Nat.blt i m:=by simp[Jz]
 rw[e]
 rcases AR i m with h|h
 ·have:=O i h
  simp only[Array.getD,h1,dite_true]at this
  rw[show Nat.blt i m=true by simpa[Cz]using h]
  exact this
 ·have:=inv.tail i h hi
  simp only[Array.getD,h1,dite_true]at this
  have e2:Nat.blt i m=false:=by
   cases hb:Nat.blt i m with
   |false=>rfl
   |true=>have:=Cz.mp hb;omega
  rw[e2]
  exact this
def zxr(ops:Array Oper)(pu:List Nat)(m i:Nat):Nat->Bool
 |0=>false
 |j+1=>bif (bif Region.waitsFor .any ops j i then(bif Nat.beq j m then true else !(memN pu j))else false)then Nat.blt i j else zxr ops pu m i j
theorem zkb{ops:Array Oper}{pu:List Nat}{m i:Nat}:∀{n:Nat},zxr ops pu m i n=true->∃j,j<n/\i<j/\Region.waitsFor .any ops j i=true/\(j=m\/memN pu j=false)
 |0,h=>by cases h
 |n+1,h=>by
  simp only[zxr]at h
  cases hb:(bif Region.waitsFor .any ops n i then(bif Nat.beq n m then true else !(memN pu n))else false)with
  |false=>
   rw[hb]at h
   obtain⟨j,h1,h2⟩:=zkb h
   exact⟨j,by omega,h2⟩
  |true=>
   rw[hb]at h
   refine⟨n,by omega,by simpa[Cz]using h,?_⟩
   cases hw:Region.waitsFor .any ops n i with
   |false=>rw[hw]at hb;cases hb
   |true=>
    rw[hw]at hb
    refine⟨rfl,?_⟩
    cases hm:Nat.beq n m with
    |true=>exact .inl (Ag hm)
    |false=>rw[hm]at hb;exact .inr (by simpa using hb)
def zu2(ops:Array Oper)(pu:List Nat)(m:Nat):Nat->Bool
 |0=>true
 |i+1=>bif (bif memN pu i then true else zxr ops pu m i (m+1))then zu2 ops pu m i else false
theorem zkc{ops:Array Oper}{pu:List Nat}{m:Nat}:∀{n:Nat},zu2 ops pu m n=true->∀i,i<n->memN pu i=false->∃j,j<=m/\i<j/\Region.waitsFor .any ops j i=true/\(j=m\/memN pu j=false)
 |0,_,i,hi,_=>by omega
 |n+1,h,i,hi,hp=>by
  simp only[zu2]at h
  cases hb:(bif memN pu n then true else zxr ops pu m n (m+1))with
  |false=>rw[hb]at h;cases h
  |true=>
   rw[hb]at h
   rcases AR i n with h1|h1
   ·exact zkc h i h1 hp
   ·have:i=n:=by omega
    subst this
    rw[hp]at hb
    obtain⟨j,a1,a2⟩:=zkb hb
    exact⟨j,by omega,a2⟩
def zu3(ops:Array Oper)(pu:List Nat)(m:Nat):Bool:=bif Nat.beq m ops.size then true else bif zu2 ops pu m m then Region.chainB .any ops m else false
theorem zqe(hm:m<ops.size)(hs:zu2 ops pu m m=true)(hc:Region.chainB .any ops m=true)(inv:HeadInv .any ops m listed):
  ∀(d i:Nat),m-i=d->i<m->listed.getD i false=false->memN pu i=false->∀t,m<=t->t∉Region.ready .any ops listed:=by
 intro d
 induction d using Nat.strongRecOn with
 |_ d ih=>
  intro i hd hi O ac t ht hr
  obtain⟨_,ot,ah,ak⟩:=mem_ready.1 hr
  have aa:t<ops.size:=(Ac.1 ah).1
  by_cases ai:t=m
  ·subst ai
   obtain⟨j,h1,h2,h3,h4⟩:=zkc hs i hi ac
   by_cases Z:j=t
   ·subst Z
    rw[Yg hr h3]at O;cases O
   ·have ae:memN pu j=false:=h4.resolve_left Z
    cases hl:listed.getD j false with
    |true=>
     obtain⟨oj,af,e,he,hb,aj⟩:=Region.waitsFor_spec h3
     have:=inv.closed j oj af hl e he hb
     rw[aj,O]at this
     cases this
    |false=>exact ih (t-j) (by omega) j rfl (by omega) hl ae t (Ae _) hr
  ·have h1:=AP.1 hc t (BX.2 aa)
   simp only[Cp,decide_eq_true_eq]at h1
   rcases h1 with h1|h1
   ·omega
   ·have:=Yg hr h1
    rw[getD_both (inv.tail (t-1) (by omega) (by omega))]at this
    cases this
theorem z1s(hm:m<=ops.size)(he:zu3 ops pu m=true)(inv:HeadInv .any ops m listed)(O:∃k,k<m/\k∈Region.ready .any ops listed/\memN pu k=false):∀i∈Region.ready .any ops listed,i<m:=by
 intro i hi
 obtain⟨_,o,ho,_⟩:=mem_ready.1 hi
 have Z:i<ops.size:=(Ac.1 ho).1
 rcases AR i m with h|h
 ·exact h
 ·exfalso
  unfold zu3 at he
  cases hb:Nat.beq m ops.size with
  |true=>have:=Ag hb;omega
  |false=>
   rw[hb]at he
   simp only[cond_false]at he
   cases hs:zu2 ops pu m m with
   |false=>rw[hs]at he;cases he
   |true=>
    rw[hs]at he
    obtain⟨k,h1,h2,h3⟩:=O
    exact zqe (by omega) hs he inv _ k rfl h1 (getD_both (mem_ready.1 h2).1) h3 i h hi
theorem qcg(hgl:Fr.le gl M0){e0:qw}{Kt:List It->Prop}{Q:Exit->Act->World->Prop}(hm:m<=ops.size)(hnd:j8 ops m=true)(hback:qi ops ops.size=true)(hends:zu3 ops pu m=true)(hsel:Region.noSelect ops=true)(hQp:∀c a w,¬Q (.panic c) a w)
    (he0:∀x∈e0,x.2.1=[]/\x.1∉yo ops m/\Yf x.2.2 (yo ops m)=true) (B:World) {g:Nat} {a0:Act} {γ0:Gh}
    (hQ:∀IL γ a d h,SatA n (itE IL++e0) γ a->Inv h0 W M0 (itC IL++cs) γ h->Same (yo ops m) a0 a->GxS (yo ops m) γ0 γ->Kt IL->wpAny P .any ops Q g (Jz ops.size m) a (mk B d h)):
    ∀(N:Nat) (U:List Nat) (listed:Array Bool) (ord:List Nat) (pl:Array Bool) (IL:List It) (γ:Gh) (a:Act) (d:Nat) (h:zb),U.length=N->U.Nodup->(∀k,k∈U↔k<m/\listed.getD k false=false)->HeadInv .any ops m listed ->
      dW P gl tr n ops m pu e0 cs Kt ord pl IL->zfm ops ord=true->GInv h0 W M0 P n ops m pu e0 cs listed pl IL->Mid h0 W M0 P n ops m e0 cs listed IL γ a h->Same (yo ops m) a0 a->GxS (yo ops m) γ0 γ ->
      wpAny P .any ops Q (N+g) listed a (mk B d h):=by
  intro N
  induction N with
  |zero=>
    intro U listed ord pl IL γ a d h hU _ hmem inv H hanch G M hsame hgx
    have hUn:U=[]:=Cd.1 hU
    subst hUn
    have hall:∀k,k<m->listed.getD k false=true:=λk hk=>by
      cases hb:listed.getD k false with
      |true=>rfl
      |false=>exact absurd ((hmem k).2 ⟨hk,hb⟩) (by simp)
    have hKt:Kt IL:=by
      cases ord with
      |nil=>
        unfold dW at H
        cases hb:zuz pl m with
        |true=>rw[hb]at H;exact H
        |false=>rw[hb]at H;exact H.elim
      |cons k ord=>
        exfalso
        obtain⟨o,ch,nb,Kan,ho,hst,hit,_,_⟩:=zqc (h0:=h0) (W:=W) (M0:=M0) hgl H
        have hk:k<m:=(hit (.g (.a (.v undef)))).lt
        have h1:=(mem_ready.1 (zxo hst).1).1
        rw[getD_lt (by rw[G.size];omega),G.sub k (hall k hk)]at h1
        cases h1
    have hact:Y4 listed IL=IL:=zsj λi hi=>by
      obtain⟨Ki,Ti,_⟩:=G.items i hi
      exact hall _ Ti.lt
    have h1:=M.sat
    have h2:=M.inv
    rw[hact]at h1 h2
    rw[AD,zqd hm inv hall]
    exact hQ IL γ a d h h1 h2 hsame hgx hKt
  |succ N ih=>
    intro U listed ord pl IL γ a d h hU hdup hmem inv H hanch G M hsame hgx
    have hex:∃k,k<m/\listed.getD k false=false:=by
      cases U with
      |nil=>cases hU
      |cons k U=>exact⟨k,(hmem k).1 Aq⟩
    obtain⟨k0,hk0m,hk0⟩:=zu1 hm hback inv.size hex
    rw[show N+1+g=(N+g)+1 by omega]
    have gen:∀i,i∈Region.ready .any ops listed->i<m->(memN pu i=true->wpAny P .any ops Q (N+g+1) listed a (mk B d h))/\wpOp P ops Q i (wpAny P .any ops Q (N+g) (listed.setIfInBounds i true)) a (mk B d h):=by
      intro i hi him
      have hun:listed.getD i false=false:=getD_both (mem_ready.1 hi).1
      have hils:i<listed.size:=by rw[inv.size];omega
      have hU':(U.erase i).length=N:=by rw[CL ((hmem i).2 ⟨him,hun⟩),hU];rfl
      have hdup':(U.erase i).Nodup:=hdup.erase i
      have hmem':∀k,k∈U.erase i↔k<m/\(listed.setIfInBounds i true).getD k false=false:=λk=>by
        rw[hdup.mem_erase_iff,hmem k]
        by_cases hk:i=k
        · subst hk;simp[hils]
        · rw[getD_set_ne false hk];exact⟨λhx=>hx.2,λhx=>⟨λe=>hk e.symm,hx⟩⟩
      have inv':=inv.set hi him
      have toS:∀{it:It} {Kan:AV->Prop},ItOK h0 W M0 P n ops m pu e0 cs IL it Kan->∀{γ':Gh},Gx (it.nb.map (·.1)) γ γ'->GxS (yo ops m) γ γ':=by
        intro it Kan T γ' gx
        refine⟨gx.1,λj hj=>?_⟩
        refine gx.2 j λhc=>hj ?_
        obtain⟨o,e,ho,_,sp,_,_⟩:=T.ex
        cases hnb:it.nb with
        |none=>rw[hnb]at hc;cases hc
        |some b=>
          rw[hnb]at hc
          have:b.1=j:=by simpa using hc
          subst this
          obtain⟨_,h2,_⟩:=sp.box b hnb
          exact zdt T.lt (by rw[zck ho];exact h2)
      have toSame:∀{it:It} {Kan:AV->Prop},ItOK h0 W M0 P n ops m pu e0 cs IL it Kan->∀u,Same (yo ops m) a (a.put it.dst u):=λ {it} {Kan} T u=>
        Same.put a it.dst u λj hj=>zdt T.lt (by rw[T.dst];exact hj)
      have hILk:∀x∈IL,∃Kan,ItOK h0 W M0 P n ops m pu e0 cs IL x Kan/\Kan x.av:=λx hx=>by
        obtain⟨Kx,h1,h2,_⟩:=G.items x hx
        exact⟨Kx,h1,h2⟩
      cases hpl:pl.getD i false with
      |true=>
        obtain⟨it,hit,hik⟩:=(G.mem i).1 hpl
        subst hik
        obtain⟨Kan,T,_,hdet⟩:=G.items it hit
        have fwd:∀u γ' h' d',(∀L':List It,L'.Perm (it::Y4 listed IL)->SatA n (itE L'++e0) γ' (a.put it.dst u)/\Inv h0 W M0 (itC L'++cs) γ' h')->Gx (it.nb.map (·.1)) γ γ'->wpAny P .any ops Q (N+g) (listed.setIfInBounds it.k true) (a.put it.dst u) (mk B d' h'):=by
         intro u γ' h' d' hst hgx'
         obtain⟨s1,s2⟩:=hst _ (zsi hils hun G.dist hit)
         refine ih _ _ ord pl IL γ' _ d' h' hU' hdup' hmem' inv' H hanch ⟨G.size,G.mem,G.dist,λx hx=>?_,λk hk=>?_⟩ ⟨s1,s2⟩ (hsame.trans (toSame T u)) (hgx.trans (toS T hgx'))
         · obtain⟨Kx,h1,h2,h3⟩:=G.items x hx
           refine⟨Kx,h1,h2,λhf=>h3 ?_⟩
           by_cases hk:it.k=x.k
           · rw[<-hk];exact hun
           · rw[getD_set_ne false hk]at hf;exact hf
         · by_cases hk':it.k=k
           · subst hk';exact hpl
           · rw[getD_set_ne false hk']at hk;exact G.sub k hk
        have hK0:Kan it.av:=by rw[hdet hun]
        refine⟨λhp=>zxn hnd he0 hILk inv M T hK0 hi hp hsel hQp B d λu hst hgx'=>fwd u γ h d hst hgx',zoi hnd he0 hILk inv M T hi B d λav u γ' h' d' hav hst hgx'=>?_⟩
        have hav':av=it.av:=by rw[hdet hun]at hav;exact hav
        subst hav'
        exact fwd u γ' h' d' hst hgx'
      |false=>
        have hrp:=G.ready_pl hi hpl
        cases ord with
        |nil=>
          exfalso
          unfold dW at H
          cases hb:zuz pl m with
          |true=>rw[zj8 hb i him]at hpl;cases hpl
          |false=>rw[hb]at H;exact H
        |cons k ord=>
          obtain⟨o,ch,nb,Kan,ho,hst,hit,hK,_⟩:=zqc (h0:=h0) (W:=W) (M0:=M0) hgl H
          have hanc:yp o=true:=by simpa[zfm,ho]using hanch
          have hrk:=(zxo hst).2 hanc
          rw[hrk]at hrp
          have hik:i=k:=by simpa using hrp
          subst hik
          refine⟨λhp=>?_,zoi hnd he0 hILk inv M (hit (.g (.a (.v undef)))) hi B d λav u γ' h' d' hav hst' hgx'=>?_⟩
          · obtain⟨o',_,ho',_,_,_,hpp⟩:=(hit (.g (.a (.v undef)))).ex
            have:=(hpp hp).2.2.2
            have e':o'=o:=Au (ho'.symm.trans ho)
            rw[e',hanc]at this;cases this
          have hne:∀j∈IL,i≠j.k:=λj hj e=>by
            have:=(G.mem i).2 ⟨j,hj,e.symm⟩
            rw[hpl]at this;cases this
          have hips:i<pl.size:=by rw[G.size,<-inv.size];exact hils
          have G':GInv h0 W M0 P n ops m pu e0 cs (listed.setIfInBounds i true) (pl.setIfInBounds i true) (⟨i,o.dst,ch,av,nb⟩::IL):=by
            refine⟨by simp[G.size],λj=>?_,BL.2 ⟨λj hj=>hne j hj,G.dist⟩,λx hx=>?_,λj hj=>?_⟩
            · by_cases hjk:i=j
              · subst hjk
                simp only[Ad,exists_eq_or_imp,true_or,iff_true]
                simp[hips]
              · rw[getD_set_ne false hjk,G.mem j]
                simp only[Ad,exists_eq_or_imp,hjk,false_or]
            · rcases Ad.1 hx with rfl|hx
              · exact⟨Kan,(hit av).mono λx hx=>Af _ hx,hav,λhf=>by simp[hils]at hf⟩
              · obtain⟨Kx,h1,h2,h3⟩:=G.items x hx
                refine⟨Kx,h1.mono λx hx=>Af _ hx,h2,λhf=>h3 ?_⟩
                rw[getD_set_ne false (hne x hx)]at hf;exact hf
            · by_cases hjk:i=j
              · subst hjk;simp[hips]
              · rw[getD_set_ne false hjk]at hj ⊢;exact G.sub j hj
          obtain⟨ord',pl',new,h1,h2,h3,h4⟩:=zxp hgl (hK av hav) G'
          have hact:Y4 (listed.setIfInBounds i true) (new++⟨i,o.dst,ch,av,nb⟩::IL)=⟨i,o.dst,ch,av,nb⟩::Y4 listed IL:=by
            rw[zlm h4]
            simp only[Y4]
            rw[show(listed.setIfInBounds i true).getD i false=true by simp[hils],zxq hne]
            rfl
          obtain⟨s1,s2⟩:=hst' (⟨i,o.dst,ch,av,nb⟩::Y4 listed IL) (.refl _)
          exact ih _ _ ord' pl' _ γ' _ d' h' hU' hdup' hmem' inv' h1 h3 h2 ⟨by rw[hact];exact s1,by rw[hact];exact s2⟩ (hsame.trans (toSame (hit av) u)) (hgx.trans (toS (hit av) hgx'))
    by_cases hpe:∃i,i∈Region.ready .any ops listed/\i<m/\memN pu i=true
    · obtain⟨i,hi,him,hp⟩:=hpe
      exact(gen i hi him).1 hp
    · refine⟨λhc=>(by rw[hc]at hk0;cases hk0),λi hi=>(gen i hi (z1s hm hends inv ⟨k0,hk0m,hk0,?_⟩ i hi)).2⟩
      cases hb:memN pu k0 with
      |false=>rfl
      |true=>exact absurd ⟨k0,hk0,hk0m,hb⟩ hpe
def z6f(ops:Array Oper)(m:Nat)(pu:List Nat):Bool:=
 bif Nat.ble m ops.size then(bif j8 ops m then(bif qi ops ops.size then(bif zu3 ops pu m then(bif Region.noSelect ops then Region.seqB .any ops (ops.size-m) m (Jz ops.size m)else false)else false)else false)else false)else false
def z6g(P:Program)(gl:Fr)(tr:TypeId)(n:Nat)(ops:Array Oper)(m:Nat)(ord pu:List Nat)(R:CS)(K:qw->CS->Prop)(e:qw)(C:CS):Prop:=
 bif z6f ops m pu then dW P gl tr n ops m pu (ze0 (yo ops m) e) (C++R) (λIL=>wRA P gl tr n ops R K (ops.toList.drop m) (itE IL++ze0 (yo ops m) e) (itC IL++C)) ord (Bc ops.size false) []else False
theorem zqf(hm:P.follows .mixedOrders=true)(ac:Fr.le gl M0){K:qw->CS->Prop}{e:qw}
  (H:z6g P gl tr n ops m ord pu R K e C) (B:World) (d:Nat) (hs:SatA n e γ a) (I:Inv h0 W M0 (C++R) γ h) {Q:Exit->Act->World->Prop}
  (hQ:∀e' C' γ' a' d' h',SatA n e' γ' a'->Inv h0 W M0 (C'++R) γ' h'->Same (yx ops.toList) a a'->GxS (yx ops.toList) γ γ'->K e' C'->Q .normal a' (mk B d' h')):(CX id ops true).wp P Q a (mk B d h):=by
 unfold z6g at H
 cases hB:z6f ops m pu with
 |false=>rw[hB]at H;exact H.elim
 |true=>
  rw[hB]at H
  simp only[cond_true]at H
  have aC:m<=ops.size/\j8 ops m=true/\qi ops ops.size=true/\zu3 ops pu m=true/\Region.noSelect ops=true/\Region.seqB .any ops (ops.size-m) m (Jz ops.size m)=true:=by
   unfold z6f at hB
   cases h1:Nat.ble m ops.size with
   |false=>rw[h1]at hB;cases hB
   |true=>
    rw[h1]at hB
    cases h2:j8 ops m with
    |false=>rw[h2]at hB;cases hB
    |true=>
     rw[h2]at hB
     cases h3:qi ops ops.size with
     |false=>rw[h3]at hB;cases hB
     |true=>
      rw[h3]at hB
      cases h4:zu3 ops pu m with
      |false=>rw[h4]at hB;cases hB
      |true=>
       rw[h4]at hB
       cases h5:Region.noSelect ops with
       |false=>rw[h5]at hB;cases hB
       |true=>
        rw[h5]at hB
        exact⟨BM h1,rfl,rfl,rfl,rfl,hB⟩
  obtain⟨aD,ay,ae,af,ai,al⟩:=aC
  have O:yx ops.toList=yx (ops.toList.take m)++yx (ops.toList.drop m):=by rw[<-Zn,BD]
  have au:∀x∈ze0 (yo ops m) e,x.2.1=[]/\x.1∉yo ops m/\Yf x.2.2 (yo ops m)=true:=λx hx=>(wy hx).2
  have ak:HeadInv .any ops m (Bc ops.size false):=
   ⟨by simp,λj oj _ hl=>(by rw[getD_replicate_false]at hl;cases hl),λt _ ht=>getD_in (by simpa using ht) (getD_replicate_false _ _)⟩
  have G0:GInv h0 W M0 P n ops m pu (ze0 (yo ops m) e) (C++R) (Bc ops.size false) (Bc ops.size false) []:=
   ⟨by simp,λk=>by rw[getD_replicate_false];simp,List.Pairwise.nil,λi hi=>(by cases hi),λk hk=>hk⟩
  obtain⟨ah,ar,new,h1,h2,h3,h4⟩:=zxp ac H G0
  have Z:Y4 (Bc ops.size false) (new++[])=[]:=by rw[zlm h4];rfl
  have aj:SatA n (ze0 (yo ops m) e) γ a:=hs.sub λx hx=>(wy hx).1
  let Qn:Exit->Act->World->Prop:=λx a w=>x=.normal/\Q .normal a w
  refine wp_mono (Q':=Q) (Q:=Qn) ?_ (λx a w hq=>by obtain⟨rfl,h⟩:=hq;exact h)
  refine wp_region_any hm ?_
  have aB:ops.size=m+(ops.size-m):=by omega
  have key:=qcg (n:=n) (Q:=Qn) (pu:=pu) ac aD ay ae af ai (λc a w hq=>by cases hq.1) au B (g:=ops.size-m) (a0:=a) (γ0:=γ) (Kt:=λIL=>wRA P gl tr n ops R K (ops.toList.drop m) (itE IL++ze0 (yo ops m) e) (itC IL++C)) (λIL γ' a' d' h' s1 s2 s3 s4 s5=>?_) m (BE m) (Bc ops.size false) ah ar (new++[]) γ a (d+1) h DN Dm (λk=>by rw[BX,getD_replicate_false];simp) ak h1 h3 h2 ⟨by rw[Z];exact aj,by rw[Z];exact I⟩ (Same.refl _ _) (GxS.refl _ _)
  ·rw[<-aB]at key
   exact key
  ·have aa:(ops.toList.drop m).length=ops.size-m:=by simp
   rw[<-aa]
   refine wpAny_of_seq (md:=.any) (ops.toList.drop m) m _ a' _ (λj=>by simp[AE]) (by rw[aa];exact al) ?_
   refine zcg ac B _ _ _ _ _ _ d' s5 s1 (by rw[AQ];exact s2) λan aA am ap ax az q4 q5 q6 q7 q8=>⟨rfl,hQ an aA am ap ax az q4 q5 ?_ ?_ q8⟩
   ·rw[O]
    exact(s3.mono λx hx=>Ao _ hx).trans (q6.mono λx hx=>AB _ hx)
   ·rw[O]
    exact(s4.mono λx hx=>Ao _ hx).trans (q7.mono λx hx=>AB _ hx)
abbrev z1t:=List (Nat×Nat×List Nat×List Nat×List Nat)
def z4f:z1t->Nat->Option (Nat×List Nat×List Nat×List Nat)
 |[],_=>none
 |(j,x)::l,i=>bif Nat.beq i j then some x else z4f l i
def zqg(P:Program)(gl:Fr)(tr:TypeId)(n:Nat)(tl:zxg)(dl:z1t)(id:Nat)(ops:Array Oper)(O:Bool)(R:CS)(K:qw->CS->Prop)(e:qw)(C:CS):Prop:=
 match z4f dl id with
 |none=>zp8 P gl tr n tl id ops O R K e C
 |some (m,fz,ord,pu)=>bif O then z6g P gl tr n ops m ord pu R K e (frzL fz C)else False
theorem zln(hm:P.follows .mixedOrders=true)(Z:Fr.le gl M0){tl:zxg}{dl:z1t}{O:Bool}{K:qw->CS->Prop}{e:qw}
  (H:zqg P gl tr n tl dl id ops O R K e C) (B:World) (d:Nat) (hs:SatA n e γ a) (I:Inv h0 W M0 (C++R) γ h) {Q:Exit->Act->World->Prop}
  (hQ:∀e' C' γ' a' d' h',SatA n e' γ' a'->Inv h0 W M0 (C'++R) γ' h'->Same (yx ops.toList) a a'->GxS (yx ops.toList) γ γ'->K e' C'->Q .normal a' (mk B d' h')):(CX id ops O).wp P Q a (mk B d h):=by
 unfold zqg at H
 split at H
 ·exact zll hm Z H B d hs I hQ
 ·rename_i m fz ord pu _
  cases O with
  |false=>exact H.elim
  |true=>
   obtain⟨γ1,I1,g1⟩:=Inv.frzL (C:=C) (γ:=γ) fz I
   refine zqf hm Z H B d (hs.gx g1) I1 λe' C' γ' a' d' h' q1 q2 q3 q4 q5=>hQ e' C' γ' a' d' h' q1 q2 q3 (GxS.trans ⟨g1.1,λi _=>g1.2 i (by simp)⟩ q4) q5
end
section
variable {S:List Nat} {γ γ':Gh} {u:Value} {C R:CS} {h:zb} {n:Nat} {a:Act} {P:Program} {f:FuncId}
variable {h0 : zb} {W : Nat -> Prop} {M0 : Fr}
structure PlanA where
 tails:zxg
 draws:z1t
 loops:List (Nat×AnnA)
 joins:List (Nat×AnnA)
def qag:List (Nat×AnnA)->Option Nat->Option AnnA
 |[],_=>none
 |(j,m)::l,some i=>bif Nat.beq i j then some m else qag l (some i)
 |_,none=>none
def z9l:AA->List Nat
 |.box j _=>[j]
 |.own j=>[j]
 |.oelt j _ _ _=>[j]
 |_=>[]
def zxs(S:List Nat):List AA->Bool
 |[]=>true
 |x::l=>bif (match z9l x with
  |[]=>true
  |j::_=>!(memN S j))then zxs S l else false
def z1u(S:List Nat):AG->Bool
 |.a x=>zxs S [x]
 |.agg l=>zxs S l
def zsk(S:List Nat):List AG->Bool
 |[]=>true
 |x::l=>bif z1u S x then zsk S l else false
def z6h(S:List Nat):AV->Bool
 |.g x=>z1u S x
 |.tup l=>zsk S l
 |.nx _ _ _=>true
theorem DenA.gxS(g:GxS S γ γ'){x:AA}(hm:(match z9l x with
  |[]=>true
  |j::_=>!(memN S j))=true)(h:DenA γ x u):DenA γ' x u:=by
 have key:∀j,memN S j=false->γ'.β j=γ.β j/\γ'.σ j=γ.σ j:=λj hj=>g.2 j (xn hj)
 cases x with
 |v y=>exact h
 |d t y=>exact Rd.mono g.1 h
 |box j o=>rw[show u=_ from h];simp only[DenA,(key j (by simpa[z9l]using hm)).1]
 |own j=>rw[show u=_ from h];simp only[DenA,(key j (by simpa[z9l]using hm)).2]
 |oelt j z i o=>obtain⟨b,e1,e2⟩:=h;exact⟨b,by rw[(key j (by simpa[z9l]using hm)).2];exact e1,e2⟩
 |elt t y o=>obtain⟨b,f,cs,e,h1,h2⟩:=h;exact⟨b,f,cs,e,g.1 _ _ h1,Rd.mono g.1 h2⟩
 |dc t xs=>obtain⟨s,e1,e2,h⟩:=h;exact⟨s,e1,e2,Rd.mono g.1 h⟩
theorem DenL.gxS{S:List Nat}{γ γ':Gh}(g:GxS S γ γ'):∀{l:List AA} {us:List Value},zxs S l=true->All2 (DenA γ) l us->All2 (DenA γ') l us
 |[],[],_,_=>trivial
 |[],_::_,_,h=>h.elim
 |_::_,[],_,h=>h.elim
 |x::l,u::us,hm,h=>by
  simp only[zxs]at hm
  cases hx:(match z9l x with
   |[]=>true
   |j::_=>!(memN S j))with
  |false=>rw[hx]at hm;cases hm
  |true=>rw[hx]at hm;exact⟨DenA.gxS g hx h.1,DenL.gxS g hm h.2⟩
theorem DenG.gxS(g:GxS S γ γ'){x:AG}(hm:z1u S x=true)(h:DenG γ x u):DenG γ' x u:=by
 cases x with
 |a x=>
  have:All2 (DenA γ') [x] [u]:=DenL.gxS g hm (show All2 (DenA γ) [x] [u]from⟨h,trivial⟩)
  exact this.1
 |agg l=>obtain⟨us,e,h⟩:=h;exact⟨us,e,DenL.gxS g hm h⟩
theorem DenV.gxS(g:GxS S γ γ'){x:AV}(hm:z6h S x=true)(h:DenV γ x u):DenV γ' x u:=by
 cases x with
 |g x=>exact DenG.gxS g hm h
 |tup l=>
  obtain⟨us,e,h⟩:=h
  refine⟨us,e,?_⟩
  have:∀{l:List AG} {us:List Value},zsk S l=true->All2 (DenG γ) l us->All2 (DenG γ') l us:=by
   intro l
   induction l with
   |nil=>intro us _ h;cases us with
    |nil=>trivial
    |cons _ _=>exact h.elim
   |cons x l ih=>
    intro us hm h
    cases us with
    |nil=>exact h.elim
    |cons u us=>
     simp only[zsk]at hm
     cases hx:z1u S x with
     |false=>rw[hx]at hm;cases hm
     |true=>rw[hx]at hm;exact⟨DenG.gxS g hx h.1,ih hm h.2⟩
  exact this hm h
 |nx b p c=>exact h
def zgz(ms S:List Nat):qw->qw
 |[]=>[]
 |(i,[],v)::e=>bif memN ms i then zgz ms S e else(bif z6h S v then(i,[],v)::zgz ms S e else zgz ms S e)
 |(_,_::_,_)::e=>zgz ms S e
theorem J0{ms S:List Nat}{γ γ1:Gh}{a a1:Act}(g:GxS S γ γ1)(O:Same ms a a1):∀{e:qw},(∀x∈e,zlc γ (zu a) x)->∀x∈zgz ms S e,zlc γ1 (zu a1) x
 |[],_,x,hx=>by cases hx
 |(i,[],v)::e,h,x,hx=>by
  have ih:=J0 g O (e:=e) λx hx=>h x (Af _ hx)
  simp only[zgz]at hx
  cases hm:memN ms i with
  |true=>rw[hm]at hx;exact ih x hx
  |false=>
   rw[hm]at hx
   simp only[cond_false]at hx
   cases hn:z6h S v with
   |false=>rw[hn]at hx;exact ih x hx
   |true=>
    rw[hn]at hx
    rcases Ad.1 hx with rfl|hx
    ·refine⟨λ_=>?_,λZ=>absurd trivial Z⟩
     have:=(h _ Aq).1 trivial
     simp only at this ⊢
     rw[O _ (xn hm)]
     exact this.gxS g hn
    ·exact ih x hx
 |(_,_::_,_)::e,h,x,hx=>J0 g O (e:=e) (λx hx=>h x (Af _ hx)) x hx
def inC(ro:List Nat):CS->CS
 |[]=>[]
 |(c,k)::l=>bif memN ro c then(c,k)::inC ro l else inC ro l
def z6i(ro:List Nat):CS->CS
 |[]=>[]
 |(c,k)::l=>bif memN ro c then z6i ro l else(c,k)::z6i ro l
theorem zkd(ro:List Nat):∀C:CS,(z6i ro C++inC ro C).Perm C
 |[]=>.nil
 |(c,k)::l=>by
  have ih:=zkd ro l
  simp only[inC,z6i]
  cases memN ro c with
  |true=>exact List.perm_middle.trans (ih.cons _)
  |false=>exact ih.cons _
theorem Inv.part(I:Inv h0 W M0 (C++R) γ h)(ro:List Nat):Inv h0 W M0 (z6i ro C++(inC ro C++R)) γ h:=by
 rw[<-AQ]
 exact I.perm ((zkd ro C).symm.append_right R)
abbrev zal:=Exit->qw->CS->Prop
def qah(K:qw->CS->Prop)(Q:zal):zal
 |.normal,e,C=>K e C
 |x,e,C=>Q x e C
def zxt(id:Nat)(Q:zal):zal
 |.exit i,e,C=>bif Nat.beq i id then Q .normal e C else Q (.exit i) e C
 |x,e,C=>Q x e C
def z4g(m:CS)(K:qw->CS->Prop)(Q:zal):zal
 |.normal,e,C=>K e C
 |x,e,C=>Q x e (C++m)
def zdc(pl:PlanA):Code->List Nat
 |.region _ ops _=>yx ops.toList
 |.seq a b=>zdc pl a++(zdc pl b++(match qag pl.joins (j5 b)with
  |some J=>J.ids
  |none=>[]))
 |.cond _ a b=>zdc pl a++zdc pl b
 |.block _ b=>zdc pl b
 |.loop b=>zdc pl b++(match qag pl.loops (j5 b)with
  |some J=>J.ids
  |none=>[])
 |_=>[]
def atA{X:Type}(J:AnnA)(R:CS)(F:zur (za6 J) X)(e:qw)(C:CS)(k:X->Prop):Prop:=
 match xtr J R e C with
 |some ds=>match zez (za6 J) ds F with
  |some q=>k q
  |none=>False
 |none=>False
theorem zqh{X:Type}{J:AnnA}{F:zur (za6 J) X}{e:qw}{k:X->Prop}(h:atA J R F e C k):∃ds q,xtr J R e C=some ds/\zez (za6 J) ds F=some q/\k q:=by
 unfold atA at h
 split at h
 ·rename_i ds hd
  split at h
  ·rename_i q hq;exact⟨ds,q,hd,hq,h⟩
  ·exact h.elim
 ·exact h.elim
def WA(P:Program)(gl:Fr)(tr:TypeId)(n:Nat)(pl:PlanA):Code->CS->zal->qw->CS->Prop
 |.skip,_,Q,e,C=>Q .normal e C
 |.ret,_,Q,e,C=>Q .ret e C
 |.exit id,_,Q,e,C=>Q (.exit id) e C
 |.label _,_,Q,e,C=>Q .normal e C
 |.goto l,_,Q,e,C=>Q (.goto l) e C
 |.region id ops draw,R,Q,e,C=>zqg P gl tr n pl.tails pl.draws id ops draw R (λe C=>Q .normal e C) e C
 |.seq x y,R,Q,e,C=>match qag pl.joins (j5 y)with
  |none=>WA P gl tr n pl x R (qah (λe C=>WA P gl tr n pl y R Q e C) Q) e C
  |some J=>∀K:zur (za6 J) Prop,zxd (za6 J) K (λds q=>WA P gl tr n pl y R Q (z4d J ds++zgz (Qc x) (J.ids++zdc pl x) e) (chJ J ds++inC J.ro C)->q) ->
    WA P gl tr n pl x (inC J.ro C++R) (z4g (inC J.ro C) (λe1 C1=>atA J (inC J.ro C++R) K e1 C1 λq=>q) Q) e (z6i J.ro C)
 |.cond c x y,R,Q,e,C=>match zgi e [] c with
  |some v=>match zuk v with
   |some b=>(b=true->WA P gl tr n pl x R Q e C)/\(b=false->WA P gl tr n pl y R Q e C)
   |none=>False
  |none=>False
 |.block id x,R,Q,e,C=>WA P gl tr n pl x R (zxt id Q) e C
 |.loop x,R,Q,e,C=>match qag pl.loops (j5 x)with
  |some J=>∃(I:zur (za6 J) Prop) (μ:zur (za6 J) Nat),atA J (inC J.ro C++R) (zoa (za6 J) I μ) e (z6i J.ro C) (λp=>p.1) /\
    zxd (za6 J) (zoa (za6 J) I μ) λds p=>p.1->WA P gl tr n pl x (inC J.ro C++R) (z4g (inC J.ro C) (λe1 C1=>atA J (inC J.ro C++R) (zoa (za6 J) I μ) e1 C1 λq=>q.1/\q.2<p.2) Q)
     (z4d J ds++zgz (Qc x) (J.ids++zdc pl x) e) (chJ J ds)
  |none=>False
 |_,_,_,_,_=>False
def qai(h0:zb)(W:Nat->Prop)(M0:Fr)(n:Nat)(B:World)(ms S:List Nat)(a0:Act)(γ0:Gh)(R:CS)(Q:zal):Exit->Act->World->Prop:=
 λx a w=>∃e C γ d h,w=mk B d h/\SatA n e γ a/\Inv h0 W M0 (C++R) γ h/\Same ms a0 a/\GxS S γ0 γ/\Q x e C
theorem zu4{e:qw}{γ0 γ γ1:Gh}{a a1:Act}(hs:SatA n e γ0 a){ms S ids:List Nat}(hd:a1.defers=[])(hz:a1.tmps.size=n)(O:Same ms a a1)(g:GxS S γ0 γ)(g1:GxS ids γ γ1){J:AnnA}{ds:List Dy}
  (hf:∀x∈z4d J ds,zlc γ1 (zu a1) x):SatA n (z4d J ds++zgz ms (ids++S) e) γ1 a1:=by
 refine⟨hd,hz,λx hx=>?_⟩
 rcases An.1 hx with hx|hx
 ·exact hf x hx
 ·exact J0 ((g.mono λx hx=>AB _ hx).trans (g1.mono λx hx=>Ao _ hx)) O hs.all x hx
theorem z1v(hm:P.follows .mixedOrders=true){gl:Fr}(ar:Fr.le gl M0){tr:TypeId}{pl:PlanA}:∀(c:Code) (R:CS) (Q:zal) (e:qw) (C:CS),WA P gl tr n pl c R Q e C ->
  ∀(γ:Gh) (h:zb) (B:World) (d:Nat) (a:Act),SatA n e γ a->Inv h0 W M0 (C++R) γ h->c.wp P (qai h0 W M0 n B (Qc c) (zdc pl c) a γ R Q) a (mk B d h):=by
 intro c
 induction c with
 |skip=>exact λR Q e C H γ h B d a hs I=>wp_skip ⟨e,C,γ,d,h,rfl,hs,I,Same.refl _ _,GxS.refl _ _,H⟩
 |ret=>exact λR Q e C H γ h B d a hs I=>wp_ret ⟨e,C,γ,d,h,rfl,hs,I,Same.refl _ _,GxS.refl _ _,H⟩
 |exit id=>exact λR Q e C H γ h B d a hs I=>wp_exit ⟨e,C,γ,d,h,rfl,hs,I,Same.refl _ _,GxS.refl _ _,H⟩
 |label l=>exact λR Q e C H γ h B d a hs I=>wp_label ⟨e,C,γ,d,h,rfl,hs,I,Same.refl _ _,GxS.refl _ _,H⟩
 |goto l=>exact λR Q e C H γ h B d a hs I=>wp_goto ⟨e,C,γ,d,h,rfl,hs,I,Same.refl _ _,GxS.refl _ _,H⟩
 |region id ops aF=>
  exact λR Q e C H γ h B d a hs I=>zln hm ar H B d hs I λe' C' γ' a' d' h' q1 q2 q3 q4 q5=>⟨e',C',γ',d',h',rfl,q1,q2,q3,q4,q5⟩
 |seq x y Z aa=>
  intro R Q e C H γ h B d a hs I
  simp only[WA]at H
  have hl:∀i∈Qc x,i∈Qc (x.seq y):=λi hi=>Ao _ hi
  have hr:∀i∈Qc y,i∈Qc (x.seq y):=λi hi=>AB _ hi
  have kl:∀i∈zdc pl x,i∈zdc pl (x.seq y):=λi hi=>Ao _ hi
  have kr:∀i∈zdc pl y,i∈zdc pl (x.seq y):=λi hi=>AB _ (Ao _ hi)
  split at H
  ·refine wp_seq (wp_mono (Z _ _ _ _ H γ h B d a hs I) ?_)
   rintro ex a1 w1 ⟨e1,C1,γ1,d1,h1,rfl,s1,I1,m1,g1,q1⟩
   cases ex with
   |normal=>
    refine wp_mono (aa _ _ _ _ q1 γ1 h1 B d1 a1 s1 I1) ?_
    rintro ex a2 w2 ⟨e2,C2,γ2,d2,h2,rfl,s2,I2,m2,g2,q2⟩
    exact⟨e2,C2,γ2,d2,h2,rfl,s2,I2,(m1.mono hl).trans (m2.mono hr),(g1.mono kl).trans (g2.mono kr),q2⟩
   |_=>exact⟨e1,C1,γ1,d1,h1,rfl,s1,I1,m1.mono hl,g1.mono kl,q1⟩
  ·rename_i J hJ
   have kJ:∀i∈J.ids,i∈zdc pl (x.seq y):=λi hi=>by
    simp only[zdc,hJ]
    exact AB _ (AB _ hi)
   have H':=H (qac (za6 J) λds=>WA P gl tr n pl y R Q (z4d J ds++zgz (Qc x) (J.ids++zdc pl x) e) (chJ J ds++inC J.ro C)) (zoc λds hq=>hq)
   refine wp_seq (wp_mono (Z _ _ _ _ H' γ h B d a hs (I.part J.ro)) ?_)
   rintro ex a1 w1 ⟨e1,C1,γ1,d1,h1,rfl,s1,I1,m1,g1,q1⟩
   cases ex with
   |normal=>
    obtain⟨ds,q,hv,hq,hk⟩:=zqh q1
    have ay:=zob hq
    subst ay
    obtain⟨aB,ae,af,f1⟩:=zgv hv s1 I1
    have aC:=zu4 hs s1.defers s1.size m1 g1 af f1
    rw[<-AQ]at ae
    refine wp_mono (aa _ _ _ _ hk aB h1 B d1 a1 aC ae) ?_
    rintro ex a2 w2 ⟨e2,C2,γ2,d2,h2,rfl,s2,I2,m2,g2,q2⟩
    exact⟨e2,C2,γ2,d2,h2,rfl,s2,I2,(m1.mono hl).trans (m2.mono hr),((g1.mono kl).trans (af.mono kJ)).trans (g2.mono kr),q2⟩
   |_=>exact⟨e1,C1++inC J.ro C,γ1,d1,h1,rfl,s1,by rw[AQ];exact I1,m1.mono hl,g1.mono kl,q1⟩
 |cond c x y Z aa=>
  intro R Q e C H γ h B d a hs I
  simp only[WA]at H
  have hl:∀i∈Qc x,i∈Qc (EC c x y):=λi hi=>Ao _ hi
  have hr:∀i∈Qc y,i∈Qc (EC c x y):=λi hi=>AB _ hi
  have kl:∀i∈zdc pl x,i∈zdc pl (EC c x y):=λi hi=>Ao _ hi
  have kr:∀i∈zdc pl y,i∈zdc pl (EC c x y):=λi hi=>AB _ hi
  split at H
  ·rename_i v hv
   split at H
   ·rename_i b hb
    refine wp_cond_split (zgj hb (qa hs (c:=[]) trivial hv)) (λaz=>?_) (λam=>?_)
    ·refine wp_mono (Z _ _ _ _ (H.1 az) γ h B d a hs I) ?_
     rintro ex a2 w2 ⟨e2,C2,γ2,d2,h2,rfl,s2,I2,m2,g2,q2⟩
     exact⟨e2,C2,γ2,d2,h2,rfl,s2,I2,m2.mono hl,g2.mono kl,q2⟩
    ·refine wp_mono (aa _ _ _ _ (H.2 am) γ h B d a hs I) ?_
     rintro ex a2 w2 ⟨e2,C2,γ2,d2,h2,rfl,s2,I2,m2,g2,q2⟩
     exact⟨e2,C2,γ2,d2,h2,rfl,s2,I2,m2.mono hr,g2.mono kr,q2⟩
   ·exact H.elim
  ·exact H.elim
 |block id x ih=>
  intro R Q e C H γ h B d a hs I
  refine wp_block (wp_mono (ih _ _ _ _ H γ h B d a hs I) ?_)
  rintro ex a1 w1 ⟨e1,C1,γ1,d1,h1,rfl,s1,I1,m1,g1,q1⟩
  cases ex with
  |exit i=>
   simp only[zxt]at q1
   simp only[Exit.inBlock]
   by_cases hb:Nat.beq i id=true
   ·rw[if_pos (Ag hb)]
    simp only[hb,cond_true]at q1
    exact⟨e1,C1,γ1,d1,h1,rfl,s1,I1,m1,g1,q1⟩
   ·rw[if_neg (λhe=>hb (by rw[he];simp))]
    simp only[hb,cond_false]at q1
    exact⟨e1,C1,γ1,d1,h1,rfl,s1,I1,m1,g1,q1⟩
  |_=>exact⟨e1,C1,γ1,d1,h1,rfl,s1,I1,m1,g1,q1⟩
 |loop x ih=>
  intro R Q e C H γ h B d a hs I
  simp only[WA]at H
  split at H
  ·rename_i J hJ
   have kx:∀i∈zdc pl x,i∈zdc pl (Code.loop x):=λi hi=>Ao _ hi
   have kJ:∀i∈J.ids,i∈zdc pl (Code.loop x):=λi hi=>by
    simp only[zdc,hJ]
    exact AB _ hi
   have kS:∀i∈J.ids++zdc pl x,i∈zdc pl (Code.loop x):=λi hi=>by
    rcases An.1 hi with hi|hi
    ·exact kJ i hi
    ·exact kx i hi
   obtain⟨Iv,μ,ak,ac⟩:=H
   obtain⟨aA,p0,ai,aE,aj⟩:=zqh ak
   obtain⟨γ0,I0,g0,f0⟩:=zgv ai hs (I.part J.ro)
   refine wp_loop_ghost (λm a1 w1=>∃d1 h1 γ1 ds p,w1=mk B d1 h1/\a1.defers=[]/\a1.tmps.size=n/\Same (Qc x) a a1/\GxS (J.ids++zdc pl x) γ γ1/\Inv h0 W M0 (chJ J ds++(inC J.ro C++R)) γ1 h1/\(∀y∈z4d J ds,zlc γ1 (zu a1) y) /\
     zez (za6 J) ds (zoa (za6 J) Iv μ)=some p/\p.1/\p.2=m) p0.2 ⟨d,h,γ0,aA,p0,rfl,hs.defers,hs.size,Same.refl _ _,g0.mono λi hi=>Ao _ hi,I0,f0,aE,aj,rfl⟩ ?_
   rintro m a1 w1 ⟨d1,h1,γ1,ds,p,rfl,al,aD,O,g1,I1,f1,hp,an,rfl⟩
   have s1:SatA n (z4d J ds++zgz (Qc x) (J.ids++zdc pl x) e) γ1 a1:=⟨al,aD,λy hy=>by
    rcases An.1 hy with hy|hy
    ·exact f1 y hy
    ·exact J0 g1 O hs.all y hy⟩
   have hb:=zj3 hp ac an
   refine wp_mono (ih _ _ _ _ hb γ1 h1 B d1 a1 s1 I1) ?_
   rintro ex a2 w2 ⟨e2,C2,γ2,d2,h2,rfl,s2,I2,m2,g2,q2⟩
   cases ex with
   |normal=>
    obtain⟨ap,q,ah,hq,ax,au⟩:=zqh q2
    obtain⟨γ3,I3,g3,f3⟩:=zgv ah s2 I2
    exact⟨q.2,au,d2,h2,γ3,ap,q,rfl,s2.defers,s2.size,O.trans m2,(g1.trans (g2.mono λi hi=>AB _ hi)).trans (g3.mono λi hi=>Ao _ hi),I3,f3,hq,ax,rfl⟩
   |_=>exact⟨e2,C2++inC J.ro C,γ2,d2,h2,rfl,s2,by rw[AQ];exact I2,O.trans m2,(g1.mono kS).trans (g2.mono kx),q2⟩
  ·exact H.elim
 |_=>exact λR Q e C H=>H.elim
def zqi:Nat->List Arg->qw
 |_,[]=>[]
 |i,a::l=>(i,[],.g (gOf a.t a.x))::zqi (i+1) l
def zsl(e:qw)(i:Nat):Option AV:=match zlb e i with
 |some ([],v)=>some v
 |_=>none
def z1w(P:Program)(cs:CS)(e:qw):List ResultVar->(List AV->Prop)->Prop
 |[],K=>K []
 |.tmp t::l,K=>match zsl e t with
  |some v=>z1w P cs e l λvs=>K (v::vs)
  |none=>False
 |.cell a t::l,K=>match zsl e a with
  |some (.g (.a aa))=>zul P cs t aa none λv=>z1w P cs e l λvs=>K (v::vs)
  |_=>False
def jg(cs:CS):(l:List Ty)->List AV->Option (Els l)
 |[],[]=>some ()
 |[t],[v]=>zcc cs t v
 |t::t'::l,v::vs=>match zcc cs t v,jg cs (t'::l) vs with
  |some x,some y=>some (x,y)
  |_,_=>none
 |_,_=>none
theorem zcl{γ:Gh}{cs:CS}(hf:z0t γ cs):∀{l:List Ty} {vs:List AV} {r:Els l} {us:List Value},jg cs l vs=some r->All2 (DenV γ) vs us->RdL γ.M l r us
 |[],[],r,[],_,_=>rfl
 |[],[],_,_::_,_,h=>h.elim
 |[t],[v],r,[u],h,hd=>⟨u,rfl,za1 hf (by simpa[jg]using h) hd.1⟩
 |[t],[v],_,[],_,h=>h.elim
 |[t],[v],_,_::_::_,_,h=>h.2.elim
 |t::t'::l,v::vs,r,[],_,h=>h.elim
 |t::t'::l,v::vs,r,u::us,h,hd=>by
  simp only[jg]at h
  split at h
  ·rename_i x y h1 h2
   simp only[Aa]at h
   subst h
   exact⟨u,us,rfl,za1 hf h1 hd.1,zcl hf h2 hd.2⟩
  ·cases h
 |[],_::_,_,_,h,_=>by simp[jg]at h
 |[t],[],_,_,h,_=>by simp[jg]at h
 |[t],_::_::_,_,_,h,_=>by simp[jg]at h
 |t::t'::l,[],_,_,h,_=>by simp[jg]at h
def qch(P:Program)(rs:List ResultVar)(rt:List Ty)(R:Els rt->Prop):zal:=λx e C=>match x with
 |.normal=>z1w P C e rs λvs=>match jg (frzL (W0 vs) C) rt vs with
  |some r=>R r
  |none=>False
 |.ret=>z1w P C e rs λvs=>match jg (frzL (W0 vs) C) rt vs with
  |some r=>R r
  |none=>False
 |_=>False
theorem zdu{P:Program}{n:Nat}{C:CS}{e:qw}{γ:Gh}{a:Act}{h:zb}(hs:SatA n e γ a)(I:Inv h0 W M0 C γ h):∀{l:List ResultVar} {K:List AV->Prop},z1w P C e l K->∃vs us,K vs/\All2 (DenV γ) vs us/\us.length=l.length/\QExec P (l.mapM (zgg a.tmps)) h us
 |[],K,H=>⟨[],[],H,trivial,rfl,λ_ _=>by simp⟩
 |.tmp t::l,K,H=>by
  simp only[z1w]at H
  split at H
  ·rename_i v hv
   obtain⟨vs,us,h1,h2,h3,h4⟩:=zdu hs I H
   have hd:DenV γ v (zu a t):=by
    unfold zsl at hv
    split at hv
    ·rename_i u hl
     simp only[Aa]at hv
     subst hv
     exact(hs.all _ (Zv hl)).1 trivial
    ·cases hv
   refine⟨v::vs,zu a t::us,h1,⟨hd,h2⟩,by simp[h3],?_⟩
   rw[En]
   exact QExec.bind (x:=zu a t) (QExec.pure _) (h4.bind (QExec.pure _))
  ·exact H.elim
 |.cell x t::l,K,H=>by
  simp only[z1w]at H
  split at H
  ·rename_i aa hp
   obtain⟨v,hK,hq⟩:=zgl (h0:=h0) (W:=W) (M0:=M0) H
   obtain⟨vs,us,h1,h2,h3,h4⟩:=zdu hs I hK
   have hd:DenA γ aa (zu a x):=by
    unfold zsl at hp
    split at hp
    ·rename_i u hl
     simp only[Aa]at hp
     subst hp
     exact(hs.all _ (Zv hl)).1 trivial
    ·cases hp
   obtain⟨u,hu,Z⟩:=hq trivial γ h _ I hd
   refine⟨v::vs,u::us,h1,⟨hu,h2⟩,by simp[h3],?_⟩
   rw[En]
   refine QExec.bind (x:=u) ?_ (h4.bind (QExec.pure _))
   have ae:∃p,zu a x=.pointer (some p):=by
    have no:∀aa,(∀k,z1h C k aa=none)->(∀c z i o,aa≠.oelt c z i o)->DenA γ aa (zu a x)->zul P C t aa none (λv=>z1w P C e l λvs=>K (v::vs))->False:=by
     intro aa hn ac _ hl
     unfold zul at hl
     split at hl
     ·split at hl
      ·exact ac _ _ _ _ rfl
      ·rw[hn]at hl;exact hl
     ·exact hl
    cases aa with
    |box c o=>exact⟨_,hd⟩
    |oelt c z i o=>obtain⟨g,_,e⟩:=hd;exact⟨_,e⟩
    |elt t y o=>obtain⟨b,f,cs,e,_⟩:=hd;exact⟨_,e⟩
    |v y=>exact(no _ (λ_=>rfl) (by simp) hd H).elim
    |d t y=>exact(no _ (λ_=>rfl) (by simp) hd H).elim
    |own c=>exact(no _ (λ_=>rfl) (by simp) hd H).elim
    |dc t y=>exact(no _ (λ_=>rfl) (by simp) hd H).elim
   obtain⟨p,O⟩:=ae
   rw[O]at Z
   have e3:a.tmps.getD x undef=.pointer (some p):=O
   simp only[zgg,e3]
   exact Z
  ·exact H.elim
theorem zoj{fn:Func}{rs:List ResultVar}(hr:fn.results.toList=rs){us:List Value}(hl:us.length=rs.length)(hq:QExec P (rs.mapM (zgg a.tmps)) h us):QExec P (results fn a.tmps) h (zij us):=by
 intro B d
 have e0:results fn a.tmps=(fn.results.mapM (zgg a.tmps) >>= λvs=>Dl (if h:vs.size=1 then vs[0]else .tuple vs)):=by
  unfold results
  congr 1
 rw[e0,Array.mapM_eq_mapM_toList,hr,Sem.run_bind,Sem.run_map,hq B d]
 simp only[Result.andThen_ok,Sem.run_pure]
 match us,hl with
 |[],_=>rfl
 |[v],_=>rfl
 |v::u::vs,_=>simp[zij]
theorem zg0{γ:Gh}{σ:Nat->Value}:∀{l:List Arg} {i:Nat} {us:List Value},Wz γ.M l us->(∀j v,us[j]?=some v->σ (i+j)=v)->∀x∈zqi i l,zlc γ σ x
 |[],_,_,_,_,x,hx=>by cases hx
 |a::l,i,[],h,_,x,hx=>h.elim
 |a::l,i,u::us,h,hσ,x,hx=>by
  simp only[zqi,Ad]at hx
  rcases hx with rfl|hx
  ·refine⟨λ_=>?_,λhn=>absurd trivial hn⟩
   have:=hσ 0 u rfl
   simp only at this ⊢
   rw[show σ i=u from this]
   exact zp4 h.1
  ·exact zg0 h.2 (λj v hj=>by have:=hσ (j+1) v (by simpa using hj);rwa[show i+(j+1)=i+1+j by omega]at this) x hx
theorem zu5(hm:P.follows .mixedOrders=true)(gl:Fr)(tr:TypeId)(pl:PlanA)(args:List Arg){fn:Func}{rs:List ResultVar}{rt:List Ty}(hf:P.funcs[f]?=some fn)(hb:Jo fn=true)(hr:fn.results.toList=rs)(hn:fn.ntmps=n)
  (hz:Nat.ble args.length n=true) {R:Els rt->Prop} (H:WA P gl tr n pl (codeOf fn) [] (qch P rs rt R) (zqi 0 args) []):PC P gl f args rt R:=by
 intro h M vs ac ai O B d
 subst hn
 have ae:fn.body=some (codeOf fn):=by
  unfold Jo at hb
  unfold codeOf
  split at hb
  ·rename_i c hc;rw[hc]
  ·cases hb
 refine calls_of_wp hf ae ?_
 have aa:vs.length=args.length:=(All2.length O).symm
 have aj:vs.length<=fn.ntmps:=by rw[aa];exact BM hz
 let γ:Gh:=⟨M,λ_=>0,λ_=>⟨none,0,0⟩⟩
 have I:Inv h (λ_=>False) M ([]++[]) γ h:={ ag:=ai,frame:=λ_ _ _=>rfl,size:=Ae _,old:=λ_ _=>rfl,le:=Fr.le.refl _,den:=λx hx=>(by cases hx),sep:=λx hx=>(by cases hx),apart:=List.Pairwise.nil }
 have hs:SatA fn.ntmps (zqi 0 args) γ { tmps:=vs.toArray++Bc (fn.ntmps-vs.toArray.size) undef,defers:=[] }:=by
  refine⟨rfl,by simp;omega,zg0 O λj v hj=>?_⟩
  have ah:j<vs.length:=(Az.1 hj).1
  simp only[AD,zu,Bi]
  rw[CB (by simpa using ah)]
  simp[hj]
 have Z:∀(e:qw) (C:CS) (γ':Gh) (h':zb) (a:Act),SatA fn.ntmps e γ' a->Inv h (λ_=>False) M (C++[]) γ' h'->(z1w P C e rs λvs=>match jg (frzL (W0 vs) C) rt vs with|some r=>R r|none=>False) ->
   ∃v,QExec P (results fn a.tmps) h' v/\Keep h.size h h'/\∃M' r,Fr.le M M'/\(∀b,b<h.size->M' b=M b)/\AgM M' h'/\zak M' rt r v/\R r:=by
  intro e C γ' h' a s1 I1 q
  rw[Ba]at I1
  obtain⟨af,us,hK,hd,hl,hq⟩:=zdu s1 I1 q
  split at hK
  ·rename_i r hc
   obtain⟨γ2,I2,g2⟩:=Inv.frzL (C:=C) (R:=[]) (γ:=γ') (W0 af) (by simpa using I1)
   rw[Ba]at I2
   refine⟨zij us,zoj hr hl hq,⟨I2.size,λi hi=>I2.frame i hi (λh=>h)⟩,γ2.M,r,I2.le,I2.old,I2.ag,⟨us,zcl I2.fz hc (hd.imp λv _ u hu=>hu.gx g2 rfl),rfl⟩,hK⟩
  ·exact hK.elim
 refine wp_mono (z1v hm ac _ _ _ _ _ H γ h B d _ hs I) ?_
 rintro ex a w ⟨e1,C1,γ1,d1,h1,rfl,s1,I1,m1,g1,q1⟩
 cases ex with
 |normal=>
  obtain⟨v,hq,k,rest⟩:=Z e1 C1 γ1 h1 a s1 I1 q1
  exact⟨s1.defers,v,hq B d1,v,d1,h1,rfl,rfl,k,rest⟩
 |ret=>
  obtain⟨v,hq,k,rest⟩:=Z e1 C1 γ1 h1 a s1 I1 q1
  exact⟨s1.defers,v,hq B d1,v,d1,h1,rfl,rfl,k,rest⟩
 |_=>exact q1.elim
theorem zu6(hm:P.follows .mixedOrders=true)(gl:Fr)(tr:TypeId)(pl:PlanA)(args:List Arg){fn:Func}{rs:List ResultVar}{rt:List Ty}(hf:P.funcs[f]?=some fn)(hb:Jo fn=true)(hr:fn.results.toList=rs)(hn:fn.ntmps=n)
  (hz:Nat.ble args.length n=true) {R:Els rt->Prop} {F:Prop} (H:F) (e:F=WA P gl tr n pl (codeOf fn) [] (qch P rs rt R) (zqi 0 args) []):PC P gl f args rt R:=
 zu5 hm gl tr pl args hf hb hr hn hz (e ▸ H)
end
end Go.X
end
section
namespace Go.X
open Go Go.RowKit
section
variable {P:Program} {f:FuncId} {h:zb} {M gl:Fr} {v:Value} {us:List Value}
theorem XC.of_calls{args:Array Value}{R:Value->zb->Prop}
  (H:∀B d,Calls P f args (mk B d h) λe w'=>∃v,e=.returned v/\w'.os=B.os/\w'.tape=B.tape/\w'.output=B.output/\R v w'.heap):XC P f args h R:=by
 intro B d
 refine(H B d).mono ?_
 rintro e w' ⟨v,rfl,h1,h2,h3,h4⟩
 refine⟨v,w'.drawn,w'.heap,rfl,?_,h4⟩
 cases w';simp only[mk]at *;subst h1;subst h2;subst h3;rfl
theorem AgM.keep{h h':zb}(ag:AgM M h)(k:Keep h.size h h'):AgM M h':=λb c e=>by
 obtain⟨T,m,e'⟩:=ag b c e
 exact⟨T,m,by rw[k.get b (ag.lt e)];exact e'⟩
def zu7:Arg->Option Value
 |⟨.int k,x⟩=>some (.int k x)
 |⟨.bool,x⟩=>some (.bool x)
 |⟨.str,x⟩=>some (.string x)
 |_=>none
def zcm:List Arg->Option (List Value)
 |[]=>some []
 |a::l=>match zu7 a,zcm l with
  |some v,some vs=>some (v::vs)
  |_,_=>none
theorem z1x{a:Arg}{v u:Value}(h:zu7 a=some v)(hd:RdV M a.t a.x u):u=v:=by
 obtain⟨t,x⟩:=a
 cases t with
 |int k=>simp only[zu7,Aa]at h;subst h;simpa[RdV,Rd,zdn]using hd
 |bool=>simp only[zu7,Aa]at h;subst h;simpa[RdV,Rd,zdn]using hd
 |str=>simp only[zu7,Aa]at h;subst h;simpa[RdV,Rd,zdn]using hd
 |_=>simp[zu7]at h
theorem W6{M:Fr}:∀{l:List Arg} {vs us:List Value},zcm l=some vs->Wz M l us->us=vs
 |[],vs,us,h,hd=>by
  simp only[zcm,Aa]at h;subst h
  cases us with
  |nil=>rfl
  |cons _ _=>exact hd.elim
 |a::l,vs,us,h,hd=>by
  simp only[zcm]at h
  split at h
  ·rename_i v O h1 h2
   simp only[Aa]at h;subst h
   cases us with
   |nil=>exact hd.elim
   |cons u us=>rw[z1x h1 hd.1,W6 h2 hd.2]
  ·cases h
theorem PC.of_scal{args:List Arg}{rt:List Ty}{R:Els rt->Prop}(Z:zcm args=some us){r:Els rt}(hv:∀M,zak M rt r v)(hR:R r)
  (H:∀w:World,AgM gl w.heap->Calls P f us.toArray w λe w'=>e=.returned v/\Below w.heap.size w w'):PC P gl f args rt R:=by
 intro h M vs hM ag ha
 rw[W6 Z ha]
 refine XC.of_calls λB d=>(H (mk B d h) λb c e=>ag b c (hM b c e)).mono ?_
 rintro e w' ⟨rfl,O⟩
 have k:Keep h.size h w'.heap:=⟨O.size,O.block⟩
 exact⟨v,rfl,O.os,O.tape,O.output,k,M,r,Fr.le.refl _,λ_ _=>rfl,ag.keep k,hv M,hR⟩
theorem PC.of_same{args:List Arg}{rt:List Ty}{R:Els rt->Prop}(O:zcm args=some us){r:Els rt}(hv:∀M,zak M rt r v)(hR:R r)
  (H:∀w:World,AgM gl w.heap->Calls P f us.toArray w λe w'=>e=.returned v/\w'=w):PC P gl f args rt R:=
 PC.of_scal O hv hR λw hw=>(H w hw).mono λe w' ⟨h1,h2⟩=>⟨h1,h2 ▸ Below.refl _ _⟩
theorem zlo(k:IntKind)(i:Int):zak M [.int k] i (.int k i):=⟨[_],⟨_,rfl,rfl⟩,rfl⟩
theorem z1y(b:Bool):zak M [.bool] b (.bool b):=⟨[_],⟨_,rfl,rfl⟩,rfl⟩
theorem zdv(s:Bt):zak M [.str] s (.string s):=⟨[_],⟨_,rfl,rfl⟩,rfl⟩
theorem AgM.glob{w:World}(ag:AgM gl w.heap){b o:Nat}{cs:Array Value}(hb:gl b=some cs)(ho:cs[o]?=some v):w.cell? ⟨b,o,Option.none⟩=some v:=by
 obtain⟨T,m,e⟩:=ag b cs hb
 simp[World.cell?,e,ho]
theorem PC.of_row{args:List Arg}(Z:zcm args=some us){t:Ty}{xs:List (El t)}{cells:Array Value}{T:TypeId}(O:∀M,RowC M t xs cells.toList)(hn:xs.length<=140737488355328){R:Els [.row t]->Prop}(hR:R xs)
  (H:∀w:World,AgM gl w.heap->Calls P f us.toArray w λe w'=>e=.returned (.slice (some ⟨w.heap.size,0,none⟩) xs.length xs.length)/\w'=w.alloc (.cells cells T)):PC P gl f args [.row t] R:=by
 intro h M vs hM ag ha
 rw[W6 Z ha]
 refine XC.of_calls λB d=>(H (mk B d h) λb c e=>ag b c (hM b c e)).mono ?_
 rintro e w' ⟨rfl,rfl⟩
 have k:Keep h.size h (h.push (.cells cells T)):=⟨by simp,λi hi=>by rw[BH,if_neg (by omega)]⟩
 have aa:Fr.le M λi=>bif Nat.beq i h.size then some cells else M i:=λb cs e=>by
  have:=ag.lt e
  have e2:Nat.beq b h.size=false:=by
   cases hb:Nat.beq b h.size with
   |false=>rfl
   |true=>have:=Ag hb;omega
  simp only[e2,cond_false];exact e
 refine⟨_,rfl,rfl,rfl,rfl,k,(λi=>bif Nat.beq i h.size then some cells else M i),xs,aa,λb hb=>?_,λb cs e=>?_,⟨[_],⟨_,rfl,?_⟩,rfl⟩,hR⟩
 ·have e2:Nat.beq b h.size=false:=by
   cases hb':Nat.beq b h.size with
   |false=>rfl
   |true=>have:=Ag hb';omega
  simp only[e2,cond_false]
 ·cases hb:Nat.beq b h.size with
  |true=>
   simp only[hb,cond_true,Aa]at e
   subst e
   rw[Ag hb]
   exact⟨T,(0,0),by show(h.push _)[h.size]?=_;simp⟩
  |false=>
   simp only[hb,cond_false]at e
   exact ag.keep k b cs e
 ·have hl:=(O M).1
  have:=(O (λi=>bif Nat.beq i h.size then some cells else M i)).rd (b:=h.size) (o:=0) (c:=xs.length) (cs:=cells) (by simp) (by rw[A2,<-hl,AN]) ⟨hn,Ae _⟩
  show RdV _ _ _ _
  unfold RdV
  rw[if_neg (by simp[zdn])]
  exact this
theorem zxu(M:Fr)(xs:List Bt):RowC M .str xs (xs.map AW):=by
 refine⟨by simp[sz],λi hi=>?_⟩
 simp only[sz,B6]
 show _=_
 apply AZ
 intro k
 rw[AC]
 cases k with
 |zero=>simp[hi]
 |succ k=>simp
theorem zeq{xs:List Bt}{cells:List Value}(H:RowC M .str xs cells):cells=xs.map AW:=by
 obtain⟨h1,h2⟩:=H
 simp only[sz,B6]at h1 h2
 refine List.ext_getElem (by simp[h1]) λi hi hj=>?_
 have hx:i<xs.length:=by omega
 have:=h2 i hx
 have e:(cells.drop i).take 1=[cells[i]]:=by rw[AL hi];rfl
 rw[e]at this
 have:=show[cells[i]]=[AW xs[i]]from this
 simpa using this
theorem PC.of_ex{args:List Arg}{rt:List Ty}{R:Els rt->Prop}(Z:zcm args=some us)
  (H:∀w:World,AgM gl w.heap->Calls P f us.toArray w λe w'=>∃v r,e=.returned v/\(∀M,zak M rt r v)/\R r/\Below w.heap.size w w'):PC P gl f args rt R:=by
 intro h M vs hM ag ha
 rw[W6 Z ha]
 refine XC.of_calls λB d=>(H (mk B d h) λb c e=>ag b c (hM b c e)).mono ?_
 rintro e w' ⟨v,r,rfl,hv,hR,O⟩
 have k:Keep h.size h w'.heap:=⟨O.size,O.block⟩
 exact⟨v,rfl,O.os,O.tape,O.output,k,M,r,Fr.le.refl _,λ_ _=>rfl,ag.keep k,hv M,hR⟩
end
section
variable {P:Program} {gl M:Fr} {f:FuncId} {h h':zb} {vs cs:List Value} {K:Value -> zb -> Prop} {t:Ty} {u v:Value} {i:Int} {k:Nat} {T:TypeId}
def PX(P:Program)(f:FuncId)(vs:Array Value)(h:zb)(M:Fr)(rt:List Ty)(R:Els rt->Prop):Prop:=
 XC P f vs h λv h'=>Keep h.size h h'/\∃M' r,Fr.le M M'/\(∀b,b<h.size->M' b=M b)/\AgM M' h'/\zak M' rt r v/\R r
theorem PC.px{args:List Arg}{rt:List Ty}{R:Els rt->Prop}(H:PC P gl f args rt R)(hM:Fr.le gl M)(ag:AgM M h)(ha:Wz M args vs):PX P f vs.toArray h M rt R:=H h M vs hM ag ha
structure Later (h:zb) (M:Fr) (h':zb) (M':Fr):Prop where
 keep:Keep h.size h h'
 le:Fr.le M M'
 old:∀b,b<h.size->M' b=M b
 ag:AgM M' h'
theorem Later.refl(ag:AgM M h):Later h M h M:=⟨Keep.refl _ _,Fr.le.refl _,λ_ _=>rfl,ag⟩
theorem Later.trans{h h' O:zb}{M M' M'':Fr}(a:Later h M h' M')(b:Later h' M' O M''):Later h M O M'':=
 ⟨a.keep.trans b.keep a.keep.size,a.le.trans b.le,λx hx=>(b.old x (by have:=a.keep.size;omega)).trans (a.old x hx),b.ag⟩
theorem Later.same(ag:AgM M h)(k:Keep h.size h h'):Later h M h' M:=⟨k,Fr.le.refl _,λ_ _=>rfl,ag.keep k⟩
theorem Later.push(ag:AgM M h)(o:Obj):Later h M (h.push o) M:=Later.same ag (Keep.push _ _ (Ae _))
theorem PX.go{vs:Array Value}{rt:List Ty}{R:Els rt->Prop}(H:PX P f vs h M rt R)(hK:∀v h' M' r,Later h M h' M'->zak M' rt r v->R r->K v h'):XC P f vs h K:=
 XC.mono H λv h' ⟨k,M',r,e1,e2,e3,e4,e5⟩=>hK v h' M' r ⟨k,e1,e2,e3⟩ e4 e5
theorem PX.of{vs:Array Value}{rt:List Ty}{R:Els rt->Prop}(H:XC P f vs h λv h'=>∃M' r,Later h M h' M'/\zak M' rt r v/\R r):PX P f vs h M rt R:=
 XC.mono H λv h' ⟨M',r,l,e4,e5⟩=>⟨l.keep,M',r,l.le,l.old,l.ag,e4,e5⟩
theorem PC.go{args:List Arg}{rt:List Ty}{R:Els rt->Prop}(H:PC P gl f args rt R)(hM:Fr.le gl M)(ag:AgM M h)(ha:Wz M args vs)
  (hK:∀v h' M' r,Later h M h' M'->zak M' rt r v->R r->K v h'):XC P f vs.toArray h K:=(H.px hM ag ha).go hK
theorem zfn{x:El t}(ht:zdn t=false):RdV M t x u↔Rd M t x [u]:=by unfold RdV;rw[ht];simp
theorem zcn{x:El t}:zak M [t] x v↔RdV M t x v:=by
 constructor
 ·rintro⟨us,⟨u,rfl,h⟩,rfl⟩;exact h
 ·intro h;exact⟨[v],⟨v,rfl,h⟩,rfl⟩
theorem zdd{b:Bool}(h:zak M [.bool] b v):v=.bool b:=by
 have:=zcn.1 h
 rw[zfn rfl]at this
 simpa[Rd]using this
theorem qbu{k:IntKind}(h:zak M [.int k] i v):v=.int k i:=by
 have:=zcn.1 h
 rw[zfn rfl]at this
 simpa[Rd]using this
theorem qc2{s:Bt}(h:zak M [.str] s v):v=.string s:=by
 have:=zcn.1 h
 rw[zfn rfl]at this
 simpa[Rd]using this
theorem wm:Wz M [] []:=trivial
theorem yj{a:Arg}{l:List Arg}{us:List Value}(h:RdV M a.t a.x u)(hl:Wz M l us):Wz M (a::l) (u::us):=⟨h,hl⟩
theorem rdStr(s:Bt):RdV M .str s (.string s):=by rw[zfn rfl];rfl
theorem z6j(k:IntKind)(i:Int):RdV M (.int k) i (.int k i):=by rw[zfn rfl];rfl
theorem rdBool(b:Bool):RdV M .bool b (.bool b):=by rw[zfn rfl];rfl
theorem z1z{s:Bt}(h:RdV M .str s u):u=.string s:=by rw[zfn rfl]at h;simpa[Rd]using h
theorem zsm{k:IntKind}(h:RdV M (.int k) i u):u=.int k i:=by rw[zfn rfl]at h;simpa[Rd]using h
theorem wq{v:Tr}(h:RdV M .tree v u):∃sk si:Sl,u=.agg #[.int .i64 v.kind,.string v.text,slV sk,slV si]/\Rd M (.row .str) v.keys [slV sk]/\Rd M (.row .tree) v.items [slV si]:=by
 unfold RdV at h
 simp only[zdn,if_true]at h
 obtain⟨cs,rfl,hr⟩:=h
 obtain⟨vk,vi,rfl,h1,h2⟩:=TrRd.keys hr
 have O:=h1;have Z:=h2
 obtain⟨w1,e1,a1,c1,q1,_⟩:=O
 obtain⟨w2,e2,a2,c2,q2,_⟩:=Z
 simp only[Ci,and_true]at e1 e2
 subst e1;subst e2;subst q1;subst q2
 exact⟨⟨a1,v.keys.length,c1⟩,⟨a2,v.items.length,c2⟩,rfl,h1,h2⟩
theorem yh{v:Tr}{sk si:Sl}(h1:Rd M (.row .str) v.keys [slV sk])(h2:Rd M (.row .tree) v.items [slV si]):RdV M .tree v (.agg #[.int .i64 v.kind,.string v.text,slV sk,slV si]):=by
 unfold RdV
 simp only[zdn,if_true]
 exact⟨[.int .i64 v.kind,.string v.text,slV sk,slV si],rfl,by cases v;exact TrRd.of h1 h2⟩
theorem zin{xs:List (El t)}(h:RdV M (.row t) xs u):∃s:Sl,u=slV s/\Rd M (.row t) xs [slV s]:=by
 rw[zfn rfl]at h
 have h':=h
 obtain⟨w,e,a,c,q,_⟩:=h'
 simp only[Ci,and_true]at e
 subst e;subst q
 exact⟨⟨a,xs.length,c⟩,rfl,h⟩
theorem rowLen{xs:List (El t)}{s:Sl}(h:Rd M (.row t) xs [slV s]):s.len=xs.length/\xs.length<=140737488355328/\xs.length<=s.cap:=by
 obtain⟨w,e,a,c,q,hn,_⟩:=h
 simp only[Ci,and_true]at e
 subst e
 simp only[slV,AO]at q
 obtain⟨_,h2,h3⟩:=q
 exact⟨h2,hn.1,by rw[h3];exact hn.2⟩
theorem rowAt{xs:List (El t)}{s:Sl}(h:Rd M (.row t) xs [slV s])(hk:k<xs.length):∃b o cs,s.a=some ⟨b,o,none⟩/\M b=some cs/\Rd M t xs[k] (cut cs (o+k*sz t) (sz t)):=by
 obtain⟨w,e,a,c,q,hn,hx⟩:=h
 simp only[Ci,and_true]at e
 subst e
 simp only[slV,AO]at q
 obtain⟨h1,h2,h3⟩:=q
 rcases hx with rfl|⟨b,o,cs,e1,e2,e3⟩
 ·simp at hk
 ·exact⟨b,o,cs,by rw[h1,e1],e2,e3 k hk⟩
theorem z13{M:Fr}{h:zb}(ag:AgM M h){b:Nat}{cs:Array Value}(hM:M b=some cs):∀{vs:List Value} {o i:Nat},cut cs (o+i) vs.length=vs->zd h ⟨b,o,none⟩ i vs
 |[],_,_,_=>trivial
 |v::vs,o,i,e=>by
  unfold cut at e
  have O:o+i<cs.toList.length:=by
   rcases AR (o+i) cs.toList.length with hh|hh
   ·exact hh
   ·rw[A7 hh]at e;simp at e
  rw[AL O,Av,B5]at e
  injection e with e1 e2
  refine⟨?_,z13 ag hM (i:=i+1) e2⟩
  rw[zh]
  refine ag.cell hM ?_
  rw[AK (by simpa using O),<-e1];simp
theorem z6k(ag:AgM M h){b:Nat}{cs:Array Value}(hM:M b=some cs){o:Nat}(e:cut cs o 1=[v]):zj h ⟨b,o,none⟩=some v:=by
 have:=z13 (vs:=[v]) (o:=o) (i:=0) ag hM (by simpa using e)
 exact this.1
theorem qci(b o n:Nat):(⟨b,o,none⟩:Addr).add n=⟨b,o+n,none⟩:=zh b o n
theorem zio(ag:AgM M h){xs:List Bt}{s:Sl}(H:Rd M (.row .str) xs [slV s])(hk:k<xs.length)(hi:i=(k:Int)){L:Nat}(hL:L=s.len){Q:Bt->Prop}(hQ:Q xs[k]):
  ∃a:Addr,(s.a=some a/\0<=i/\i<(L:Int))/\∃x:Bt,zj h (a.add (i.toNat*1))=some (.string x)/\Q x:=by
 obtain⟨b,o,cs,e1,e2,e3⟩:=rowAt H hk
 have hl:=(rowLen H).1
 refine⟨_,⟨e1,by omega,by omega⟩,xs[k],?_,hQ⟩
 rw[qci,hi,Ah]
 exact z6k ag e2 e3
theorem zok(ag:AgM M h){xs:List Tr}{s:Sl}(H:Rd M (.row .tree) xs [slV s])(hk:k<xs.length):∃(a:Addr) (sk si:Sl),s.a=some a/\zd h (a.add (k*4)) 0 [.int .i64 xs[k].kind,.string xs[k].text,slV sk,slV si]/\Rd M (.row .str) xs[k].keys [slV sk]/\Rd M (.row .tree) xs[k].items [slV si]:=by
 obtain⟨b,o,cs,e1,e2,e3⟩:=rowAt H hk
 have e4:RdV M .tree xs[k] (.agg (cut cs (o+k*sz .tree) (sz .tree)).toArray):=by
  unfold RdV;simp only[zdn,if_true];exact⟨_,rfl,e3⟩
 obtain⟨sk,si,q,h1,h2⟩:=wq e4
 refine⟨_,sk,si,e1,?_,h1,h2⟩
 rw[qci]
 refine z13 ag e2 (i:=0) ?_
 have:(cut cs (o+k*sz .tree) (sz .tree))=[.int .i64 xs[k].kind,.string xs[k].text,slV sk,slV si]:=by
  injection q with q
  exact congrArg D9 q
 exact this
def Mx(M:Fr)(b:Nat)(cs:Array Value):Fr:=λi=>if i=b then some cs else M i
theorem Later.frz(ag:AgM M h)(cs:Array Value)(T:TypeId):Later h M (h.push (.cells cs T)) (Mx M h.size cs) where
 keep:=Keep.push _ _ (Ae _)
 le:=λb c e=>by
  have:=ag.lt e
  unfold Mx;rw[if_neg (by omega)];exact e
 old:=λb hb=>by unfold Mx;rw[if_neg (by omega)]
 ag:=λb c e=>by
  unfold Mx at e
  split at e
  ·rename_i hb
   subst hb
   cases e
   exact⟨T,(0,0),j6 _ _⟩
  ·obtain⟨T',m,e'⟩:=ag b c e
   exact⟨T',m,by rw[(Keep.push h _ (Ae _)).get b (ag.lt e)];exact e'⟩
theorem zxv(M:Fr)(b:Nat)(cs:Array Value):Mx M b cs b=some cs:=by unfold Mx;rw[if_pos rfl]
theorem z19(k:Keep (h.size+1) (h.push (.cells cs.toArray T)) h'):zd h' ⟨h.size,0,none⟩ 0 cs:=
 ((Blk.new h cs.toArray T).keep (k.get _ (by omega))).ld
theorem z6l(k:Keep (h.size+1) (h.push (.cells cs.toArray T)) h'){i:Nat}(hv:cs[i]?=some v):zj h' ((⟨h.size,0,none⟩:Addr).add i)=some v:=by
 have:=((Blk.new h cs.toArray T).keep (k.get _ (by omega)))
 exact this.cellAdd (o:=0) (by simpa using hv)
end
end Go.X
end
section
namespace Go.X
open Go Go.ChangeShapes Go.WideShapes Go.RowKit
set_option linter.unusedVariables false
section
variable {a:Addr} {v:Value} {cs:List Value} {fuel:Nat} {t e:TypeId} {T:Ty} {P:Program} {M:Fr}
def Fz(W:World):Fr:=λb=>match W.heap[b]? with|some (.cells cs _ _)=>some cs|_=>none
theorem Fz.ag(W:World):AgM (Fz W) W.heap:=by
 intro b c e
 unfold Fz at e
 split at e
 ·rename_i cs T m hh;cases e;exact⟨T,m,hh⟩
 ·cases e
theorem Fz.cell{W:World}(h:W.cell? a=some v):∃b o c,a=⟨b,o,none⟩/\Fz W b=some c/\c[o]?=some v:=by
 obtain⟨b,o,sp⟩:=a
 unfold World.cell? at h
 split at h
 ·rename_i c T m hh
  cases sp with
  |some x=>simp at h
  |none=>
   refine⟨b,o,c,rfl,?_,by simpa using h⟩
   unfold Fz
   change W.heap[b]?=_ at hh
   rw[hh]
 ·cases h
theorem Fz.cells{W:World}{n:Nat}(h:W.cells? 0 a n=some cs)(hn:0<n):∃b o c,a=⟨b,o,none⟩/\Fz W b=some c/\cut c o n=cs:=by
 obtain⟨_,hl,hc⟩:=World.cells?_some h
 have h0:=hc 0 hn
 rw[Ai (by omega)]at h0
 obtain⟨b,o,c,e,hb,_⟩:=Fz.cell h0
 obtain⟨ab,ao,sp⟩:=a
 rw[show Aj ⟨ab,ao,sp⟩ 0=⟨ab,ao,sp⟩from rfl]at e
 cases e
 refine⟨b,o,c,rfl,hb,?_⟩
 have O:∀i,i<n->c[o+i]?=cs[i]?:=λi hi=>by
  have h1:=hc i hi
  rw[Ai (by omega)]at h1 ⊢
  obtain⟨b2,o2,c2,e2,Z,h2⟩:=Fz.cell h1
  rw[zh]at e2
  cases e2
  rw[hb]at Z;cases Z
  exact h2
 unfold cut
 apply AZ
 intro i
 by_cases hi:i<n
 ·rw[AC,if_pos hi,AE,<-O i hi];simp
 ·rw[AC,if_neg hi,Bj (by omega)]
theorem z6m{α:Type}{Q:Nat->α->Prop}(n:Nat)(h:∀i,i<n->∃z,Q i z):∃xs:List α,xs.length=n/\∀i (hi:i<xs.length),Q i xs[i]:=by
 refine⟨List.ofFn λi:Fin n=>Classical.choose (h i i.2),by simp,λi hi=>?_⟩
 rw[List.getElem_ofFn]
 exact Classical.choose_spec (h i (by simpa using hi))
section
variable {H : Type} {enc : TypeId × Value -> H} {P : Program} {W : World} {sp : Nat -> Bool} {held : Bool}
def zg1(P:Program)(t:TypeId)(d:DataW H):Prop:=∀n∈d.weights P t,n<=reachBytes
theorem zg2{e:TypeId}{y:DataW H}:∀{l:List (DataW H)},y∈l->∀n∈y.weights P e,n∈DataW.weightsAll P e l
 |x::l,hy,n,hn=>by
  unfold DataW.weightsAll
  rcases Ad.1 hy with rfl|hy
  ·exact Ao _ hn
  ·exact AB _ (zg2 hy n hn)
theorem zxw{x : DataW H × List MemPlace}(ht : P.underlying t = some (.slice e))(hz : P.cellsOf e = sz T)(hp : 0 < sz T)(hby : 0 < P.bytesOf e)
    (hel : ∀ n, n < fuel -> ∀ cs y, DataW.trod enc P W 0 sp held n e cs = some y -> zg1 P e y.1 -> ∃ z : El T, Rd (Fz W) T z cs)
    (h : DataW.trod enc P W 0 sp held fuel t cs = some x) (hw : zg1 P t x.1) : ∃ xs : List (El T), Rd (Fz W) (.row T) xs cs := by
  rcases DataW.trod_slice ht h with ⟨rfl, _⟩ | ⟨a, len, cap, elems, rest, n, rfl, rfl, hx, _, hlc, hcap, hlen, hi, _, _⟩
  · exact ⟨[], _, rfl, none, 0, rfl, ⟨by simp, by simp⟩, .inl rfl⟩
  · have hwt : ∀ m, m = (elems.length + rest.length) * P.bytesOf e \/ m ∈ DataW.weightsAll P e (elems.map (·.1)) -> m <= reachBytes := λm hm => hw m (by
      rw [hx]
      unfold DataW.weights
      rw [ht]
      simp only [Ad, An, Bv]
      rcases hm with hm | hm
      · exact .inl hm
      · exact .inr (.inl hm))
    have hmax : len <= 140737488355328 := by
      have h1 := hwt _ (.inl rfl)
      have h2 : elems.length + rest.length <= (elems.length + rest.length) * P.bytesOf e := Do _ hby
      have h3 : reachBytes <= 140737488355328 := by decide
      omega
    have key : ∀ i, i < len -> ∃ z : El T, ∃ b o c, a.add (i * sz T) = ⟨b, o, none⟩ /\ Fz W b = some c /\ Rd (Fz W) T z (cut c o (sz T)) := λi hil => by
      have h1 := hi i hil
      rw [Ai (by omega), Option.bind_eq_some_iff] at h1
      obtain ⟨cc, h2, h3⟩ := h1
      rw [hz] at h2
      obtain ⟨b, o, c, e1, e2, e3⟩ := Fz.cells h2 hp
      obtain ⟨z, hz⟩ := hel n (by omega) _ _ h3 λm hm => hwt m (.inr (zg2 (BC.2 ⟨elems[i], Ay (by omega), rfl⟩) m hm))
      exact ⟨z, b, o, c, e1, e2, by rw [e3]; exact hz⟩
    obtain ⟨xs, hxl, hxs⟩ := z6m len key
    subst hxl
    refine ⟨xs, _, rfl, some a, cap, rfl, ⟨by omega, hlc⟩, ?_⟩
    by_cases h0 : xs.length = 0
    · exact .inl (Aw h0)
    · obtain ⟨b, o, c, e1, e2, _⟩ := hxs 0 (by omega)
      obtain ⟨ab, ao, asp⟩ := a
      rw [Dc, show Aj ⟨ab, ao, asp⟩ 0 = ⟨ab, ao, asp⟩ from rfl] at e1
      cases e1
      refine .inr ⟨b, o, c, rfl, e2, λi hil => ?_⟩
      obtain ⟨b', o', c', e1', e2', e3'⟩ := hxs i hil
      rw [zh] at e1'
      cases e1'
      rw [e2] at e2'; cases e2'
      simpa using e3'
theorem zxx{x:DataW H×List MemPlace}(ht:P.underlying t=some .string)(h:DataW.trod enc P W 0 sp held fuel t cs=some x):∃s:El .str,Rd (Fz W) .str s cs:=by
 obtain⟨s,rfl,_,_⟩:=DataW.trod_string ht h
 exact⟨s,rfl⟩
theorem qaj{k:IntKind}{x:DataW H×List MemPlace}(ht:P.underlying t=some (.int k))(h:DataW.trod enc P W 0 sp held fuel t cs=some x):∃s:El (.int k),Rd (Fz W) (.int k) s cs:=by
 obtain⟨s,rfl,_,_⟩:=DataW.trod_int ht h
 exact⟨s,rfl⟩
theorem zxy{x:DataW H×List MemPlace}(ht:P.underlying t=some (.slice e))(he:P.underlying e=some .string)(hc:P.cellsOf e=1)(O:0<P.bytesOf e)
  (h:DataW.trod enc P W 0 sp held fuel t cs=some x) (hw:zg1 P t x.1):∃xs:List ByteArray,Rd (Fz W) (.row .str) xs cs:=
 zxw (T:=.str) ht hc (by decide) O (λn _ cs y hy _=>zxx he hy) h hw
theorem four{a b c d:Value}(hl:cs.length=4)(h0:(cs.drop 0).take 1=[a])(h1:(cs.drop 1).take 1=[b])(h2:(cs.drop 2).take 1=[c])(h3:(cs.drop 3).take 1=[d]):cs=[a,b,c,d]:=by
 match cs,hl with
 |[w,x,y,z],_=>
  simp at h0 h1 h2 h3
  subst h0;subst h1;subst h2;subst h3;rfl
theorem z6n{tv ts tss tvs tk:TypeId}{f0 f1 f2 f3:Field}(hu:P.underlying tv=some (.struct #[f0,f1,f2,f3]))(hc:P.cellsOf tv=4)
  (t0:f0.type=tk/\f0.offset=0/\f1.type=ts/\f1.offset=1/\f2.type=tss/\f2.offset=2/\f3.type=tvs/\f3.offset=3)
  (uk:P.underlying tk=some (.int .i64)) (us:P.underlying ts=some .string) (ae:P.underlying tss=some (.slice ts)) (ai:P.underlying tvs=some (.slice tv))
  (ck:P.cellsOf tk=1) (cs':P.cellsOf ts=1) (aa:P.cellsOf tss=1) (af:P.cellsOf tvs=1) (bs:0<P.bytesOf ts) (bv:0<P.bytesOf tv):
  ∀(fuel:Nat) (cs:List Value) (x:DataW H×List MemPlace),DataW.trod enc P W 0 sp held fuel tv cs=some x->zg1 P tv x.1->∃t:Tr,Rd (Fz W) .tree t cs:=by
 intro fuel
 induction fuel using Nat.strongRecOn with
 |_ fuel ih=>
  intro cs x h hw
  obtain⟨xs,n,rfl,hx,hl,ah,O⟩:=DataW.trod_struct hu h
  have Z:∀(j:Nat) (f:Field) (hj:j<xs.length),(#[f0,f1,f2,f3]:Array Field)[j]?=some f->zg1 P f.type (xs[j]).1:=λj f hj hf m hm=>hw m (by
   rw[hx]
   unfold DataW.weights
   rw[hu]
   exact DataW.weights_mem_each (j:=j) (t:=f.type) (d:=(xs[j]).1) (by rw[Cc,AU,hf];rfl) (by rw[Cc,Ai hj];rfl) m hm)
  obtain⟨a0,o0,a1,o1,a2,o2,a3,o3⟩:=t0
  have g0:=O 0 f0 rfl
  have g1:=O 1 f1 rfl
  have g2:=O 2 f2 rfl
  have g3:=O 3 f3 rfl
  have aj:xs.length=4:=ah
  rw[a0,o0,ck,Ai (by omega)]at g0
  rw[a1,o1,cs',Ai (by omega)]at g1
  rw[a2,o2,aa,Ai (by omega)]at g2
  rw[a3,o3,af,Ai (by omega)]at g3
  obtain⟨k,e0⟩:=qaj uk g0
  obtain⟨s,e1⟩:=zxx us g1
  obtain⟨ks,e2⟩:=zxy ae us cs' bs g2 (by have:=Z 2 f2 (by omega) rfl;rw[a2]at this;exact this)
  obtain⟨is,e3⟩:=zxw (T:=.tree) ai hc (by decide) bv (λm hm cs y hy ac=>ih m (by omega) cs y hy ac) g3 (by have:=Z 3 f3 (by omega) rfl;rw[a3]at this;exact this)
  obtain⟨vk,q2,h2⟩:=e2
  obtain⟨vi,q3,h3⟩:=e3
  have:=four (hl.trans hc) e0 e1 q2 q3
  subst this
  exact⟨.mk k s ks is,TrRd.of ⟨vk,rfl,h2⟩ ⟨vi,rfl,h3⟩⟩
end
theorem zqj{f:FuncId}{W:World}{args:List Arg}{vs:Array Value}(H:PC P (Fz W) f args [.bool] (λr=>r=true))(ha:Wz (Fz W) args vs.toList):
  Calls P f vs W λe w'=>e=.returned (.bool true)/\Below W.heap.size W w':=by
 have H':=H W.heap (Fz W) vs.toList (Fr.le.refl _) (Fz.ag W) ha
 rw[Array.toArray_toList]at H'
 refine(H' W W.drawn).mono ?_
 rintro e w' ⟨v,d',h',rfl,rfl,k,M',r,_,_,_,hr,O⟩
 have O:r=true:=O
 subst O
 rw[zdd hr]
 exact⟨rfl,rfl,rfl,rfl,k.size,k.get⟩
theorem z6o{xs:List (El T)}(h:Rd M (.row T) xs [v]):RdV M (.row T) xs v:=by rw[zfn rfl];exact h
theorem z2a{t:Tr}{cs:Array Value}(h:Rd M .tree t cs.toList):RdV M .tree t (.agg cs):=by
 unfold RdV;simp only[zdn,if_true];exact⟨cs.toList,by simp,h⟩
theorem Fz.var{W:World}{n:String}{g:Nat}{cs:Array Value}(hg:P.globalNamed n=some g)(h:W.var? P n=some cs):Fz W g=some cs:=by
 unfold World.var? at h
 rw[hg]at h
 exact h
end
end Go.X
end
section
namespace Go.Proofs
section
theorem Tryz.mixed:AF.follows .mixedOrders=true:=by kernel_rfl
noncomputable abbrev Tp:= AF
end
end Go.Proofs
end
section
namespace Go.X
section
theorem PF{gl:Fr}{args:List Arg}{f:FuncId}{fn:Func}{rt:List Ty}{R:Els rt->Prop}{F:Prop}(pl:PlanA)(rs:List ResultVar)(n:Nat)(hf:AF.funcs[f]?=some fn)(H:F)(hb:Jo fn=true:=by kernel_rfl)(hr:fn.results.toList=rs:=by kernel_rfl)(hn:fn.ntmps=n:=by kernel_rfl)(hz:Nat.ble args.length n=true:=by kernel_rfl)(e:F=WA Tp gl 25 n pl (codeOf fn) [] (qch Tp rs rt R) (zqi 0 args) []:=by kernel_rfl):PC Tp gl f args rt R:=zu6 Tryz.mixed gl 25 pl args hf hb hr hn hz H e
theorem za9(gl:Fr)(l0:List Bt)(R:Bool->Prop)
  (H:∃(a:Int->Prop) (b:Int->Nat),a 0/\∀c:Int,a c->(((bif (decide (c<l0.length))then(decide (c<300))else false)=true->∃d,(0<=c/\l0[c.toNat]?=some d)/\(decide ((d.size:Int)>1024)=true->R false)/\(decide ((d.size:Int)>1024)=false->(a (Ab .i64 (c+1))/\b (Ab .i64 (c+1))<b c)))/\((bif (decide (c<l0.length))then(decide (c<300))else false)=false->R (decide ((l0.length:Int)<=200))))):
  PC Tp gl 19 [Arg.mk (.row .str) l0] [.bool] R:=
 PF ⟨[],[],[(2,⟨[(3,.one (.dat (.int .i64)))],[],[],[100192]⟩)],[]⟩ [.tmp 2] 23 Tryz.func19 H
theorem ze1(gl:Fr)(s0:Bt)(R:((List Bt)×Int)->Prop)
  (H:∀a:Bool->Prop,(∀b:Bool,((b=true->R ([],2))/\(b=false->PC Tp gl 151 [Arg.mk .str s0,Arg.mk .str (⟨#[47]⟩:Bt)] [.int .i64] (λc:Int=>(decide (c>64)=true->R ([],3))/\(decide (c>64)=false->((s0.toList==(⟨#[]⟩:Bt).toList)=true->R ([],0))/\((s0.toList==(⟨#[]⟩:Bt).toList)=false->(0<=(1:Int)/\(1:Int)<=(s0.size:Int)/\(s0.size:Int)<=(s0.size:Int))/\PC Tp gl 152 [Arg.mk .str (s0.extract (1:Int).toNat (s0.size:Int).toNat),Arg.mk .str (⟨#[47]⟩:Bt)] [.row .str] (λd:List Bt=>∃(e:(List Bt)->Int->Prop) (f:(List Bt)->Int->Nat),e [] 0/\∀g:List Bt,∀i:Int,e g i->((decide (i<d.length)=true->∃j,(0<=i/\d[i.toNat]?=some j)/\PC Tp gl 122 [Arg.mk .str j,Arg.mk .str (⟨#[126,49]⟩:Bt),Arg.mk .str (⟨#[47]⟩:Bt)] [.str] (λk:Bt=>PC Tp gl 122 [Arg.mk .str k,Arg.mk .str (⟨#[126,48]⟩:Bt),Arg.mk .str (⟨#[126]⟩:Bt)] [.str] (λl:Bt=>((g.length+CN ([l]:List Bt))*16<=140737488355328/\(e (g++[l]) (Ab .i64 (i+1))/\f (g++[l]) (Ab .i64 (i+1))<f g i)))))/\(decide (i<d.length)=false->R (g,0)))))))))->a b)->PC Tp gl 75 [Arg.mk .str s0] [.bool] (λm:Bool=>((!m)=true->a (!m))/\((!m)=false->((!(s0.toList==(⟨#[]⟩:Bt).toList))=true->(0<=(0:Int)/\(0:Int)<(s0.size:Int)))/\((bif (!(s0.toList==(⟨#[]⟩:Bt).toList))then((zf s0 (0:Int).toNat:Int) != 47)else false)=true->a (bif (!(s0.toList==(⟨#[]⟩:Bt).toList))then((zf s0 (0:Int).toNat:Int) != 47)else false))/\((bif (!(s0.toList==(⟨#[]⟩:Bt).toList))then((zf s0 (0:Int).toNat:Int) != 47)else false)=false->PC Tp gl 150 [Arg.mk .str s0] [.bool] (λn:Bool=>a (!n)))))):
  PC Tp gl 124 [Arg.mk .str s0] [.row .str,.int .i64] R:=
 PF ⟨[],[],[(11,⟨[(4,.one (.own 9 .str)),(32,.one (.dat (.int .i64)))],[],[],[100256,102048]⟩)],[(4,⟨[(7,.one (.dat .bool))],[],[],[100448]⟩)]⟩ [.tmp 2,.tmp 3] 44 Tryz.func124 H
theorem zco(gl:Fr)(a0:List Bt)(b1:List Bt)(R:Bool->Prop)
  (H:PC Tp gl 95 [Arg.mk (.row .str) a0,Arg.mk (.row .str) b1] [.int .i64] (λa:Int=>R (a==0))):
  PC Tp gl 55 [Arg.mk (.row .str) a0,Arg.mk (.row .str) b1] [.bool] R:=
 PF ⟨[],[],[],[]⟩ [.tmp 4] 9 Tryz.func55 H
theorem zdw(gl:Fr)(v0:Tr)(O:Int)(R:Bool->Prop)
  (H:PC Tp gl 30 [Arg.mk .tree (Tr.mk v0.kind v0.text v0.keys v0.items),Arg.mk (.int .i64) O,Arg.mk (.int .i64) 0] [.int .i64] (λa:Int=>∃b:Bool->Prop,(decide (a>=0)=true->PC Tp gl 31 [Arg.mk .tree (Tr.mk v0.kind v0.text v0.keys v0.items)] [.bool] b)/\∀c:Bool,(decide (a>=0)=true->b c)->R (bif (decide (a>=0))then c else false))):
  PC Tp gl 10 [Arg.mk .tree v0,Arg.mk (.int .i64) O] [.bool] R:=
 PF ⟨[],[],[],[]⟩ [.tmp 4] 15 Tryz.func10 H
theorem zg3(gl:Fr)(v0:Tr)(O:List Bt)(R:(Tr×Bool)->Prop)
  (H:PC Tp gl 42 [Arg.mk .tree (Tr.mk v0.kind v0.text v0.keys v0.items)] [.bool] (λa:Bool=>∃b:Bool->Prop,((!(!a))=true->PC Tp gl 37 [Arg.mk (.row .str) O] [.bool] b)/\∀c:Bool,((!(!a))=true->b c)->((bif (!a)then true else(!c))=true->R (Tr.mk 0 (⟨#[]⟩:Bt) [] [],false))/\((bif (!a)then true else(!c))=false->PC Tp gl 43 [Arg.mk .tree (Tr.mk v0.kind v0.text v0.keys v0.items),Arg.mk (.row .str) O] [.row (.int .i64),.tree,.bool] (λd:(List Int)×Tr×Bool=>((!d.2.2)=true->R (Tr.mk 0 (⟨#[]⟩:Bt) [] [],false))/\((!d.2.2)=false->PC Tp gl 32 [Arg.mk .tree (Tr.mk d.2.1.kind d.2.1.text d.2.1.keys d.2.1.items)] [.tree] (λe:Tr=>R (Tr.mk e.kind e.text e.keys e.items,true))))))):
  PC Tp gl 20 [Arg.mk .tree v0,Arg.mk (.row .str) O] [.tree,.bool] R:=
 PF ⟨[],[],[],[]⟩ [.cell 4 25,.tmp 5] 30 Tryz.func20 H
theorem zba(gl:Fr)(a0:Tr)(b1:Tr)(R:Bool->Prop)
  (H:((bif (bif (bif (a0.kind != b1.kind)then true else(!(a0.text.toList==b1.text.toList)))then true else((a0.keys.length:Int) != (b1.keys.length:Int)))then true else((a0.items.length:Int) != (b1.items.length:Int)))=true->R false)/\((bif (bif (bif (a0.kind != b1.kind)then true else(!(a0.text.toList==b1.text.toList)))then true else((a0.keys.length:Int) != (b1.keys.length:Int)))then true else((a0.items.length:Int) != (b1.items.length:Int)))=false->∃(a:Int->Prop) (b:Int->Nat),a 0/\∀c:Int,a c->((decide (c<a0.keys.length)=true->∃d,(0<=c/\a0.keys[c.toNat]?=some d)/\∃e,(0<=c/\b1.keys[c.toNat]?=some e)/\((!(d.toList==e.toList))=true->R false)/\((!(d.toList==e.toList))=false->(a (Ab .i64 (c+1))/\b (Ab .i64 (c+1))<b c)))/\(decide (c<a0.keys.length)=false->∃(f:Int->Prop) (g:Int->Nat),f 0/\∀i:Int,f i->((decide (i<a0.items.length)=true->∃j,(0<=i/\a0.items[i.toNat]?=some j)/\∃k,(0<=i/\b1.items[i.toNat]?=some k)/\PC Tp gl 15 [Arg.mk .tree (Tr.mk j.kind j.text j.keys j.items),Arg.mk .tree (Tr.mk k.kind k.text k.keys k.items)] [.bool] (λl:Bool=>((!l)=true->R false)/\((!l)=false->(f (Ab .i64 (i+1))/\g (Ab .i64 (i+1))<g i))))/\(decide (i<a0.items.length)=false->R true)))))):
  PC Tp gl 15 [Arg.mk .tree a0,Arg.mk .tree b1] [.bool] R:=
 PF ⟨[(11,10)],[],[(4,⟨[(5,.one (.dat (.int .i64)))],[],[2,3],[100320]⟩),(9,⟨[(6,.one (.dat (.int .i64)))],[],[2,3],[100384]⟩)],[]⟩ [.tmp 4] 76 Tryz.func15 H
theorem ze2(gl:Fr)(O:Bt)(R:(Int×Bool)->Prop)
  (H:(((!(bif (O.toList==(⟨#[]⟩:Bt).toList)then true else(decide ((O.size:Int)>9))))&&(!(O.toList==(⟨#[48]⟩:Bt).toList)))=true->(0<=(0:Int)/\(0:Int)<(O.size:Int)))/\∃a:Bool->Prop,((!(bif (bif (O.toList==(⟨#[]⟩:Bt).toList)then true else(decide ((O.size:Int)>9)))then true else(bif (!(O.toList==(⟨#[48]⟩:Bt).toList))then((zf O (0:Int).toNat:Int)==48)else false)))=true->PC Tp gl 172 [Arg.mk .str O,Arg.mk .str (⟨#[43,45,95]⟩:Bt)] [.bool] a)/\∀b:Bool,((!(bif (bif (O.toList==(⟨#[]⟩:Bt).toList)then true else(decide ((O.size:Int)>9)))then true else(bif (!(O.toList==(⟨#[48]⟩:Bt).toList))then((zf O (0:Int).toNat:Int)==48)else false)))=true->a b)->((bif (bif (bif (O.toList==(⟨#[]⟩:Bt).toList)then true else(decide ((O.size:Int)>9)))then true else(bif (!(O.toList==(⟨#[48]⟩:Bt).toList))then((zf O (0:Int).toNat:Int)==48)else false))then true else b)=true->R (0,false))/\((bif (bif (bif (O.toList==(⟨#[]⟩:Bt).toList)then true else(decide ((O.size:Int)>9)))then true else(bif (!(O.toList==(⟨#[48]⟩:Bt).toList))then((zf O (0:Int).toNat:Int)==48)else false))then true else b)=false->PC Tp gl 173 [Arg.mk .str O] [.int .i64,.err] (λc:Int×Bool=>((!c.2)=true->R (0,false))/\((!c.2)=false->R (c.1,true))))):
  PC Tp gl 145 [Arg.mk .str O] [.int .i64,.bool] R:=
 PF ⟨[],[],[],[]⟩ [.tmp 2,.tmp 3] 34 Tryz.func145 H
theorem W7(gl:Fr)(a0:List Bt)(b1:List Bt)(R:Int->Prop)
  (H:∃(a:Int->Prop) (b:Int->Nat),a 0/\∀c:Int,a c->(((bif (decide (c<a0.length))then(decide (c<b1.length))else false)=true->∃d,(0<=c/\a0[c.toNat]?=some d)/\∃e,(0<=c/\b1[c.toNat]?=some e)/\((CV d.toList e.toList)=true->R (-1))/\((CV d.toList e.toList)=false->∃f,(0<=c/\a0[c.toNat]?=some f)/\∃g,(0<=c/\b1[c.toNat]?=some g)/\((!(CV f.toList g.toList||(f.toList==g.toList)))=true->R 1)/\((!(CV f.toList g.toList||(f.toList==g.toList)))=false->(a (Ab .i64 (c+1))/\b (Ab .i64 (c+1))<b c))))/\((bif (decide (c<a0.length))then(decide (c<b1.length))else false)=false->(decide ((a0.length:Int)<(b1.length:Int))=true->R (-1))/\(decide ((a0.length:Int)<(b1.length:Int))=false->(decide ((a0.length:Int)>(b1.length:Int))=true->R 1)/\(decide ((a0.length:Int)>(b1.length:Int))=false->R 0))))):
  PC Tp gl 95 [Arg.mk (.row .str) a0,Arg.mk (.row .str) b1] [.int .i64] R:=
 PF ⟨[],[],[(2,⟨[(5,.one (.dat (.int .i64)))],[],[],[100320]⟩)],[]⟩ [.tmp 4] 46 Tryz.func95 H
theorem zdx(gl:Fr)(O:List Bt)(l1:List Tr)(R:Tr->Prop)
  (H:R (Tr.mk 6 (⟨#[]⟩:Bt) O l1)):
  PC Tp gl 28 [Arg.mk (.row .str) O,Arg.mk (.row .tree) l1] [.tree] R:=
 PF ⟨[],[],[],[]⟩ [.cell 4 25] 8 Tryz.func28 H
theorem zdy(gl:Fr)(l0:List Tr)(R:Tr->Prop)
  (H:R (Tr.mk 5 (⟨#[]⟩:Bt) [] l0)):
  PC Tp gl 29 [Arg.mk (.row .tree) l0] [.tree] R:=
 PF ⟨[],[],[],[]⟩ [.cell 2 25] 5 Tryz.func29 H
theorem zol(gl:Fr)(n0:Int)(R:Tr->Prop)
  (H:PC Tp gl 57 [Arg.mk (.int .i64) n0] [.pair .bool (.pair .str (.int .i64))] (λa:Bool×Bt×Int=>PC Tp gl 56 [Arg.mk (.pair .bool (.pair .str (.int .i64))) (a.1,(a.2.1,a.2.2))] [.str] (λb:Bt=>R (Tr.mk 3 b [] [])))):
  PC Tp gl 27 [Arg.mk (.int .i64) n0] [.tree] R:=
 PF ⟨[],[],[],[]⟩ [.cell 2 25] 7 Tryz.func27 H
theorem ze3(gl:Fr)(s0:Bt)(R:Bool->Prop)
  (H:PC Tp gl 113 [Arg.mk .str s0] [.int .i64,.bool] (λa:Int×Bool=>R a.2)):
  PC Tp gl 75 [Arg.mk .str s0] [.bool] R:=
 PF ⟨[],[],[],[]⟩ [.tmp 2] 11 Tryz.func75 H
theorem ze4(gl:Fr)(s0:Bt)(R:Bool->Prop)
  (H:∃(a:Bt->Prop) (b:Bt->Nat),a s0/\∀c:Bt,a c->(PC Tp gl 182 [Arg.mk .str c,Arg.mk .str (⟨#[126]⟩:Bt)] [.str,.str,.bool] (λd:Bt×Bt×Bool=>((!d.2.2)=true->R true)/\((!d.2.2)=false->((!(d.2.1.toList==(⟨#[]⟩:Bt).toList))=true->(0<=(0:Int)/\(0:Int)<(d.2.1.size:Int)))/\(((!(d.2.1.toList==(⟨#[]⟩:Bt).toList))&&((zf d.2.1 (0:Int).toNat:Int) != 48))=true->(0<=(0:Int)/\(0:Int)<(d.2.1.size:Int)))/\((bif (d.2.1.toList==(⟨#[]⟩:Bt).toList)then true else(bif ((zf d.2.1 (0:Int).toNat:Int) != 48)then((zf d.2.1 (0:Int).toNat:Int) != 49)else false))=true->R false)/\((bif (d.2.1.toList==(⟨#[]⟩:Bt).toList)then true else(bif ((zf d.2.1 (0:Int).toNat:Int) != 48)then((zf d.2.1 (0:Int).toNat:Int) != 49)else false))=false->(a d.2.1/\b d.2.1<b c)))))):
  PC Tp gl 150 [Arg.mk .str s0] [.bool] R:=
 PF ⟨[],[],[(1,⟨[(0,.one (.dat .str))],[],[],[100000]⟩)],[]⟩ [.tmp 2] 27 Tryz.func150 H
theorem zdz(gl:Fr)(v0:Tr)(Z:Int)(O:Int)(R:Int->Prop)
  (H:(decide (O>60)=true->R (-1))/\(decide (O>60)=false->∃(a:Int->Int->Prop) (b:Int->Int->Nat),a (Ab .i64 ((Ab .i64 (Z-1))-(v0.keys.length:Int))) 0/\∀c d:Int,a c d->(((bif (decide (d<v0.items.length))then(decide (c>=0))else false)=true->∃e,(0<=d/\v0.items[d.toNat]?=some e)/\PC Tp gl 30 [Arg.mk .tree (Tr.mk e.kind e.text e.keys e.items),Arg.mk (.int .i64) c,Arg.mk (.int .i64) (Ab .i64 (O+1))] [.int .i64] (λf:Int=>(a f (Ab .i64 (d+1))/\b f (Ab .i64 (d+1))<b c d)))/\((bif (decide (d<v0.items.length))then(decide (c>=0))else false)=false->R c)))):
  PC Tp gl 30 [Arg.mk .tree v0,Arg.mk (.int .i64) Z,Arg.mk (.int .i64) O] [.int .i64] R:=
 PF ⟨[],[],[(5,⟨[(1,.one (.dat (.int .i64))),(7,.one (.dat (.int .i64)))],[],[3],[100064,100448]⟩)],[]⟩ [.tmp 6] 37 Tryz.func30 H
theorem zbb(gl:Fr)(v0:Tr)(R:Bool->Prop)
  (H:(decide ((v0.text.size:Int)>2048)=true->R false)/\(decide ((v0.text.size:Int)>2048)=false->∃(a:Int->Prop) (b:Int->Nat),a 0/\∀c:Int,a c->((decide (c<v0.keys.length)=true->∃d,(0<=c/\v0.keys[c.toNat]?=some d)/\(decide ((d.size:Int)>1024)=true->R false)/\(decide ((d.size:Int)>1024)=false->(a (Ab .i64 (c+1))/\b (Ab .i64 (c+1))<b c)))/\(decide (c<v0.keys.length)=false->∃(e:Int->Prop) (f:Int->Nat),e 0/\∀g:Int,e g->((decide (g<v0.items.length)=true->∃i,(0<=g/\v0.items[g.toNat]?=some i)/\PC Tp gl 31 [Arg.mk .tree (Tr.mk i.kind i.text i.keys i.items)] [.bool] (λj:Bool=>((!j)=true->R false)/\((!j)=false->(e (Ab .i64 (g+1))/\f (Ab .i64 (g+1))<f g))))/\(decide (g<v0.items.length)=false->R true)))))):
  PC Tp gl 31 [Arg.mk .tree v0] [.bool] R:=
 PF ⟨[],[],[(4,⟨[(3,.one (.dat (.int .i64)))],[],[1],[100192]⟩),(9,⟨[(4,.one (.dat (.int .i64)))],[],[1],[100256]⟩)],[]⟩ [.tmp 2] 39 Tryz.func31 H
theorem ziq(gl:Fr)(n0:Bool×Bt×Int)(R:Bt->Prop)
  (H:PC Tp gl 96 [Arg.mk (.pair .bool (.pair .str (.int .i64))) (n0.1,(n0.2.1,n0.2.2))] [.bool] (λa:Bool=>((!a)=true->R (⟨#[]⟩:Bt))/\((!a)=false->((n0.2.1.toList==(⟨#[]⟩:Bt).toList)=true->R (⟨#[48]⟩:Bt))/\((n0.2.1.toList==(⟨#[]⟩:Bt).toList)=false->∀b:Bt->Prop,(∀c:Bt,(((n0.2.2 != 0)=true->PC Tp gl 97 [Arg.mk (.int .i64) n0.2.2] [.str] (λd:Bt=>Wp (((⟨#[101]⟩:Bt)).size+d.size)/\Wp (c.size+((⟨#[101]⟩:Bt)++d).size)/\R (c++((⟨#[101]⟩:Bt)++d))))/\((n0.2.2 != 0)=false->R c))->b c)->(n0.1=true->Wp (((⟨#[45]⟩:Bt)).size+n0.2.1.size)/\b ((⟨#[45]⟩:Bt)++n0.2.1))/\(n0.1=false->b n0.2.1))))):
  PC Tp gl 56 [Arg.mk (.pair .bool (.pair .str (.int .i64))) n0] [.str] R:=
 PF ⟨[],[],[],[(8,⟨[(3,.one (.dat .str))],[],[1],[100192]⟩)]⟩ [.tmp 2] 26 Tryz.func56 H
theorem zom(gl:Fr)(n0:Int)(R:(Bool×Bt×Int)->Prop)
  (H:PC Tp gl 97 [Arg.mk (.int .i64) n0] [.str] (λa:Bt=>PC Tp gl 98 [Arg.mk .str a] [.pair .bool (.pair .str (.int .i64)),.int .i64] (λb:(Bool×Bt×Int)×Int=>R (b.1.1,(b.1.2.1,b.1.2.2))))):
  PC Tp gl 57 [Arg.mk (.int .i64) n0] [.pair .bool (.pair .str (.int .i64))] R:=
 PF ⟨[],[],[],[]⟩ [.cell 2 78] 12 Tryz.func57 H
theorem zir(gl:Fr)(s0:Bt)(R:(Int×Bool)->Prop)
  (H:PC Tp gl 141 [Arg.mk .str s0] [.bool] (λa:Bool=>(a=true->R ((s0.size:Int),true))/\(a=false->∃(b:(Bt×Nat)->Prop) (c:(Bt×Nat)->Nat),b (s0,0)/\∀O:Bt×Nat,b O->(((nxB O.1 O.2)=true->(nxB O.1 O.2)=true/\(nxB O.1 O.2)=true/\(((nxR O.1 O.2:Int) != 65533)=true->(b (O.1,nxP O.1 O.2)/\c (O.1,nxP O.1 O.2)<c O))/\(((nxR O.1 O.2:Int) != 65533)=false->(0<=(O.2:Int)/\(O.2:Int)<=(s0.size:Int)/\(s0.size:Int)<=(s0.size:Int))/\PC Tp gl 142 [Arg.mk .str (s0.extract (O.2:Int).toNat (s0.size:Int).toNat)] [.int .i32,.int .i64] (λd:Int×Int=>((d.2==1)=true->R ((O.2:Int),false))/\((d.2==1)=false->(b (O.1,nxP O.1 O.2)/\c (O.1,nxP O.1 O.2)<c O)))))/\((nxB O.1 O.2)=false->R ((s0.size:Int),true)))))):
  PC Tp gl 113 [Arg.mk .str s0] [.int .i64,.bool] R:=
 PF ⟨[],[],[(4,⟨[],[(13,[.dat .iter])],[],[1000832]⟩)],[]⟩ [.tmp 2,.tmp 3] 32 Tryz.func113 H
theorem zis(gl:Fr)(v0:Tr)(R:Bool->Prop)
  (H:PC Tp gl 78 [Arg.mk .tree (Tr.mk v0.kind v0.text v0.keys v0.items)] [.int .i64] (λa:Int=>∃b:Int->Prop,(decide (a<=4096)=true->PC Tp gl 79 [Arg.mk .tree (Tr.mk v0.kind v0.text v0.keys v0.items)] [.int .i64] b)/\∀c:Int,(decide (a<=4096)=true->b c)->R (bif (decide (a<=4096))then(decide (c<=32))else false))):
  PC Tp gl 44 [Arg.mk .tree v0] [.bool] R:=
 PF ⟨[],[],[],[]⟩ [.tmp 2] 11 Tryz.func44 H
theorem zlp(gl:Fr)(v0:Tr)(R:Bool->Prop)
  (H:((v0.kind==5)=true->R (bif (!(decide ((v0.keys.length:Int)>0)))then(v0.text.toList==(⟨#[]⟩:Bt).toList)else false))/\((v0.kind==5)=false->((v0.kind==6)=true->PC Tp gl 82 [Arg.mk (.row .str) v0.keys,Arg.mk (.int .i64) (v0.items.length:Int)] [.bool] (λa:Bool=>R (bif a then(v0.text.toList==(⟨#[]⟩:Bt).toList)else false)))/\((v0.kind==6)=false->((bif (decide ((v0.keys.length:Int)>0))then true else(decide ((v0.items.length:Int)>0)))=true->R false)/\((bif (decide ((v0.keys.length:Int)>0))then true else(decide ((v0.items.length:Int)>0)))=false->((v0.kind==1)=true->R (v0.text.toList==(⟨#[]⟩:Bt).toList))/\((v0.kind==1)=false->((v0.kind==2)=true->R (bif (v0.text.toList==(⟨#[116,114,117,101]⟩:Bt).toList)then true else(v0.text.toList==(⟨#[102,97,108,115,101]⟩:Bt).toList)))/\((v0.kind==2)=false->((v0.kind==3)=true->PC Tp gl 83 [Arg.mk .str v0.text] [.pair .bool (.pair .str (.int .i64)),.bool] (λb:(Bool×Bt×Int)×Bool=>R b.2))/\((v0.kind==3)=false->((v0.kind==4)=true->PC Tp gl 84 [Arg.mk .str v0.text] [.bool] (λc:Bool=>R c))/\((v0.kind==4)=false->((v0.kind==7)=true->PC Tp gl 85 [Arg.mk .str v0.text] [.bool] (λd:Bool=>R d))/\((v0.kind==7)=false->R false))))))))):
  PC Tp gl 47 [Arg.mk .tree v0] [.bool] R:=
 PF ⟨[],[],[],[]⟩ [.tmp 2] 79 Tryz.func47 H
theorem zg4(gl:Fr)(n0:Bool×Bt×Int)(R:Bool->Prop)
  (H:(((n0.1==false)&&((n0.2.1.toList==(⟨#[]⟩:Bt).toList)&&((n0.2.2==0)&&true)))=true->R true)/\(((n0.1==false)&&((n0.2.1.toList==(⟨#[]⟩:Bt).toList)&&((n0.2.2==0)&&true)))=false->PC Tp gl 128 [Arg.mk .str n0.2.1] [.bool] (λa:Bool=>((!a)=true->((!a)=true->R false)/\((!a)=false->R (bif (decide (n0.2.2>=(-1000000)))then(decide (n0.2.2<=1000000))else false)))/\((!a)=false->(decide ((n0.2.1.size:Int)>1000)=true->(decide ((n0.2.1.size:Int)>1000)=true->R false)/\(decide ((n0.2.1.size:Int)>1000)=false->R (bif (decide (n0.2.2>=(-1000000)))then(decide (n0.2.2<=1000000))else false)))/\(decide ((n0.2.1.size:Int)>1000)=false->(0<=(0:Int)/\(0:Int)<(n0.2.1.size:Int))/\(((zf n0.2.1 (0:Int).toNat:Int)==48)=true->(((zf n0.2.1 (0:Int).toNat:Int)==48)=true->R false)/\(((zf n0.2.1 (0:Int).toNat:Int)==48)=false->R (bif (decide (n0.2.2>=(-1000000)))then(decide (n0.2.2<=1000000))else false)))/\(((zf n0.2.1 (0:Int).toNat:Int)==48)=false->(0<=(Ab .i64 ((n0.2.1.size:Int)-1))/\(Ab .i64 ((n0.2.1.size:Int)-1))<(n0.2.1.size:Int))/\(((zf n0.2.1 (Ab .i64 ((n0.2.1.size:Int)-1)).toNat:Int)==48)=true->R false)/\(((zf n0.2.1 (Ab .i64 ((n0.2.1.size:Int)-1)).toNat:Int)==48)=false->R (bif (decide (n0.2.2>=(-1000000)))then(decide (n0.2.2<=1000000))else false)))))))):
  PC Tp gl 96 [Arg.mk (.pair .bool (.pair .str (.int .i64))) n0] [.bool] R:=
 PF ⟨[],[],[],[]⟩ [.tmp 2] 34 Tryz.func96 H
theorem zg5(gl:Fr)(s0:Bt)(R:((Bool×Bt×Int)×Int)->Prop)
  (H:PC Tp gl 130 [Arg.mk .str s0] [.pair .bool (.pair .bool (.pair .str (.pair .str .str))),.bool] (λa:(Bool×Bool×Bt×Bt×Bt)×Bool=>PC Tp gl 131 [Arg.mk .str a.1.2.2.2.2,Arg.mk .str (⟨#[48]⟩:Bt)] [.str] (λb:Bt=>((!a.2)=true->R ((false,((⟨#[]⟩:Bt),0)),2))/\((!a.2)=false->((decide ((Ab .i64 ((a.1.2.2.1.size:Int)+(a.1.2.2.2.1.size:Int)))>1000))=true->R ((false,((⟨#[]⟩:Bt),0)),3))/\((decide ((Ab .i64 ((a.1.2.2.1.size:Int)+(a.1.2.2.2.1.size:Int)))>1000))=false->(decide ((b.size:Int)>9)=true->R ((false,((⟨#[]⟩:Bt),0)),4))/\(decide ((b.size:Int)>9)=false->∃(c:Int->Bool->Bt->Int->(Bt×Nat)->Prop) (d:Int->Bool->Bt->Int->(Bt×Nat)->Nat),c 0 false (⟨#[]⟩:Bt) 0 (b,0)/\∀e:Int,∀Z:Bool,∀ac:Bt,∀aa:Int,∀O:Bt×Nat,c e Z ac aa O->(((nxB O.1 O.2)=true->(nxB O.1 O.2)=true/\(c (Ab .i64 ((Ab .i64 (10*e))+(Ab .i64 (Ab .i32 ((nxR O.1 O.2)-48))))) Z ac aa (O.1,nxP O.1 O.2)/\d (Ab .i64 ((Ab .i64 (10*e))+(Ab .i64 (Ab .i32 ((nxR O.1 O.2)-48))))) Z ac aa (O.1,nxP O.1 O.2)<d e Z ac aa O))/\((nxB O.1 O.2)=false->∀f:Int->Bool->Bt->Int->Prop,(∀g:Int,∀ae:Bool,∀ah:Bt,∀af:Int,(Wp (a.1.2.2.1.size+a.1.2.2.2.1.size)/\PC Tp gl 131 [Arg.mk .str (a.1.2.2.1++a.1.2.2.2.1),Arg.mk .str (⟨#[48]⟩:Bt)] [.str] (λi:Bt=>((i.toList==(⟨#[]⟩:Bt).toList)=true->R ((false,((⟨#[]⟩:Bt),0)),0))/\((i.toList==(⟨#[]⟩:Bt).toList)=false->PC Tp gl 132 [Arg.mk .str i,Arg.mk .str (⟨#[48]⟩:Bt)] [.str] (λj:Bt=>PC Tp gl 96 [Arg.mk (.pair .bool (.pair .str (.int .i64))) (a.1.1,(j,Ab .i64 ((Ab .i64 ((Ab .i64 (g-(a.1.2.2.2.1.size:Int)))+(i.size:Int)))-(j.size:Int))))] [.bool] (λk:Bool=>((!k)=true->R ((false,((⟨#[]⟩:Bt),0)),4))/\((!k)=false->R ((a.1.1,(j,Ab .i64 ((Ab .i64 ((Ab .i64 (g-(a.1.2.2.2.1.size:Int)))+(i.size:Int)))-(j.size:Int)))),0)))))))->f g ae ah af)->(a.1.2.1=true->f (Ab .i64 (0-e)) Z ac aa)/\(a.1.2.1=false->f e Z ac aa))))))))):
  PC Tp gl 98 [Arg.mk .str s0] [.pair .bool (.pair .str (.int .i64)),.int .i64] R:=
 PF ⟨[],[],[(11,⟨[(7,.one (.dat (.int .i64)))],[(2,[.dat .bool,.dat .str,.dat (.int .i64)]),(41,[.dat .iter])],[4],[100448,1000128,1000129,1000130,1002624]⟩)],[(16,⟨[(7,.one (.dat (.int .i64)))],[(2,[.dat .bool,.dat .str,.dat (.int .i64)])],[4],[100448,1000128,1000129,1000130]⟩)]⟩ [.cell 2 78,.tmp 3] 86 Tryz.func98 H
theorem Qt(gl:Fr)(s0:Bt)(R:Bool->Prop)
  (H:∃(a:Bt->Prop) (b:Bt->Nat),a s0/\∀c:Bt,a c->((decide ((c.size:Int)>0)=true->(0<=(0:Int)/\(0:Int)<(c.size:Int))/\(decide ((zf c (0:Int).toNat:Int)<128)=true->(0<=(1:Int)/\(1:Int)<=(c.size:Int)/\(c.size:Int)<=(c.size:Int))/\∃d:Int->Prop,((decide ((((c.extract (1:Int).toNat (c.size:Int).toNat).size:Int):Int)>8))=true->PC Tp gl 170 [Arg.mk .str (c.extract (1:Int).toNat (c.size:Int).toNat)] [.int .u64] d)/\∀e:Int,((decide ((((c.extract (1:Int).toNat (c.size:Int).toNat).size:Int):Int)>8))=true->d e)->((bif (decide ((((c.extract (1:Int).toNat (c.size:Int).toNat).size:Int):Int)>8))then((Ab .u64 (((As (Ap .u64) e) &&& (As (Ap .u64) 9259542123273814144)).toNat:Int):Int)==0)else false)=true->(0<=(8:Int)/\(8:Int)<=((c.extract (1:Int).toNat (c.size:Int).toNat).size:Int)/\(((c.extract (1:Int).toNat (c.size:Int).toNat).size:Int):Int)<=((c.extract (1:Int).toNat (c.size:Int).toNat).size:Int))/\((decide (((((c.extract (1:Int).toNat (c.size:Int).toNat).extract (8:Int).toNat (((c.extract (1:Int).toNat (c.size:Int).toNat).size:Int):Int).toNat).size:Int):Int)>16))=true->(0<=(8:Int)/\(8:Int)<=(((c.extract (1:Int).toNat (c.size:Int).toNat).extract (8:Int).toNat (((c.extract (1:Int).toNat (c.size:Int).toNat).size:Int):Int).toNat).size:Int)/\((((c.extract (1:Int).toNat (c.size:Int).toNat).extract (8:Int).toNat (((c.extract (1:Int).toNat (c.size:Int).toNat).size:Int):Int).toNat).size:Int):Int)<=(((c.extract (1:Int).toNat (c.size:Int).toNat).extract (8:Int).toNat (((c.extract (1:Int).toNat (c.size:Int).toNat).size:Int):Int).toNat).size:Int)))/\∃f:Int->Prop,((decide (((((c.extract (1:Int).toNat (c.size:Int).toNat).extract (8:Int).toNat (((c.extract (1:Int).toNat (c.size:Int).toNat).size:Int):Int).toNat).size:Int):Int)>16))=true->PC Tp gl 170 [Arg.mk .str ((c.extract (1:Int).toNat (c.size:Int).toNat).extract (8:Int).toNat (((c.extract (1:Int).toNat (c.size:Int).toNat).size:Int):Int).toNat)] [.int .u64] f)/\∀g:Int,((decide (((((c.extract (1:Int).toNat (c.size:Int).toNat).extract (8:Int).toNat (((c.extract (1:Int).toNat (c.size:Int).toNat).size:Int):Int).toNat).size:Int):Int)>16))=true->f g)->∃i:Int->Prop,((decide (((((c.extract (1:Int).toNat (c.size:Int).toNat).extract (8:Int).toNat (((c.extract (1:Int).toNat (c.size:Int).toNat).size:Int):Int).toNat).size:Int):Int)>16))=true->PC Tp gl 170 [Arg.mk .str (((c.extract (1:Int).toNat (c.size:Int).toNat).extract (8:Int).toNat (((c.extract (1:Int).toNat (c.size:Int).toNat).size:Int):Int).toNat).extract (8:Int).toNat ((((c.extract (1:Int).toNat (c.size:Int).toNat).extract (8:Int).toNat (((c.extract (1:Int).toNat (c.size:Int).toNat).size:Int):Int).toNat).size:Int):Int).toNat)] [.int .u64] i)/\∀j:Int,((decide (((((c.extract (1:Int).toNat (c.size:Int).toNat).extract (8:Int).toNat (((c.extract (1:Int).toNat (c.size:Int).toNat).size:Int):Int).toNat).size:Int):Int)>16))=true->i j)->((bif (decide (((((c.extract (1:Int).toNat (c.size:Int).toNat).extract (8:Int).toNat (((c.extract (1:Int).toNat (c.size:Int).toNat).size:Int):Int).toNat).size:Int):Int)>16))then((Ab .u64 (((As (Ap .u64) (Ab .u64 (((As (Ap .u64) g) ||| (As (Ap .u64) j)).toNat:Int))) &&& (As (Ap .u64) 9259542123273814144)).toNat:Int):Int)==0)else false)=true->(0<=(16:Int)/\(16:Int)<=(((c.extract (1:Int).toNat (c.size:Int).toNat).extract (8:Int).toNat (((c.extract (1:Int).toNat (c.size:Int).toNat).size:Int):Int).toNat).size:Int)/\((((c.extract (1:Int).toNat (c.size:Int).toNat).extract (8:Int).toNat (((c.extract (1:Int).toNat (c.size:Int).toNat).size:Int):Int).toNat).size:Int):Int)<=(((c.extract (1:Int).toNat (c.size:Int).toNat).extract (8:Int).toNat (((c.extract (1:Int).toNat (c.size:Int).toNat).size:Int):Int).toNat).size:Int))/\∃(k:Bt->Prop) (l:Bt->Nat),k (((c.extract (1:Int).toNat (c.size:Int).toNat).extract (8:Int).toNat (((c.extract (1:Int).toNat (c.size:Int).toNat).size:Int):Int).toNat).extract (16:Int).toNat ((((c.extract (1:Int).toNat (c.size:Int).toNat).extract (8:Int).toNat (((c.extract (1:Int).toNat (c.size:Int).toNat).size:Int):Int).toNat).size:Int):Int).toNat)/\∀m:Bt,k m->((decide ((m.size:Int)>32)=true->(0<=(8:Int)/\(8:Int)<=(m.size:Int)/\(m.size:Int)<=(m.size:Int)))/\(decide ((m.size:Int)>32)=true->(0<=(16:Int)/\(16:Int)<=(m.size:Int)/\(m.size:Int)<=(m.size:Int)))/\(decide ((m.size:Int)>32)=true->(0<=(24:Int)/\(24:Int)<=(m.size:Int)/\(m.size:Int)<=(m.size:Int)))/\∃n:Int->Prop,(decide ((m.size:Int)>32)=true->PC Tp gl 170 [Arg.mk .str m] [.int .u64] n)/\∀o:Int,(decide ((m.size:Int)>32)=true->n o)->∃p:Int->Prop,(decide ((m.size:Int)>32)=true->PC Tp gl 170 [Arg.mk .str (m.extract (8:Int).toNat (m.size:Int).toNat)] [.int .u64] p)/\∀q:Int,(decide ((m.size:Int)>32)=true->p q)->∃r:Int->Prop,(decide ((m.size:Int)>32)=true->PC Tp gl 170 [Arg.mk .str (m.extract (16:Int).toNat (m.size:Int).toNat)] [.int .u64] r)/\∀s:Int,(decide ((m.size:Int)>32)=true->r s)->∃t:Int->Prop,(decide ((m.size:Int)>32)=true->PC Tp gl 170 [Arg.mk .str (m.extract (24:Int).toNat (m.size:Int).toNat)] [.int .u64] t)/\∀u:Int,(decide ((m.size:Int)>32)=true->t u)->((bif (decide ((m.size:Int)>32))then((Ab .u64 (((As (Ap .u64) (Ab .u64 (((As (Ap .u64) (Ab .u64 (((As (Ap .u64) o) ||| (As (Ap .u64) q)).toNat:Int))) ||| (As (Ap .u64) (Ab .u64 (((As (Ap .u64) s) ||| (As (Ap .u64) u)).toNat:Int)))).toNat:Int))) &&& (As (Ap .u64) 9259542123273814144)).toNat:Int):Int)==0)else false)=true->(0<=(32:Int)/\(32:Int)<=(m.size:Int)/\(m.size:Int)<=(m.size:Int))/\(k (m.extract (32:Int).toNat (m.size:Int).toNat)/\l (m.extract (32:Int).toNat (m.size:Int).toNat)<l m))/\((bif (decide ((m.size:Int)>32))then((Ab .u64 (((As (Ap .u64) (Ab .u64 (((As (Ap .u64) (Ab .u64 (((As (Ap .u64) o) ||| (As (Ap .u64) q)).toNat:Int))) ||| (As (Ap .u64) (Ab .u64 (((As (Ap .u64) s) ||| (As (Ap .u64) u)).toNat:Int)))).toNat:Int))) &&& (As (Ap .u64) 9259542123273814144)).toNat:Int):Int)==0)else false)=false->(a m/\b m<b c))))/\((bif (decide (((((c.extract (1:Int).toNat (c.size:Int).toNat).extract (8:Int).toNat (((c.extract (1:Int).toNat (c.size:Int).toNat).size:Int):Int).toNat).size:Int):Int)>16))then((Ab .u64 (((As (Ap .u64) (Ab .u64 (((As (Ap .u64) g) ||| (As (Ap .u64) j)).toNat:Int))) &&& (As (Ap .u64) 9259542123273814144)).toNat:Int):Int)==0)else false)=false->(a ((c.extract (1:Int).toNat (c.size:Int).toNat).extract (8:Int).toNat (((c.extract (1:Int).toNat (c.size:Int).toNat).size:Int):Int).toNat)/\b ((c.extract (1:Int).toNat (c.size:Int).toNat).extract (8:Int).toNat (((c.extract (1:Int).toNat (c.size:Int).toNat).size:Int):Int).toNat)<b c)))/\((bif (decide ((((c.extract (1:Int).toNat (c.size:Int).toNat).size:Int):Int)>8))then((Ab .u64 (((As (Ap .u64) e) &&& (As (Ap .u64) 9259542123273814144)).toNat:Int):Int)==0)else false)=false->(a (c.extract (1:Int).toNat (c.size:Int).toNat)/\b (c.extract (1:Int).toNat (c.size:Int).toNat)<b c)))/\(decide ((zf c (0:Int).toNat:Int)<128)=false->(0<=(zf c (0:Int).toNat:Int)/\(zf c (0:Int).toNat:Int)<((256:Nat):Int))/\∃v,zgm gl 0 (0+(zf c (0:Int).toNat:Int).toNat*1) (.int .u8 v)/\(0<=(v.fdiv (2 ^ 4):Int)/\(v.fdiv (2 ^ 4):Int)<((16:Nat):Int))/\∃w,zgm gl 1 (0+(v.fdiv (2 ^ 4):Int).toNat*2) (.int .u8 w)/\∃x,zgm gl 1 (0+(v.fdiv (2 ^ 4):Int).toNat*2+1) (.int .u8 x)/\(((Ab .i64 (Ab .u8 (((As (Ap .u8) v) &&& (As (Ap .u8) 7)).toNat:Int)):Int)==2)=true->((!(decide ((c.size:Int)<2)))=true->(0<=(1:Int)/\(1:Int)<(c.size:Int)))/\((!(bif (decide ((c.size:Int)<2))then true else(decide ((zf c (1:Int).toNat:Int)<w))))=true->(0<=(1:Int)/\(1:Int)<(c.size:Int)))/\((bif (bif (decide ((c.size:Int)<2))then true else(decide ((zf c (1:Int).toNat:Int)<w)))then true else(decide (x<(zf c (1:Int).toNat))))=true->R false)/\((bif (bif (decide ((c.size:Int)<2))then true else(decide ((zf c (1:Int).toNat:Int)<w)))then true else(decide (x<(zf c (1:Int).toNat))))=false->(0<=(2:Int)/\(2:Int)<=(c.size:Int)/\(c.size:Int)<=(c.size:Int))/\(a (c.extract (2:Int).toNat (c.size:Int).toNat)/\b (c.extract (2:Int).toNat (c.size:Int).toNat)<b c)))/\(((Ab .i64 (Ab .u8 (((As (Ap .u8) v) &&& (As (Ap .u8) 7)).toNat:Int)):Int)==2)=false->(((Ab .i64 (Ab .u8 (((As (Ap .u8) v) &&& (As (Ap .u8) 7)).toNat:Int)):Int)==3)=true->((!(decide ((c.size:Int)<3)))=true->(0<=(1:Int)/\(1:Int)<(c.size:Int)))/\((!(bif (decide ((c.size:Int)<3))then true else(decide ((zf c (1:Int).toNat:Int)<w))))=true->(0<=(1:Int)/\(1:Int)<(c.size:Int)))/\((!(bif (bif (decide ((c.size:Int)<3))then true else(decide ((zf c (1:Int).toNat:Int)<w)))then true else(decide (x<(zf c (1:Int).toNat)))))=true->(0<=(2:Int)/\(2:Int)<(c.size:Int)))/\((!(bif (bif (bif (decide ((c.size:Int)<3))then true else(decide ((zf c (1:Int).toNat:Int)<w)))then true else(decide (x<(zf c (1:Int).toNat))))then true else(decide ((zf c (2:Int).toNat:Int)<128))))=true->(0<=(2:Int)/\(2:Int)<(c.size:Int)))/\((bif (bif (bif (bif (decide ((c.size:Int)<3))then true else(decide ((zf c (1:Int).toNat:Int)<w)))then true else(decide (x<(zf c (1:Int).toNat))))then true else(decide ((zf c (2:Int).toNat:Int)<128)))then true else(decide ((191:Int)<(zf c (2:Int).toNat))))=true->R false)/\((bif (bif (bif (bif (decide ((c.size:Int)<3))then true else(decide ((zf c (1:Int).toNat:Int)<w)))then true else(decide (x<(zf c (1:Int).toNat))))then true else(decide ((zf c (2:Int).toNat:Int)<128)))then true else(decide ((191:Int)<(zf c (2:Int).toNat))))=false->(0<=(3:Int)/\(3:Int)<=(c.size:Int)/\(c.size:Int)<=(c.size:Int))/\(a (c.extract (3:Int).toNat (c.size:Int).toNat)/\b (c.extract (3:Int).toNat (c.size:Int).toNat)<b c)))/\(((Ab .i64 (Ab .u8 (((As (Ap .u8) v) &&& (As (Ap .u8) 7)).toNat:Int)):Int)==3)=false->(((Ab .i64 (Ab .u8 (((As (Ap .u8) v) &&& (As (Ap .u8) 7)).toNat:Int)):Int)==4)=true->((!(decide ((c.size:Int)<4)))=true->(0<=(1:Int)/\(1:Int)<(c.size:Int)))/\((!(bif (decide ((c.size:Int)<4))then true else(decide ((zf c (1:Int).toNat:Int)<w))))=true->(0<=(1:Int)/\(1:Int)<(c.size:Int)))/\((!(bif (bif (decide ((c.size:Int)<4))then true else(decide ((zf c (1:Int).toNat:Int)<w)))then true else(decide (x<(zf c (1:Int).toNat)))))=true->(0<=(2:Int)/\(2:Int)<(c.size:Int)))/\((!(bif (bif (bif (decide ((c.size:Int)<4))then true else(decide ((zf c (1:Int).toNat:Int)<w)))then true else(decide (x<(zf c (1:Int).toNat))))then true else(decide ((zf c (2:Int).toNat:Int)<128))))=true->(0<=(2:Int)/\(2:Int)<(c.size:Int)))/\((!(bif (bif (bif (bif (decide ((c.size:Int)<4))then true else(decide ((zf c (1:Int).toNat:Int)<w)))then true else(decide (x<(zf c (1:Int).toNat))))then true else(decide ((zf c (2:Int).toNat:Int)<128)))then true else(decide ((191:Int)<(zf c (2:Int).toNat)))))=true->(0<=(3:Int)/\(3:Int)<(c.size:Int)))/\((!(bif (bif (bif (bif (bif (decide ((c.size:Int)<4))then true else(decide ((zf c (1:Int).toNat:Int)<w)))then true else(decide (x<(zf c (1:Int).toNat))))then true else(decide ((zf c (2:Int).toNat:Int)<128)))then true else(decide ((191:Int)<(zf c (2:Int).toNat))))then true else(decide ((zf c (3:Int).toNat:Int)<128))))=true->(0<=(3:Int)/\(3:Int)<(c.size:Int)))/\((bif (bif (bif (bif (bif (bif (decide ((c.size:Int)<4))then true else(decide ((zf c (1:Int).toNat:Int)<w)))then true else(decide (x<(zf c (1:Int).toNat))))then true else(decide ((zf c (2:Int).toNat:Int)<128)))then true else(decide ((191:Int)<(zf c (2:Int).toNat))))then true else(decide ((zf c (3:Int).toNat:Int)<128)))then true else(decide ((191:Int)<(zf c (3:Int).toNat))))=true->R false)/\((bif (bif (bif (bif (bif (bif (decide ((c.size:Int)<4))then true else(decide ((zf c (1:Int).toNat:Int)<w)))then true else(decide (x<(zf c (1:Int).toNat))))then true else(decide ((zf c (2:Int).toNat:Int)<128)))then true else(decide ((191:Int)<(zf c (2:Int).toNat))))then true else(decide ((zf c (3:Int).toNat:Int)<128)))then true else(decide ((191:Int)<(zf c (3:Int).toNat))))=false->(0<=(4:Int)/\(4:Int)<=(c.size:Int)/\(c.size:Int)<=(c.size:Int))/\(a (c.extract (4:Int).toNat (c.size:Int).toNat)/\b (c.extract (4:Int).toNat (c.size:Int).toNat)<b c)))/\(((Ab .i64 (Ab .u8 (((As (Ap .u8) v) &&& (As (Ap .u8) 7)).toNat:Int)):Int)==4)=false->R false)))))/\(decide ((c.size:Int)>0)=false->R true))):
  PC Tp gl 141 [Arg.mk .str s0] [.bool] R:=
 PF ⟨[],[(7,8,[],[0,1,2,3,4,6,7,5],[]),(9,15,[],[0,1,2,3,4,6,7,10,11,13,14,5,8,9,12],[9])],[(1,⟨[(0,.one (.dat .str))],[],[],[100000]⟩),(9,⟨[(0,.one (.dat .str))],[],[],[100000]⟩)],[]⟩ [.tmp 2] 169 Tryz.func141 H
theorem zlq(gl:Fr)(v0:Tr)(R:Int->Prop)
  (H:∃(a:Int->Int->Prop) (b:Int->Int->Nat),a 1 0/\∀c d:Int,a c d->((decide (d<v0.items.length)=true->∃e,(0<=d/\v0.items[d.toNat]?=some e)/\PC Tp gl 78 [Arg.mk .tree (Tr.mk e.kind e.text e.keys e.items)] [.int .i64] (λf:Int=>(a (Ab .i64 (c+f)) (Ab .i64 (d+1))/\b (Ab .i64 (c+f)) (Ab .i64 (d+1))<b c d)))/\(decide (d<v0.items.length)=false->R c))):
  PC Tp gl 78 [Arg.mk .tree v0] [.int .i64] R:=
 PF ⟨[],[],[(3,⟨[(3,.one (.dat (.int .i64))),(9,.one (.dat (.int .i64)))],[],[],[100192,100576]⟩)],[]⟩ [.tmp 2] 19 Tryz.func78 H
theorem zit(gl:Fr)(v0:Tr)(R:Int->Prop)
  (H:∃(a:Int->Int->Prop) (b:Int->Int->Nat),a 0 0/\∀c d:Int,a c d->((decide (d<v0.items.length)=true->∃e,(0<=d/\v0.items[d.toNat]?=some e)/\PC Tp gl 79 [Arg.mk .tree (Tr.mk e.kind e.text e.keys e.items)] [.int .i64] (λf:Int=>(a (if c<f then f else c) (Ab .i64 (d+1))/\b (if c<f then f else c) (Ab .i64 (d+1))<b c d)))/\(decide (d<v0.items.length)=false->R (Ab .i64 (c+1))))):
  PC Tp gl 79 [Arg.mk .tree v0] [.int .i64] R:=
 PF ⟨[],[],[(3,⟨[(3,.one (.dat (.int .i64))),(9,.one (.dat (.int .i64)))],[],[],[100192,100576]⟩)],[]⟩ [.tmp 2] 20 Tryz.func79 H
theorem ze5(gl:Fr)(s0:Bt)(R:((Bool×Bt×Int)×Bool)->Prop)
  (H:PC Tp gl 98 [Arg.mk .str s0] [.pair .bool (.pair .str (.int .i64)),.int .i64] (λa:(Bool×Bt×Int)×Int=>∃b:Bt->Prop,((a.2==0)=true->PC Tp gl 56 [Arg.mk (.pair .bool (.pair .str (.int .i64))) (a.1.1,(a.1.2.1,a.1.2.2))] [.str] b)/\∀c:Bt,((a.2==0)=true->b c)->R ((a.1.1,(a.1.2.1,a.1.2.2)),bif (a.2==0)then(c.toList==s0.toList)else false))):
  PC Tp gl 83 [Arg.mk .str s0] [.pair .bool (.pair .str (.int .i64)),.bool] R:=
 PF ⟨[],[(2,9,[],[0,1,2,3,4,6,5,7,8],[6,7,8])],[],[]⟩ [.cell 2 78,.tmp 3] 20 Tryz.func83 H
theorem ziu(gl:Fr)(s0:Bt)(R:Bool->Prop)
  (H:PC Tp gl 113 [Arg.mk .str s0] [.int .i64,.bool] (λa:Int×Bool=>R a.2)):
  PC Tp gl 84 [Arg.mk .str s0] [.bool] R:=
 PF ⟨[],[],[],[]⟩ [.tmp 2] 11 Tryz.func84 H
theorem zlr(gl:Fr)(s0:Bt)(R:Bool->Prop)
  (H:PC Tp gl 83 [Arg.mk .str s0] [.pair .bool (.pair .str (.int .i64)),.bool] (λa:(Bool×Bt×Int)×Bool=>PC Tp gl 119 [Arg.mk (.pair .bool (.pair .str (.int .i64))) (a.1.1,(a.1.2.1,a.1.2.2))] [.int .i64,.bool] (λb:Int×Bool=>R (bif (bif a.2 then b.2 else false)then(decide (b.1>=0))else false)))):
  PC Tp gl 85 [Arg.mk .str s0] [.bool] R:=
 PF ⟨[],[],[],[]⟩ [.tmp 2] 25 Tryz.func85 H
theorem zg6(gl:Fr)(v0:Tr)(O:Bt)(R:Int->Prop)
  (H:((v0.kind==6)=true->PC Tp gl 144 [Arg.mk (.row .str) v0.keys,Arg.mk .str O] [.int .i64] (λa:Int=>R a))/\((v0.kind==6)=false->((v0.kind==5)=true->PC Tp gl 145 [Arg.mk .str O] [.int .i64,.bool] (λb:Int×Bool=>((bif b.2 then(decide (b.1<v0.items.length))else false)=true->R b.1)/\((bif b.2 then(decide (b.1<v0.items.length))else false)=false->R (-1))))/\((v0.kind==5)=false->R (-1)))):
  PC Tp gl 117 [Arg.mk .tree v0,Arg.mk .str O] [.int .i64] R:=
 PF ⟨[],[],[],[]⟩ [.tmp 4] 31 Tryz.func117 H
theorem ze6(gl:Fr)(s0:Bt)(R:Bool->Prop)
  (H:∃(a:(Bt×Nat)->Prop) (b:(Bt×Nat)->Nat),a (s0,0)/\∀O:Bt×Nat,a O->(((nxB O.1 O.2)=true->(nxB O.1 O.2)=true/\((bif (decide ((nxR O.1 O.2:Int)<48))then true else(decide ((nxR O.1 O.2:Int)>57)))=true->R false)/\((bif (decide ((nxR O.1 O.2:Int)<48))then true else(decide ((nxR O.1 O.2:Int)>57)))=false->(a (O.1,nxP O.1 O.2)/\b (O.1,nxP O.1 O.2)<b O)))/\((nxB O.1 O.2)=false->R (!(s0.toList==(⟨#[]⟩:Bt).toList))))):
  PC Tp gl 128 [Arg.mk .str s0] [.bool] R:=
 PF ⟨[],[],[(2,⟨[],[(6,[.dat .iter])],[],[1000384]⟩)],[]⟩ [.tmp 2] 18 Tryz.func128 H
theorem ziv(gl:Fr)(s0:Bt)(R:((Bool×Bool×Bt×Bt×Bt)×Bool)->Prop)
  (H:PC Tp gl 154 [Arg.mk .str s0,Arg.mk .str (⟨#[45]⟩:Bt)] [.str,.bool] (λa:Bt×Bool=>PC Tp gl 155 [Arg.mk .str a.1,Arg.mk .str (⟨#[101,69]⟩:Bt)] [.str,.str,.bool] (λb:Bt×Bt×Bool=>∀c:Bt->Bool->Bool->Bt->Bt->Bt->Prop,(∀d:Bt,∀af ah:Bool,∀ak ai aj:Bt,(PC Tp gl 155 [Arg.mk .str b.1,Arg.mk .str (⟨#[46]⟩:Bt)] [.str,.str,.bool] (λe:Bt×Bt×Bool=>PC Tp gl 128 [Arg.mk .str e.1] [.bool] (λf:Bool=>∃g:Bool->Prop,(((!(!f))&&e.2.2)=true->PC Tp gl 128 [Arg.mk .str e.2.1] [.bool] g)/\∀i:Bool,(((!(!f))&&e.2.2)=true->g i)->((bif (!f)then true else(bif e.2.2 then(!i)else false))=true->R ((af,(ah,(e.1,(e.2.1,d)))),false))/\((bif (!f)then true else(bif e.2.2 then(!i)else false))=false->((!(e.1.toList==(⟨#[48]⟩:Bt).toList))=true->(0<=(0:Int)/\(0:Int)<(e.1.size:Int)))/\R ((af,(ah,(e.1,(e.2.1,d)))),bif (e.1.toList==(⟨#[48]⟩:Bt).toList)then true else((zf e.1 (0:Int).toNat:Int) != 48))))))->c d af ah ak ai aj)->(b.2.2=true->PC Tp gl 154 [Arg.mk .str b.2.1,Arg.mk .str (⟨#[45]⟩:Bt)] [.str,.bool] (λj:Bt×Bool=>∀k:Bt->Bool->Bool->Bt->Bt->Bt->Prop,(∀l:Bt,∀aa O:Bool,∀ac ae Z:Bt,(PC Tp gl 128 [Arg.mk .str l] [.bool] (λm:Bool=>((!m)=true->R ((aa,(O,(ac,(ae,Z)))),false))/\((!m)=false->c l aa O ac ae Z)))->k l aa O ac ae Z)->((!j.2)=true->PC Tp gl 156 [Arg.mk .str j.1,Arg.mk .str (⟨#[43]⟩:Bt)] [.str] (λn:Bt=>k n a.2 j.2 (⟨#[]⟩:Bt) (⟨#[]⟩:Bt) (⟨#[]⟩:Bt)))/\((!j.2)=false->k j.1 a.2 j.2 (⟨#[]⟩:Bt) (⟨#[]⟩:Bt) (⟨#[]⟩:Bt))))/\(b.2.2=false->c b.2.1 a.2 false (⟨#[]⟩:Bt) (⟨#[]⟩:Bt) (⟨#[]⟩:Bt))))):
  PC Tp gl 130 [Arg.mk .str s0] [.pair .bool (.pair .bool (.pair .str (.pair .str .str))),.bool] R:=
 PF ⟨[],[(14,8,[],[0,1,2,3,4,5,6,7],[4,5,6,7])],[],[(9,⟨[(4,.one (.dat .str))],[(2,[.dat .bool,.dat .bool,.dat .str,.dat .str,.dat .str])],[],[100256,1000128,1000129,1000130,1000131,1000132]⟩),(7,⟨[(4,.one (.dat .str))],[(2,[.dat .bool,.dat .bool,.dat .str,.dat .str,.dat .str])],[],[100256,1000128,1000129,1000130,1000131,1000132]⟩)]⟩ [.cell 2 140,.tmp 3] 69 Tryz.func130 H
theorem Qu(gl:Fr)(s0:Bt)(R:Int->Prop)
  (H:(false=true->(0<=(0:Int)/\(0:Int)<(s0.size:Int))/\(0<=(1:Int)/\(1:Int)<(s0.size:Int))/\(0<=(2:Int)/\(2:Int)<(s0.size:Int))/\(0<=(3:Int)/\(3:Int)<(s0.size:Int))/\R (Ab .u64 (((As (Ap .u64) (Ab .u64 (((As (Ap .u64) (Ab .u64 (((As (Ap .u64) (Ab .u64 (zf s0 (0:Int).toNat))) ||| (As (Ap .u64) (Ab .u64 ((Ab .u64 (zf s0 (1:Int).toNat))*2 ^ 8)))).toNat:Int))) ||| (As (Ap .u64) (Ab .u64 ((Ab .u64 (zf s0 (2:Int).toNat))*2 ^ 16)))).toNat:Int))) ||| (As (Ap .u64) (Ab .u64 ((Ab .u64 (zf s0 (3:Int).toNat))*2 ^ 24)))).toNat:Int)))/\(false=false->(0<=(0:Int)/\(0:Int)<(s0.size:Int))/\(0<=(1:Int)/\(1:Int)<(s0.size:Int))/\(0<=(2:Int)/\(2:Int)<(s0.size:Int))/\(0<=(3:Int)/\(3:Int)<(s0.size:Int))/\(0<=(4:Int)/\(4:Int)<(s0.size:Int))/\(0<=(5:Int)/\(5:Int)<(s0.size:Int))/\(0<=(6:Int)/\(6:Int)<(s0.size:Int))/\(0<=(7:Int)/\(7:Int)<(s0.size:Int))/\R (Ab .u64 (((As (Ap .u64) (Ab .u64 (((As (Ap .u64) (Ab .u64 (((As (Ap .u64) (Ab .u64 (((As (Ap .u64) (Ab .u64 (((As (Ap .u64) (Ab .u64 (((As (Ap .u64) (Ab .u64 (((As (Ap .u64) (Ab .u64 (zf s0 (0:Int).toNat))) ||| (As (Ap .u64) (Ab .u64 ((Ab .u64 (zf s0 (1:Int).toNat))*2 ^ 8)))).toNat:Int))) ||| (As (Ap .u64) (Ab .u64 ((Ab .u64 (zf s0 (2:Int).toNat))*2 ^ 16)))).toNat:Int))) ||| (As (Ap .u64) (Ab .u64 ((Ab .u64 (zf s0 (3:Int).toNat))*2 ^ 24)))).toNat:Int))) ||| (As (Ap .u64) (Ab .u64 ((Ab .u64 (zf s0 (4:Int).toNat))*2 ^ 32)))).toNat:Int))) ||| (As (Ap .u64) (Ab .u64 ((Ab .u64 (zf s0 (5:Int).toNat))*2 ^ 40)))).toNat:Int))) ||| (As (Ap .u64) (Ab .u64 ((Ab .u64 (zf s0 (6:Int).toNat))*2 ^ 48)))).toNat:Int))) ||| (As (Ap .u64) (Ab .u64 ((Ab .u64 (zf s0 (7:Int).toNat))*2 ^ 56)))).toNat:Int)))):
  PC Tp gl 170 [Arg.mk .str s0] [.int .u64] R:=
 PF ⟨[],[],[],[]⟩ [.tmp 2] 59 Tryz.func170 H
theorem zls(gl:Fr)(n0:Bool×Bt×Int)(R:(Int×Bool)->Prop)
  (H:PC Tp gl 96 [Arg.mk (.pair .bool (.pair .str (.int .i64))) (n0.1,(n0.2.1,n0.2.2))] [.bool] (λa:Bool=>((bif (bif (!a)then true else(decide (n0.2.2<0)))then true else(decide ((Ab .i64 ((n0.2.1.size:Int)+n0.2.2))>19)))=true->R (0,false))/\((bif (bif (!a)then true else(decide (n0.2.2<0)))then true else(decide ((Ab .i64 ((n0.2.1.size:Int)+n0.2.2))>19)))=false->PC Tp gl 146 [Arg.mk .str (⟨#[48]⟩:Bt),Arg.mk (.int .i64) n0.2.2] [.str] (λb:Bt=>Wp (n0.2.1.size+b.size)/\∀c:Bt->Prop,(∀d:Bt,(((d.toList==(⟨#[]⟩:Bt).toList)=true->R (0,true))/\((d.toList==(⟨#[]⟩:Bt).toList)=false->PC Tp gl 147 [Arg.mk .str d,Arg.mk (.int .i64) 10,Arg.mk (.int .i64) 64] [.int .i64,.err] (λe:Int×Bool=>((!e.2)=true->R (0,false))/\((!e.2)=false->R (e.1,true)))))->c d)->(n0.1=true->Wp (((⟨#[45]⟩:Bt)).size+(n0.2.1++b).size)/\c ((⟨#[45]⟩:Bt)++(n0.2.1++b)))/\(n0.1=false->c (n0.2.1++b)))))):
  PC Tp gl 119 [Arg.mk (.pair .bool (.pair .str (.int .i64))) n0] [.int .i64,.bool] R:=
 PF ⟨[],[(3,5,[],[0,1,2,3,4],[])],[],[(6,⟨[(4,.one (.dat .str))],[],[],[100256]⟩)]⟩ [.tmp 2,.tmp 3] 44 Tryz.func119 H
theorem zlt(gl:Fr)(s0:Bt)(O:Bt)(R:(Bt×Bt×Bool)->Prop)
  (H:∃(a:Int->Prop) (b:Int->Nat),a 0/\∀c:Int,a c->((decide (c<s0.size)=true->(0<=c/\c<s0.size)/\PC Tp gl 191 [Arg.mk .str O,Arg.mk (.int .u8) (zf s0 c.toNat)] [.int .i64] (λd:Int=>(decide (d>=0)=true->(0<=(0:Int)/\(0:Int)<=c/\c<=s0.size)/\(0<=(Ab .i64 (c+1))/\(Ab .i64 (c+1))<=(s0.size:Int)/\(s0.size:Int)<=(s0.size:Int))/\R (s0.extract (0:Int).toNat c.toNat,s0.extract (Ab .i64 (c+1)).toNat (s0.size:Int).toNat,true))/\(decide (d>=0)=false->(a (Ab .i64 (c+1))/\b (Ab .i64 (c+1))<b c))))/\(decide (c<s0.size)=false->R (s0,(⟨#[]⟩:Bt),false)))):
  PC Tp gl 155 [Arg.mk .str s0,Arg.mk .str O] [.str,.str,.bool] R:=
 PF ⟨[],[],[(2,⟨[(10,.one (.dat (.int .i64)))],[],[],[100640]⟩)],[]⟩ [.tmp 4,.tmp 5,.tmp 6] 28 Tryz.func155 H
end
section
abbrev bl(l:List UInt8):Bt:=⟨l.toArray⟩
abbrev lb(s:Bt):List UInt8:=s.data.toList
@[simp] theorem js(l:List UInt8):lb (bl l)=l:=by simp[lb]
@[simp] theorem W8(s:Bt):bl (lb s)=s:=by cases s;simp[lb,bl]
theorem zon{s t:Bt}:lb s=lb t↔s=t:=⟨λh=>by rw[<-W8 s,h,W8],λh=>by rw[h]⟩
theorem zcp(s:Bt):(lb s).length=s.size:=by cases s;simp[lb,ByteArray.size]
theorem zxz(s t:Bt):lb (s++t)=lb s++lb t:=by
 cases s;cases t
 simp[lb]
theorem zu8(s:Bt)(a b:Nat):lb (s.extract a b)=((lb s).drop a).take (b-a):=by
 cases s
 simp[lb,ByteArray.data_extract,List.extract_eq_take_drop]
theorem zx0(s:Bt)(i:Nat):zf s i=((((lb s)[i]?).getD 0).toNat:Int):=by
 cases s;simp[lb,zf]
theorem z6p(s:Bt)(i:Nat):s.get! i=((lb s)[i]?).getD 0:=by
 cases s with
 |mk d=>simp[lb,ByteArray.get!,Array.getElem!_eq_getD];rfl
def dec(l:List UInt8):Nat×Nat:=Go.Lib.decodeN l.length (l.getD 0 0).toNat (l.getD 1 0).toNat (l.getD 2 0).toNat (l.getD 3 0).toNat
theorem zx1(s:Bt)(i:Nat):Utf8.decode s i=dec ((lb s).drop i):=by
 rw[Go.Lib.decode_at,dec]
 simp only[z6p,Bm,AE,AX,zcp,Db]
theorem Y5(l:List UInt8):1<=(dec l).2/\(dec l).2<=4:=by
 unfold dec Go.Lib.decodeN
 repeat' split
 all_goals simp
theorem zx2{l:List UInt8}(h:l≠[]):(dec l).2<=l.length:=by
 have:0<l.length:=A5.2 h
 unfold dec Go.Lib.decodeN
 repeat' split
 all_goals simp only
 all_goals omega
def zlu(d:Nat×Nat):Bool:=d.1==65533&&d.2==1
def j9(l:List UInt8):Bool:=if h:l=[]then true else if zlu (dec l)then false else j9 (l.drop (dec l).2)
termination_by l.length
decreasing_by
 have h1:=Y5 l
 have h2:0<l.length:=A5.2 h
 simp only[AX];omega
theorem zfo:j9 []=true:=by unfold j9;simp
theorem Za{l:List UInt8}(h:l≠[]):j9 l=if zlu (dec l)then false else j9 (l.drop (dec l).2):=by
 rw[j9];simp[h]
theorem W9{c:UInt8}{l:List UInt8}(h:c.toNat<128):dec (c::l)=(c.toNat,1):=by
 simp[dec,Go.Lib.decodeN,h]
theorem zu9{c:UInt8}{l:List UInt8}(h:c.toNat<128):zlu (dec (c::l))=false:=by
 rw[W9 h,zlu]
 have:(c.toNat==65533)=false:=by simp;omega
 simp[this]
theorem xu{c:UInt8}{l:List UInt8}(h:c.toNat<128):j9 (c::l)=j9 l:=by
 rw[Za (by simp),zu9 h,W9 h];simp
theorem z2b{l m:List UInt8}(h:l≠[])(hg:zlu (dec l)=false):dec (l++m)=dec l:=by
 have hn:0<l.length:=A5.2 h
 have g:∀i,i<l.length->(l++m).getD i 0=l.getD i 0:=λi hi=>by
  simp only[Bm,Bg hi]
 have g0:=g 0 hn
 rw[dec]at hg
 rw[dec,dec,g0]
 by_cases h4:4<=l.length
 ·rw[g 1 (by omega),g 2 (by omega),g 3 (by omega)]
  unfold Go.Lib.decodeN
  have e1:(1<(l++m).length)=(1<l.length):=by simp;omega
  have e2:(2<(l++m).length)=(2<l.length):=by simp;omega
  have e3:(3<(l++m).length)=(3<l.length):=by simp;omega
  simp only[e1,e2,e3]
 ·generalize (l.getD 0 0).toNat=b0 at *
  have d1:∀i,l.length<=i->l.getD i 0=0:=λi hi=>by simp[Bm,Bj hi]
  have O:l.length<=(l++m).length:=by simp
  have k1:1<l.length->(l++m).getD 1 0=l.getD 1 0:=g 1
  have k2:2<l.length->(l++m).getD 2 0=l.getD 2 0:=g 2
  generalize ah:(l++m).getD 1 0=a1 at *
  generalize ac:(l++m).getD 2 0=a2 at *
  generalize aa:(l++m).getD 3 0=a3 at *
  generalize ae:l.getD 1 0=b1 at *
  generalize af:l.getD 2 0=b2 at *
  generalize Z:l.getD 3 0=b3 at *
  generalize l.length=n at *
  generalize (l++m).length=n' at *
  unfold Go.Lib.decodeN zlu at hg
  unfold Go.Lib.decodeN
  by_cases c0:b0<128
  ·simp[c0]
  ·rw[if_neg c0]at hg ⊢
   rw[if_neg c0]
   by_cases c1:b0 / 32=6/\1<n/\b1.toNat / 64=2
   ·rw[if_pos c1]at hg ⊢
    rw[k1 c1.2.1,if_pos ⟨c1.1,by omega,c1.2.2⟩]
   ·rw[if_neg c1]at hg ⊢
    by_cases c2:b0 / 16=14/\(1<n/\b1.toNat / 64=2)/\2<n/\b2.toNat / 64=2
    ·rw[if_pos c2]at hg ⊢
     rw[k1 c2.2.1.1,k2 c2.2.2.1,if_neg (by omega),if_pos ⟨c2.1,⟨by omega,c2.2.1.2⟩,by omega,c2.2.2.2⟩]
    ·rw[if_neg c2]at hg
     rw[if_neg (by omega)]at hg
     simp at hg
theorem z2c{l m:List UInt8}{c:UInt8}(h:l≠[])(hc:c.toNat<128)(hg:zlu (dec l)=true):zlu (dec (l++c::m))=true:=by
 have hn:0<l.length:=A5.2 h
 have g:∀i,i<l.length->(l++c::m).getD i 0=l.getD i 0:=λi hi=>by
  simp only[Bm,Bg hi]
 have gc:(l++c::m).getD l.length 0=c:=by simp[Bm]
 have g0:=g 0 hn
 have O:c.toNat / 64≠2:=by omega
 rw[dec]at hg
 rw[dec,g0]
 by_cases h4:4<=l.length
 ·rw[g 1 (by omega),g 2 (by omega),g 3 (by omega)]
  unfold Go.Lib.decodeN at *
  have e1:(1<(l++c::m).length)=(1<l.length):=by simp;omega
  have e2:(2<(l++c::m).length)=(2<l.length):=by simp;omega
  have e3:(3<(l++c::m).length)=(3<l.length):=by simp;omega
  simp only[e1,e2,e3];exact hg
 ·have k1:1<l.length->(l++c::m).getD 1 0=l.getD 1 0:=g 1
  have k2:2<l.length->(l++c::m).getD 2 0=l.getD 2 0:=g 2
  have q1:l.length=1->(l++c::m).getD 1 0=c:=λe=>by rw[e]at gc;exact gc
  have q2:l.length=2->(l++c::m).getD 2 0=c:=λe=>by rw[e]at gc;exact gc
  have q3:l.length=3->(l++c::m).getD 3 0=c:=λe=>by rw[e]at gc;exact gc
  have Z:l.length+1<=(l++c::m).length:=by simp
  generalize (l.getD 0 0).toNat=b0 at *
  generalize (l++c::m).getD 1 0=a1 at *
  generalize (l++c::m).getD 2 0=a2 at *
  generalize (l++c::m).getD 3 0=a3 at *
  generalize l.getD 1 0=b1 at *
  generalize l.getD 2 0=b2 at *
  generalize l.getD 3 0=b3 at *
  generalize l.length=n at *
  generalize (l++c::m).length=n' at *
  unfold Go.Lib.decodeN at *
  have hn:n=1\/n=2\/n=3:=by omega
  rcases hn with rfl|rfl|rfl
  ·simp only[q1 rfl]at *
   by_cases c0:b0<128
   ·simp only[c0,if_true]at hg ⊢;exact hg
   ·simp[c0,O];rfl
  ·simp only[q2 rfl,k1 (by omega)]at *
   by_cases c0:b0<128
   ·simp only[c0,if_true]at hg ⊢;exact hg
   ·by_cases c1:b0 / 32=6/\b1.toNat / 64=2
    ·simp[c0,c1]at hg ⊢
     rw[if_pos (by omega)];exact hg
    ·simp[c0,O]
     rw[if_neg (by omega)];rfl
  ·simp only[q3 rfl,k1 (by omega),k2 (by omega)]at *
   by_cases c0:b0<128
   ·simp only[c0,if_true]at hg ⊢;exact hg
   ·by_cases c1:b0 / 32=6/\b1.toNat / 64=2
    ·simp[c0,c1]at hg ⊢
     rw[if_pos (by omega)];exact hg
    ·simp only[c0,O,if_false]at hg ⊢
     by_cases c2:b0 / 16=14/\b1.toNat / 64=2/\b2.toNat / 64=2
     ·simp[c2]at hg ⊢
      rw[if_neg (by omega)]at hg ⊢
      rw[if_pos (by omega)];exact hg
     ·simp[O]
      rw[if_neg (by omega),if_neg (by omega)];rfl
theorem X4{l m:List UInt8}{c:UInt8}(hc:c.toNat<128):j9 (l++c::m)=(j9 l&&j9 m):=by
 by_cases hl:l=[]
 ·subst hl;rw[BJ,xu hc,zfo];simp
 ·rw[Za (l:=l) hl,Za (l:=l++c::m) (by simp)]
  cases hb:zlu (dec l)with
  |true=>rw[z2c hl hc hb];simp
  |false=>
   have hd:=z2b (m:=c::m) hl hb
   have hw:=Y5 l
   have O:=zx2 hl
   rw[hd,hb,List.drop_append_of_le_length O]
   simp only[A0,if_false]
   exact X4 hc
termination_by l.length
decreasing_by
 have h2:0<l.length:=A5.2 hl
 simp only[AX];omega
end
end Go.X
end
section
namespace Go.X
open Go Go.Lib
section
variable {i:Nat}
abbrev Bs:=List UInt8
theorem Xa{sub:Bs}{b:UInt8}{l:Bs}(h:sub.isPrefixOf (b::l)=true):index (b::l) sub=0:=by unfold index;rw[if_pos h]
theorem zfp{sub:Bs}{b:UInt8}{l:Bs}(h:sub.isPrefixOf (b::l)=false)(h':index l sub=-1):index (b::l) sub=-1:=by unfold index;rw[if_neg (by simp[h]),if_pos (by simp[h'])]
theorem zcq{sub:Bs}{b:UInt8}{l:Bs}(h:sub.isPrefixOf (b::l)=false)(h':index l sub=i):index (b::l) sub=((i+1:Nat):Int):=by
 unfold index
 have:((i:Int)==-1)=false:=by rw[beq_eq_false_iff_ne];omega
 rw[if_neg (by simp[h]),h',if_neg (by simp[this])];omega
theorem Zb(l sub:Bs):index l sub=-1\/∃i:Nat,index l sub=i:=by
 have:=index_ge l sub
 by_cases h:index l sub=-1
 ·exact .inl h
 ·exact .inr ⟨(index l sub).toNat,by omega⟩
theorem zcr{sub:Bs}(h:sub≠[]):index [] sub=-1:=by
 unfold index;cases sub with
 |nil=>exact absurd rfl h
 |cons a t=>rfl
theorem zg7{l sub:Bs}(h:index l sub=i):i+sub.length<=l.length:=by
 have:=index_room l sub (by omega);omega
def zng(old new:Bs)(s:Bs):Bs:=
 if h:old=[]\/index s old=-1 then s else s.take (index s old).toNat++new++zng old new (s.drop ((index s old).toNat+old.length))
termination_by s.length
decreasing_by
 have h1:old≠[]:=λe=>h (.inl e)
 have h2:0<old.length:=A5.2 h1
 have h3:=index_ge s old
 have h4:index s old≠-1:=λe=>h (.inr e)
 have h5:=index_room s old (by omega)
 simp only[AX];omega
theorem Xb{old new s:Bs}(h:index s old=-1):zng old new s=s:=by rw[zng,dif_pos (.inr h)]
theorem zfq{old new s:Bs}(ho:old≠[])(h:index s old=i):zng old new s=s.take i++new++zng old new (s.drop (i+old.length)):=by
 rw[zng,dif_neg (λe=>e.elim ho λe=>by omega),h];simp
theorem countFrom_fuel{sub:Bs}(ho:sub≠[]):∀(f:Nat) (s:Bs),s.length<f->∀g,s.length<g->countFrom sub f s=countFrom sub g s
 |0,_,h,_,_=>absurd h (Nat.not_lt_zero _)
 |f+1,s,hf,0,hg=>absurd hg (Nat.not_lt_zero _)
 |f+1,s,hf,g+1,hg=>by
  unfold countFrom
  rcases Zb s sub with e|⟨i,e⟩
  ·simp[e]
  ·have hb:((i:Int)==-1)=false:=by rw[beq_eq_false_iff_ne];omega
   rw[e,if_neg (by simp[hb]),if_neg (by simp[hb])]
   have h1:=zg7 e
   have h2:0<sub.length:=A5.2 ho
   rw[countFrom_fuel ho f _ (by simp only[AX,Ah];omega) g (by simp only[AX,Ah];omega)]
theorem zsn{sub s:Bs}(h:index s sub=-1):count s sub=0:=by rw[count,countFrom,h];rfl
theorem count_hit{sub s:Bs}(ho:sub≠[])(e:index s sub=i):count s sub=1+count (s.drop (i+sub.length)) sub:=by
 have hb:((i:Int)==-1)=false:=by rw[beq_eq_false_iff_ne];omega
 have h1:=zg7 e
 have h2:0<sub.length:=A5.2 ho
 rw[count,countFrom,e,if_neg (by simp[hb]),count,Ah,countFrom_fuel ho s.length _ (by simp only[AX];omega) ((s.drop (i+sub.length)).length+1) (by omega)]
theorem zcs{old new:Bs}(ho:old≠[]):∀(k:Nat) (s:Bs),count s old<=k->replaceK old new k s=zng old new s
 |0,s,h=>by
  rcases Zb s old with e|⟨i,e⟩
  ·rw[Xb e];rfl
  ·rw[count_hit ho e]at h;omega
 |k+1,s,h=>by
  rcases Zb s old with e|⟨i,e⟩
  ·rw[Xb e,replaceK,if_pos (by simp[e])]
  ·rw[zfq ho e,replaceK_hit _ _ _ _ _ e,zcs ho k]
   rw[count_hit ho e]at h;omega
theorem xw{old new s:Bs}(ho:old≠[])(hn:old≠new):replaceAll s old new=zng old new s:=by
 unfold replaceAll replace
 rw[if_neg (by simpa using hn),replaceNum,if_pos (.inl (by omega))]
 exact zcs ho _ _ (Ae _)
theorem zct{old new:Bs}(ho:old≠[]):zng old new []=[]:=Xb (zcr ho)
theorem Zc{old new:Bs}(ho:old≠[])(b:UInt8)(l:Bs):zng old new (b::l)=if old.isPrefixOf (b::l)then new++zng old new ((b::l).drop old.length)else b::zng old new l:=by
 cases hp:old.isPrefixOf (b::l)with
 |true=>rw[zfq (i:=0) ho (Xa hp)];simp
 |false=>
  simp only[A0,if_false]
  rcases Zb l old with e|⟨i,e⟩
  ·rw[Xb (zfp hp e),Xb e]
  ·rw[zfq ho (zcq hp e),zfq ho e,show i+1+old.length=(i+old.length)+1 by omega];simp
theorem zx3{sub:Bs}(ho:sub≠[]):count [] sub=0:=by
 unfold count countFrom
 simp[zcr ho]
theorem count_cons{sub:Bs}(ho:sub≠[])(b:UInt8)(l:Bs):count (b::l) sub=if sub.isPrefixOf (b::l)then 1+count ((b::l).drop sub.length) sub else count l sub:=by
 cases hp:sub.isPrefixOf (b::l)with
 |true=>
  simp only[if_true]
  rw[count_hit (i:=0) ho (Xa hp),AD]
 |false=>
  simp only[A0,if_false]
  rcases Zb l sub with e|⟨i,e⟩
  ·rw[zsn (zfp hp e),zsn e]
  ·rw[count_hit ho (zcq hp e),count_hit ho e,show i+1+sub.length=(i+sub.length)+1 by omega,List.drop_succ_cons]
theorem count_one(c:UInt8):∀l:Bs,count l [c]=l.count c
 |[]=>by rw[zx3 (by simp)];rfl
 |b::l=>by
  rw[count_cons (by simp),List.count_cons]
  simp only[Bw,EG,beq_iff_eq,CH,List.drop_succ_cons,A2]
  rw[count_one c l]
  by_cases h:c=b
  ·subst h;simp;omega
  ·rw[if_neg h,if_neg (λe=>h e.symm)];omega
theorem zfr(c:UInt8)(new:Bs):∀l:Bs,zng [c] new l=l.flatMap λx=>if x=c then new else [x]
 |[]=>zct (by simp)
 |b::l=>by
  rw[Zc (by simp),DR]
  simp only[Bw,EG,beq_iff_eq,CH,List.drop_succ_cons,A2]
  rw[zfr c new l]
  by_cases h:c=b
  ·subst h;simp
  ·rw[if_neg h,if_neg (λe=>h e.symm)];simp
def z4h(sep:Bs)(s:Bs):List Bs:=
 if h:sep=[]\/index s sep=-1 then [s]else s.take (index s sep).toNat::z4h sep (s.drop ((index s sep).toNat+sep.length))
termination_by s.length
decreasing_by
 have h1:sep≠[]:=λe=>h (.inl e)
 have h2:0<sep.length:=A5.2 h1
 have h3:=index_ge s sep
 have h4:index s sep≠-1:=λe=>h (.inr e)
 have h5:=index_room s sep (by omega)
 simp only[AX];omega
theorem Xc{sep s:Bs}(h:index s sep=-1):z4h sep s=[s]:=by rw[z4h,dif_pos (.inr h)]
theorem zfs{sep s:Bs}(ho:sep≠[])(h:index s sep=i):z4h sep s=s.take i::z4h sep (s.drop (i+sep.length)):=by
 rw[z4h,dif_neg (λe=>e.elim ho λe=>by omega),h];simp
theorem zg8{sep:Bs}(ho:sep≠[]):∀(k:Nat) (s:Bs),count s sep<=k->splitK sep 0 k s=z4h sep s
 |0,s,h=>by
  rcases Zb s sep with e|⟨i,e⟩
  ·rw[Xc e];rfl
  ·rw[count_hit ho e]at h;omega
 |k+1,s,h=>by
  rcases Zb s sep with e|⟨i,e⟩
  ·rw[Xc e,splitK,if_pos (by simp[e])]
  ·have hb:((i:Int)==-1)=false:=by rw[beq_eq_false_iff_ne];omega
   rw[zfs ho e,splitK,e,if_neg (by simp[hb]),Ah,zg8 ho k]
   ·simp
   ·rw[count_hit ho e]at h;omega
def Jg(c:UInt8):Bs->List Bs
 |[]=>[[]]
 |b::l=>if b=c then []::Jg c l else match Jg c l with
  |[]=>[[b]]
  |x::r=>(b::x)::r
theorem zg9(c:UInt8):∀l,Jg c l≠[]
 |[]=>by simp[Jg]
 |b::l=>by
  unfold Jg
  split
  ·simp
  ·split <;> simp
theorem zso(c:UInt8):∀l:Bs,z4h [c] l=Jg c l
 |[]=>Xc (zcr (by simp))
 |b::l=>by
  have ih:=zso c l
  by_cases h:b=c
  ·subst h
   rw[zfs (i:=0) (by simp) (Xa (by simp[Bw])),Jg,if_pos rfl,<-ih];simp
  ·have hp:[c].isPrefixOf (b::l)=false:=by simp[Bw];exact λe=>h e.symm
   rw[Jg,if_neg h,<-ih]
   rcases Zb l [c]with e|⟨i,e⟩
   ·rw[Xc (zfp hp e),Xc e]
   ·rw[zfs (by simp) (zcq hp e),zfs (by simp) e,show i+1+[c].length=(i+[c].length)+1 by rfl];simp
theorem zbc(c:UInt8):∀l,(Jg c l).length=l.count c+1
 |[]=>rfl
 |b::l=>by
  have ih:=zbc c l
  unfold Jg
  rw[List.count_cons]
  by_cases h:b=c
  ·subst h;simp[ih]
  ·rw[if_neg h]
   simp only[beq_iff_eq,h,if_false,Db]
   split
   ·rename_i e;exact absurd e (zg9 c l)
   ·rename_i x r e;rw[e]at ih;simpa using ih
end
end Go.X
end
section
namespace Go.X
section
variable {n b0 b1 b2 b3:Nat}
theorem z6q{n:Int}(h1:-2147483648<=n)(h2:n<=2147483647):Ab .i32 n=n:=by
 unfold Ab
 have e:(2:Int) ^ Ap .i32=4294967296:=by decide
 have e':(2:Int) ^ (Ap .i32-1)=2147483648:=by decide
 simp only[e,e']
 have hs:Eo .i32=true:=rfl
 simp only[hs,B0,decide_eq_true_eq]
 split <;> omega
theorem qc3(h:b0<128):Lib.decodeN n b0 b1 b2 b3=(b0,1):=by
 unfold Lib.decodeN;rw[if_pos h]
theorem qda(h:128<=b0/\b0<194\/245<=b0/\b0<256):Lib.decodeN n b0 b1 b2 b3=(65533,1):=by
 refine Lib.bad_eq _ _ _ _ _ (by omega) ?_
 unfold Lib.firstT
 repeat' split
 all_goals first|rfl|(exfalso;omega)
theorem qdb(h:194<=b0/\b0<224)(h1:b1<256):Lib.decodeN n b0 b1 b2 b3=if 2<=n/\128<=b1/\b1<=191 then((b0-192)*64+(b1-128),2)else(65533,1):=by
 unfold Lib.decodeN
 rw[if_neg (by omega)]
 by_cases hc:2<=n/\128<=b1/\b1<=191
 ·have e:b0 % 32*64+b1 % 64=(b0-192)*64+(b1-128):=by omega
  rw[if_pos (by omega),if_pos (by omega),if_pos hc,e]
 ·rw[if_neg (by omega),if_neg (by omega),if_neg (by omega),if_neg hc]
theorem qdc(h:224<=b0/\b0<240)(h1:b1<256)(h2:b2<256):Lib.decodeN n b0 b1 b2 b3=
  if 3<=n/\(128<=b1/\b1<=191)/\(128<=b2/\b2<=191)/\2048<=((b0-224)*64+(b1-128))*64+(b2-128)/\(((b0-224)*64+(b1-128))*64+(b2-128)<55296\/57344<=((b0-224)*64+(b1-128))*64+(b2-128))
  then(((b0-224)*64+(b1-128))*64+(b2-128),3)else(65533,1):=by
 unfold Lib.decodeN
 rw[if_neg (by omega),if_neg (by omega)]
 by_cases hc:3<=n/\(128<=b1/\b1<=191)/\(128<=b2/\b2<=191)
 ·rw[if_pos (by omega)]
  have e:b0 % 16*4096+b1 % 64*64+b2 % 64=((b0-224)*64+(b1-128))*64+(b2-128):=by omega
  rw[e]
  split <;> rename_i hx
  ·rw[if_pos (by omega)]
  ·rw[if_neg (by omega)]
 ·rw[if_neg (by omega),if_neg (by omega),if_neg (by omega)]
theorem qdd(h:240<=b0/\b0<245)(h1:b1<256)(h2:b2<256)(h3:b3<256):Lib.decodeN n b0 b1 b2 b3=
  if 4<=n/\(128<=b1/\b1<=191)/\(128<=b2/\b2<=191)/\(128<=b3/\b3<=191)/\65536<=(((b0-240)*64+(b1-128))*64+(b2-128))*64+(b3-128)/\(((b0-240)*64+(b1-128))*64+(b2-128))*64+(b3-128)<=1114111
  then((((b0-240)*64+(b1-128))*64+(b2-128))*64+(b3-128),4)else(65533,1):=by
 unfold Lib.decodeN
 rw[if_neg (by omega),if_neg (by omega),if_neg (by omega)]
 by_cases hc:4<=n/\(128<=b1/\b1<=191)/\(128<=b2/\b2<=191)/\(128<=b3/\b3<=191)
 ·rw[if_pos (by omega)]
  have e:b0 % 8*262144+b1 % 64*4096+b2 % 64*64+b3 % 64=(((b0-240)*64+(b1-128))*64+(b2-128))*64+(b3-128):=by omega
  rw[e]
  split <;> rename_i hx
  ·rw[if_pos (by omega)]
  ·rw[if_neg (by omega)]
 ·rw[if_neg (by omega),if_neg (by omega)]
end
end Go.X
end
section
namespace Go.X
open Go Go.Proofs Go.Shelf Go.RowKit
section
theorem LF{α : Type}{x y : α}{o : Option α}(h : o = some x)(e : x = y := by kernel_rfl): o = some y := h.trans (congrArg some e)
def zlv:Go.Shelf.Ren:=⟨fun|161=>131|231=>157|227=>158|233=>159|235=>160|228=>193|197=>142|151=>194|260=>171|152=>222|137=>191|119=>237|224=>232|225=>231|217=>221|266=>236|n=>n,fun|9=>9|4=>4|3=>3|5=>5|117=>164|116=>163|0=>0|124=>167|105=>119|21=>21|119=>172|46=>176|139=>175|138=>174|n=>n,fun|3=>0|4=>1|n=>n⟩
theorem zx4:Go.Proofs.Lays.n161 Tp zlv:={
 mixed:=by kernel_rfl
 f119:=LF Es
 f137:=LF Et
 f151:=LF Tryz.func194
 f152:=LF Eu
 f161:=LF Tryz.func131
 f197:=LF ER
 f217:=LF De
 f224:=LF Dv
 f225:=LF Dw
 f227:=LF Tryz.func158
 f228:=LF Tryz.func193
 f231:=LF Tryz.func157
 f233:=LF Tryz.func159
 f235:=LF Tryz.func160
 f260:=LF ES
 f266:=LF Df
 t0:=BI
 a0:=Cv
 z0:=Cn
 v0:=BO
 t3:=Bh
 a3:=BU
 z3:=BP
 v3:=Bq
 t4:=Bn
 a4:=Cf
 z4:=BW
 v4:=BF
 t5:=Bo
 a5:=B7
 z5:=BS
 v5:=Bz
 t9:=A9
 a9:=BV
 z9:=BQ
 v9:=Br
 t21:=Co
 a21:=Dg
 z21:=CZ
 v21:=Cw
 t46:=BG
 a46:=Cj
 z46:=BZ
 v46:=BK
 t105:=Dx
 a105:=EH
 z105:=Ev
 v105:=DT
 t116:=Tryz.underlying163
 a116:=Tryz.isAgg163
 z116:=Tryz.sizeOf163
 t117:=Tryz.underlying164
 a117:=Tryz.isAgg164
 z117:=Tryz.sizeOf164
 v117:=Tryz.zeroValue164
 t119:=Dz
 a119:=EI
 z119:=Ew
 t124:=Tryz.underlying167
 a124:=Tryz.isAgg167
 z124:=Tryz.sizeOf167
 v124:=Tryz.zeroValue167
 t138:=C5
 a138:=EJ
 z138:=Ex
 v138:=DU
 t139:=DC
 a139:=EK
 z139:=Ey
 v139:=DV
 g3:=by kernel_rfl
 g4:=by kernel_rfl }
theorem We(s:Bt)(c:UInt8)(hc:c.toNat<128)(w:World):
  Calls Tp 131 #[.string s,.string ⟨#[c]⟩] w λe w'=>e=.returned (.string ⟨(Lib.trimLeftB s.data.toList c).toArray⟩)/\w'=w:=Any.strings_TrimLeft_one zx4 s c hc w
def zlw:Go.Shelf.Ren:=⟨fun|162=>132|232=>161|227=>158|234=>162|236=>163|228=>193|271=>195|151=>194|120=>223|197=>142|152=>222|260=>171|137=>191|119=>237|224=>232|225=>231|217=>221|266=>236|n=>n,fun|9=>9|4=>4|3=>3|5=>5|117=>164|116=>163|0=>0|124=>167|21=>21|105=>119|46=>176|119=>172|139=>175|138=>174|n=>n,fun|3=>0|4=>1|n=>n⟩
theorem zx5:Go.Proofs.Lays.n162 Tp zlw:={
 mixed:=by kernel_rfl
 f119:=LF Es
 f120:=LF Tryz.func223
 f137:=LF Et
 f151:=LF Tryz.func194
 f152:=LF Eu
 f162:=LF Tryz.func132
 f197:=LF ER
 f217:=LF De
 f224:=LF Dv
 f225:=LF Dw
 f227:=LF Tryz.func158
 f228:=LF Tryz.func193
 f232:=LF Tryz.func161
 f234:=LF Tryz.func162
 f236:=LF Tryz.func163
 f260:=LF ES
 f266:=LF Df
 f271:=LF Tryz.func195
 t0:=BI
 a0:=Cv
 z0:=Cn
 v0:=BO
 t3:=Bh
 a3:=BU
 z3:=BP
 v3:=Bq
 t4:=Bn
 a4:=Cf
 z4:=BW
 v4:=BF
 t5:=Bo
 a5:=B7
 z5:=BS
 v5:=Bz
 t9:=A9
 a9:=BV
 z9:=BQ
 v9:=Br
 t21:=Co
 a21:=Dg
 z21:=CZ
 v21:=Cw
 t46:=BG
 a46:=Cj
 z46:=BZ
 v46:=BK
 t105:=Dx
 a105:=EH
 z105:=Ev
 v105:=DT
 t116:=Tryz.underlying163
 a116:=Tryz.isAgg163
 z116:=Tryz.sizeOf163
 t117:=Tryz.underlying164
 a117:=Tryz.isAgg164
 z117:=Tryz.sizeOf164
 v117:=Tryz.zeroValue164
 t119:=Dz
 a119:=EI
 z119:=Ew
 t124:=Tryz.underlying167
 a124:=Tryz.isAgg167
 z124:=Tryz.sizeOf167
 v124:=Tryz.zeroValue167
 t138:=C5
 a138:=EJ
 z138:=Ex
 v138:=DU
 t139:=DC
 a139:=EK
 z139:=Ey
 v139:=DV
 g3:=by kernel_rfl
 g4:=by kernel_rfl }
theorem J1(s:Bt)(c:UInt8)(hc:c.toNat<128)(w:World)(hs:s.size<=9223372036854775807):
  Calls Tp 132 #[.string s,.string ⟨#[c]⟩] w λe w'=>e=.returned (.string ⟨(Lib.trimRightB s.data.toList c).toArray⟩)/\w'=w:=Any.strings_TrimRight_one zx5 s c hc w hs
def zlx:Go.Shelf.Ren:=⟨fun|137=>191|217=>221|266=>236|n=>n,fun|9=>9|5=>5|3=>3|n=>n,fun|n=>n⟩
theorem zx6:Go.Proofs.Lays.n137 Tp zlx:={
 mixed:=by kernel_rfl
 f137:=LF Et
 f217:=LF De
 f266:=LF Df
 t3:=Bh
 a3:=BU
 z3:=BP
 v3:=Bq
 t5:=Bo
 a5:=B7
 z5:=BS
 v5:=Bz
 t9:=A9
 a9:=BV
 z9:=BQ
 v9:=Br }
theorem xj(s:Bt)(c:Int)(w:World):
  Calls Tp 191 #[.string s,.int .u8 c] w λe w'=>e=.returned (.int .i64 (Lib.indexByte s.data.toList c.toNat.toUInt8))/\w'=w:=Any.strings_IndexByte zx6 s c w
def zly:Go.Shelf.Ren:=⟨fun|103=>154|210=>190|206=>206|n=>n,fun|9=>9|4=>4|24=>100|3=>3|n=>n,fun|n=>n⟩
theorem zx7:Go.Proofs.Lays.n103 Tp zly:={
 mixed:=by kernel_rfl
 f103:=LF Tryz.func154
 f206:=LF Tryz.func206
 f210:=LF Tryz.func190
 t3:=Bh
 a3:=BU
 z3:=BP
 v3:=Bq
 t4:=Bn
 a4:=Cf
 z4:=BW
 v4:=BF
 t9:=A9
 a9:=BV
 z9:=BQ
 v9:=Br
 t24:=Tryz.underlying100
 a24:=Tryz.isAgg100
 z24:=Tryz.sizeOf100
 v24:=Tryz.zeroValue100 }
theorem zbd(s p:Bt)(w:World):
  Calls Tp 154 #[.string s,.string p] w λe w'=>e=.returned (.tuple #[.string ⟨(Lib.trimPrefix s.data.toList p.data.toList).toArray⟩,.bool (Lib.hasPrefix s.data.toList p.data.toList)])/\w'=w:=Any.strings_CutPrefix zx7 s p w
def ziw:Go.Shelf.Ren:=⟨fun|171=>97|243=>129|246=>153|283=>186|284=>187|285=>188|286=>189|129=>217|317=>216|318=>218|319=>219|320=>220|337=>234|338=>235|n=>n,fun|3=>3|9=>9|2=>2|4=>4|171=>188|0=>0|53=>189|37=>99|5=>5|173=>192|212=>213|51=>200|20=>20|213=>214|46=>176|232=>231|233=>232|n=>n,fun|17=>3|18=>6|19=>7|n=>n⟩
theorem zva:Go.Proofs.LaysM.n171 Tp ziw:={
 mixed:=by kernel_rfl
 f129:=LF Tryz.func217
 f171:=LF Tryz.func97
 f243:=LF Tryz.func129
 f246:=LF Tryz.func153
 f283:=LF Tryz.func186
 f284:=LF Tryz.func187
 f285:=LF Tryz.func188
 f286:=LF Tryz.func189
 f317:=LF Tryz.func216
 f318:=LF Tryz.func218
 f319:=LF Tryz.func219
 f320:=LF Tryz.func220
 f337:=LF Tryz.func234
 f338:=LF Tryz.func235
 t0:=BI
 a0:=Cv
 z0:=Cn
 v0:=BO
 t2:=Tryz.underlying2
 a2:=Tryz.isAgg2
 z2:=Tryz.sizeOf2
 v2:=Tryz.zeroValue2
 t3:=Bh
 a3:=BU
 z3:=BP
 v3:=Bq
 t4:=Bn
 a4:=Cf
 z4:=BW
 v4:=BF
 t5:=Bo
 a5:=B7
 z5:=BS
 v5:=Bz
 t9:=A9
 a9:=BV
 z9:=BQ
 v9:=Br
 t20:=DW
 a20:=ET
 z20:=EL
 v20:=Ea
 t37:=Dh
 a37:=Ez
 z37:=Ee
 v37:=Dp
 t46:=BG
 a46:=Cj
 z46:=BZ
 v46:=BK
 t51:=Cs
 a51:=Dk
 z51:=C6
 v51:=CE
 t53:=Tryz.underlying189
 a53:=Tryz.isAgg189
 z53:=Tryz.sizeOf189
 v53:=Tryz.zeroValue189
 t171:=Tryz.underlying188
 a171:=Tryz.isAgg188
 z171:=Tryz.sizeOf188
 v171:=Tryz.zeroValue188
 t173:=Tryz.underlying192
 a173:=Tryz.isAgg192
 z173:=Tryz.sizeOf192
 v173:=Tryz.zeroValue192
 t212:=Tryz.underlying213
 a212:=Tryz.isAgg213
 z212:=Tryz.sizeOf213
 v212:=Tryz.zeroValue213
 t213:=Tryz.underlying214
 a213:=Tryz.isAgg214
 z213:=Tryz.sizeOf214
 t232:=Tryz.underlying231
 a232:=Tryz.isAgg231
 z232:=Tryz.sizeOf231
 v232:=Tryz.zeroValue231
 t233:=Tryz.underlying232
 a233:=Tryz.isAgg232
 z233:=Tryz.sizeOf232
 v233:=Tryz.zeroValue232
 g17:=by kernel_rfl
 g18:=by kernel_rfl
 g19:=by kernel_rfl
 i0:=by kernel_rfl
 i2:=by kernel_rfl
 i3:=by kernel_rfl
 i4:=by kernel_rfl
 i5:=by kernel_rfl
 i9:=by kernel_rfl
 i20:=by kernel_rfl
 i37:=by kernel_rfl
 i46:=by kernel_rfl
 i51:=by kernel_rfl
 i53:=by kernel_rfl
 i171:=by kernel_rfl
 i173:=by kernel_rfl
 i212:=by kernel_rfl
 i232:=by kernel_rfl
 i233:=by kernel_rfl
 m17:=by kernel_rfl
 m18:=by kernel_rfl
 m19:=by kernel_rfl }
open Go.RowKit Go.Sort Go.Lib in
theorem zix(n : Int)(h0 : -9223372036854775808 ≤ n)(h1 : n ≤ 9223372036854775807)(w : World)(htab : Lib.TabIs Tp w "internal/strconv.uint64pow10" .u64 Lib.pow10Tab):
  Calls Tp 97 #[.int .i64 n] w λe w'=>e=.returned (.string ⟨(Lib.itoa n).toArray⟩)/\∃k os,w'=grow (w.drewN k) os:=Any.strconv_Itoa zva n h0 h1 w htab
def ziy:Go.Shelf.Ren:=⟨fun|172=>173|244=>203|245=>179|247=>178|279=>209|280=>210|281=>211|282=>212|287=>208|316=>229|171=>97|205=>230|321=>227|322=>228|243=>129|246=>153|283=>186|284=>187|285=>188|286=>189|129=>217|317=>216|318=>218|319=>219|320=>220|337=>234|338=>235|n=>n,fun|9=>9|3=>3|75=>129|76=>131|4=>4|5=>5|167=>205|37=>99|0=>0|85=>151|2=>2|168=>208|53=>189|175=>206|46=>176|210=>222|127=>154|145=>229|143=>227|21=>21|171=>188|173=>192|212=>213|51=>200|20=>20|213=>214|232=>231|233=>232|80=>134|n=>n,fun|15=>4|16=>5|17=>3|18=>6|19=>7|n=>n⟩
theorem zd0:Go.Proofs.LaysC.n172 Tp ziy:={
 mixed:=by kernel_rfl
 f129:=LF Tryz.func217
 f171:=LF Tryz.func97
 f172:=LF Tryz.func173
 f205:=LF Tryz.func230
 f243:=LF Tryz.func129
 f244:=LF Tryz.func203
 f245:=LF Tryz.func179
 f246:=LF Tryz.func153
 f247:=LF Tryz.func178
 f279:=LF Tryz.func209
 f280:=LF Tryz.func210
 f281:=LF Tryz.func211
 f282:=LF Tryz.func212
 f283:=LF Tryz.func186
 f284:=LF Tryz.func187
 f285:=LF Tryz.func188
 f286:=LF Tryz.func189
 f287:=LF Tryz.func208
 f316:=LF Tryz.func229
 f317:=LF Tryz.func216
 f318:=LF Tryz.func218
 f319:=LF Tryz.func219
 f320:=LF Tryz.func220
 f321:=LF Tryz.func227
 f322:=LF Tryz.func228
 f337:=LF Tryz.func234
 f338:=LF Tryz.func235
 t0:=BI
 a0:=Cv
 z0:=Cn
 v0:=BO
 t2:=Tryz.underlying2
 a2:=Tryz.isAgg2
 z2:=Tryz.sizeOf2
 v2:=Tryz.zeroValue2
 t3:=Bh
 a3:=BU
 z3:=BP
 v3:=Bq
 t4:=Bn
 a4:=Cf
 z4:=BW
 v4:=BF
 t5:=Bo
 a5:=B7
 z5:=BS
 v5:=Bz
 t9:=A9
 a9:=BV
 z9:=BQ
 v9:=Br
 t20:=DW
 a20:=ET
 z20:=EL
 v20:=Ea
 t21:=Co
 a21:=Dg
 z21:=CZ
 v21:=Cw
 t37:=Dh
 a37:=Ez
 z37:=Ee
 v37:=Dp
 t46:=BG
 a46:=Cj
 z46:=BZ
 v46:=BK
 t51:=Cs
 a51:=Dk
 z51:=C6
 v51:=CE
 t53:=Tryz.underlying189
 a53:=Tryz.isAgg189
 z53:=Tryz.sizeOf189
 v53:=Tryz.zeroValue189
 t75:=C7
 a75:=Tryz.isAgg129
 z75:=Tryz.sizeOf129
 v75:=Tryz.zeroValue129
 t76:=Tryz.underlying131
 a76:=Tryz.isAgg131
 z76:=Tryz.sizeOf131
 v76:=Tryz.zeroValue131
 t85:=Tryz.underlying151
 a85:=Tryz.isAgg151
 z85:=Tryz.sizeOf151
 v85:=Tryz.zeroValue151
 t127:=DD
 a127:=EM
 z127:=EA
 v127:=DX
 t143:=Tryz.underlying227
 a143:=Tryz.isAgg227
 z143:=Tryz.sizeOf227
 v143:=Tryz.zeroValue227
 t145:=Tryz.underlying229
 a145:=Tryz.isAgg229
 z145:=Tryz.sizeOf229
 v145:=Tryz.zeroValue229
 t167:=Tryz.underlying205
 a167:=Tryz.isAgg205
 z167:=Tryz.sizeOf205
 v167:=Tryz.zeroValue205
 t168:=Tryz.underlying208
 a168:=Tryz.isAgg208
 z168:=Tryz.sizeOf208
 v168:=Tryz.zeroValue208
 t171:=Tryz.underlying188
 a171:=Tryz.isAgg188
 z171:=Tryz.sizeOf188
 v171:=Tryz.zeroValue188
 t173:=Tryz.underlying192
 a173:=Tryz.isAgg192
 z173:=Tryz.sizeOf192
 v173:=Tryz.zeroValue192
 t175:=Tryz.underlying206
 a175:=Tryz.isAgg206
 z175:=Tryz.sizeOf206
 v175:=Tryz.zeroValue206
 t210:=Tryz.underlying222
 a210:=Tryz.isAgg222
 z210:=Tryz.sizeOf222
 v210:=Tryz.zeroValue222
 t212:=Tryz.underlying213
 a212:=Tryz.isAgg213
 z212:=Tryz.sizeOf213
 v212:=Tryz.zeroValue213
 t213:=Tryz.underlying214
 a213:=Tryz.isAgg214
 z213:=Tryz.sizeOf214
 t232:=Tryz.underlying231
 a232:=Tryz.isAgg231
 z232:=Tryz.sizeOf231
 v232:=Tryz.zeroValue231
 t233:=Tryz.underlying232
 a233:=Tryz.isAgg232
 z233:=Tryz.sizeOf232
 v233:=Tryz.zeroValue232
 g15:=by kernel_rfl
 g16:=by kernel_rfl
 g17:=by kernel_rfl
 g18:=by kernel_rfl
 g19:=by kernel_rfl
 t80:=Tryz.underlying134
 a80:=Tryz.isAgg134
 z80:=Tryz.sizeOf134
 v80:=Tryz.zeroValue134
 i0:=by kernel_rfl
 i2:=by kernel_rfl
 i3:=by kernel_rfl
 i4:=by kernel_rfl
 i5:=by kernel_rfl
 i9:=by kernel_rfl
 i20:=by kernel_rfl
 i21:=by kernel_rfl
 i37:=by kernel_rfl
 i46:=by kernel_rfl
 i51:=by kernel_rfl
 i53:=by kernel_rfl
 i75:=by kernel_rfl
 i76:=by kernel_rfl
 i80:=by kernel_rfl
 i85:=by kernel_rfl
 i127:=by kernel_rfl
 i143:=by kernel_rfl
 i145:=by kernel_rfl
 i167:=by kernel_rfl
 i168:=by kernel_rfl
 i171:=by kernel_rfl
 i173:=by kernel_rfl
 i175:=by kernel_rfl
 i210:=by kernel_rfl
 i212:=by kernel_rfl
 i232:=by kernel_rfl
 i233:=by kernel_rfl
 m15:=by kernel_rfl
 m16:=by kernel_rfl
 m17:=by kernel_rfl
 m18:=by kernel_rfl
 m19:=by kernel_rfl
 c0:=by kernel_rfl
 c2:=by kernel_rfl
 c3:=by kernel_rfl
 c4:=by kernel_rfl
 c5:=by kernel_rfl
 c9:=by kernel_rfl
 c20:=by kernel_rfl
 c21:=by kernel_rfl
 c37:=by kernel_rfl
 c46:=by kernel_rfl
 c51:=by kernel_rfl
 c53:=by kernel_rfl
 c75:=by kernel_rfl
 c76:=by kernel_rfl
 c80:=by kernel_rfl
 c85:=by kernel_rfl
 c127:=by kernel_rfl
 c143:=by kernel_rfl
 c145:=by kernel_rfl
 c167:=by kernel_rfl
 c168:=by kernel_rfl
 c171:=by kernel_rfl
 c173:=by kernel_rfl
 c175:=by kernel_rfl
 c210:=by kernel_rfl
 c212:=by kernel_rfl
 c213:=by kernel_rfl
 c232:=by kernel_rfl
 c233:=by kernel_rfl }
theorem zd1(s:Bt)(O:s.size<=9223372036854775806)(v:Int)(h:Lib.atoiAll s.data.toList=.ok v)(w:World):
  Calls Tp 173 #[.string s] w λe w'=>e=.returned (.tuple #[.int .i64 v,.nilIface])/\(w'=w\/∃t,w'=Lib.bytesWorld w 5 t):=Any.strconv_Atoi_ok zd0 s O v h w
theorem Xd(s:Bt)(O:s.size<=281474976710656)(h:Lib.atoiAll s.data.toList=Lib.atoiAll [])(ev:Value)(w:World)(hv:w.cell? ⟨4,0,none⟩=some ev)(Z:ev=.nilIface\/∃te pe,ev=.iface te pe):
  Calls Tp 173 #[.string s] w λe w'=>∃N,e=.returned (.tuple #[.int .i64 (0),.iface 208 (.pointer (some ⟨N,0,none⟩))])/\w.heap.size<=N/\w'.heap[N]?=some (.cells #[.string ⟨#[65,116,111,105]⟩,.string s,ev] 222 (0,0))/\Below w.heap.size w w':=Any.strconv_Atoi_syntax zd0 s O h ev w hv Z
theorem zae(s:Bt)(O:s.size<=281474976710656)(h:Lib.atoiAll s.data.toList=.range)(ev:Value)(w:World)(hv:w.cell? ⟨5,0,none⟩=some ev)(Z:ev=.nilIface\/∃te pe,ev=.iface te pe):
  Calls Tp 173 #[.string s] w λe w'=>∃N,e=.returned (.tuple #[.int .i64 (Lib.atoiSat s.data.toList),.iface 208 (.pointer (some ⟨N,0,none⟩))])/\w.heap.size<=N/\w'.heap[N]?=some (.cells #[.string ⟨#[65,116,111,105]⟩,.string s,ev] 222 (0,0))/\Below w.heap.size w w':=Any.strconv_Atoi_range zd0 s O h ev w hv Z
def ziz:Go.Shelf.Ren:=⟨fun|174=>147|247=>178|245=>179|287=>208|279=>209|280=>210|281=>211|282=>212|321=>227|322=>228|316=>229|171=>97|205=>230|243=>129|246=>153|283=>186|284=>187|285=>188|286=>189|129=>217|317=>216|318=>218|319=>219|320=>220|337=>234|338=>235|n=>n,fun|9=>9|3=>3|2=>2|75=>129|85=>151|4=>4|167=>205|5=>5|53=>189|175=>206|46=>176|168=>208|37=>99|0=>0|210=>222|21=>21|127=>154|145=>229|143=>227|171=>188|173=>192|212=>213|51=>200|20=>20|213=>214|232=>231|233=>232|80=>134|n=>n,fun|15=>4|16=>5|17=>3|18=>6|19=>7|n=>n⟩
theorem zd2:Go.Proofs.LaysC.n174 Tp ziz:={
 mixed:=by kernel_rfl
 f129:=LF Tryz.func217
 f171:=LF Tryz.func97
 f174:=LF Tryz.func147
 f205:=LF Tryz.func230
 f243:=LF Tryz.func129
 f245:=LF Tryz.func179
 f246:=LF Tryz.func153
 f247:=LF Tryz.func178
 f279:=LF Tryz.func209
 f280:=LF Tryz.func210
 f281:=LF Tryz.func211
 f282:=LF Tryz.func212
 f283:=LF Tryz.func186
 f284:=LF Tryz.func187
 f285:=LF Tryz.func188
 f286:=LF Tryz.func189
 f287:=LF Tryz.func208
 f316:=LF Tryz.func229
 f317:=LF Tryz.func216
 f318:=LF Tryz.func218
 f319:=LF Tryz.func219
 f320:=LF Tryz.func220
 f321:=LF Tryz.func227
 f322:=LF Tryz.func228
 f337:=LF Tryz.func234
 f338:=LF Tryz.func235
 t0:=BI
 a0:=Cv
 z0:=Cn
 v0:=BO
 t2:=Tryz.underlying2
 a2:=Tryz.isAgg2
 z2:=Tryz.sizeOf2
 v2:=Tryz.zeroValue2
 t3:=Bh
 a3:=BU
 z3:=BP
 v3:=Bq
 t4:=Bn
 a4:=Cf
 z4:=BW
 v4:=BF
 t5:=Bo
 a5:=B7
 z5:=BS
 v5:=Bz
 t9:=A9
 a9:=BV
 z9:=BQ
 v9:=Br
 t20:=DW
 a20:=ET
 z20:=EL
 v20:=Ea
 t21:=Co
 a21:=Dg
 z21:=CZ
 v21:=Cw
 t37:=Dh
 a37:=Ez
 z37:=Ee
 v37:=Dp
 t46:=BG
 a46:=Cj
 z46:=BZ
 v46:=BK
 t51:=Cs
 a51:=Dk
 z51:=C6
 v51:=CE
 t53:=Tryz.underlying189
 a53:=Tryz.isAgg189
 z53:=Tryz.sizeOf189
 v53:=Tryz.zeroValue189
 t75:=C7
 a75:=Tryz.isAgg129
 z75:=Tryz.sizeOf129
 v75:=Tryz.zeroValue129
 t85:=Tryz.underlying151
 a85:=Tryz.isAgg151
 z85:=Tryz.sizeOf151
 v85:=Tryz.zeroValue151
 t127:=DD
 a127:=EM
 z127:=EA
 v127:=DX
 t143:=Tryz.underlying227
 a143:=Tryz.isAgg227
 z143:=Tryz.sizeOf227
 v143:=Tryz.zeroValue227
 t145:=Tryz.underlying229
 a145:=Tryz.isAgg229
 z145:=Tryz.sizeOf229
 v145:=Tryz.zeroValue229
 t167:=Tryz.underlying205
 a167:=Tryz.isAgg205
 z167:=Tryz.sizeOf205
 v167:=Tryz.zeroValue205
 t168:=Tryz.underlying208
 a168:=Tryz.isAgg208
 z168:=Tryz.sizeOf208
 v168:=Tryz.zeroValue208
 t171:=Tryz.underlying188
 a171:=Tryz.isAgg188
 z171:=Tryz.sizeOf188
 v171:=Tryz.zeroValue188
 t173:=Tryz.underlying192
 a173:=Tryz.isAgg192
 z173:=Tryz.sizeOf192
 v173:=Tryz.zeroValue192
 t175:=Tryz.underlying206
 a175:=Tryz.isAgg206
 z175:=Tryz.sizeOf206
 v175:=Tryz.zeroValue206
 t210:=Tryz.underlying222
 a210:=Tryz.isAgg222
 z210:=Tryz.sizeOf222
 v210:=Tryz.zeroValue222
 t212:=Tryz.underlying213
 a212:=Tryz.isAgg213
 z212:=Tryz.sizeOf213
 v212:=Tryz.zeroValue213
 t213:=Tryz.underlying214
 a213:=Tryz.isAgg214
 z213:=Tryz.sizeOf214
 t232:=Tryz.underlying231
 a232:=Tryz.isAgg231
 z232:=Tryz.sizeOf231
 v232:=Tryz.zeroValue231
 t233:=Tryz.underlying232
 a233:=Tryz.isAgg232
 z233:=Tryz.sizeOf232
 v233:=Tryz.zeroValue232
 g15:=by kernel_rfl
 g16:=by kernel_rfl
 g17:=by kernel_rfl
 g18:=by kernel_rfl
 g19:=by kernel_rfl
 t80:=Tryz.underlying134
 a80:=Tryz.isAgg134
 z80:=Tryz.sizeOf134
 v80:=Tryz.zeroValue134
 i0:=by kernel_rfl
 i2:=by kernel_rfl
 i3:=by kernel_rfl
 i4:=by kernel_rfl
 i5:=by kernel_rfl
 i9:=by kernel_rfl
 i20:=by kernel_rfl
 i21:=by kernel_rfl
 i37:=by kernel_rfl
 i46:=by kernel_rfl
 i51:=by kernel_rfl
 i53:=by kernel_rfl
 i75:=by kernel_rfl
 i80:=by kernel_rfl
 i85:=by kernel_rfl
 i127:=by kernel_rfl
 i143:=by kernel_rfl
 i145:=by kernel_rfl
 i167:=by kernel_rfl
 i168:=by kernel_rfl
 i171:=by kernel_rfl
 i173:=by kernel_rfl
 i175:=by kernel_rfl
 i210:=by kernel_rfl
 i212:=by kernel_rfl
 i232:=by kernel_rfl
 i233:=by kernel_rfl
 m15:=by kernel_rfl
 m16:=by kernel_rfl
 m17:=by kernel_rfl
 m18:=by kernel_rfl
 m19:=by kernel_rfl
 c0:=by kernel_rfl
 c2:=by kernel_rfl
 c3:=by kernel_rfl
 c4:=by kernel_rfl
 c5:=by kernel_rfl
 c9:=by kernel_rfl
 c20:=by kernel_rfl
 c21:=by kernel_rfl
 c37:=by kernel_rfl
 c46:=by kernel_rfl
 c51:=by kernel_rfl
 c53:=by kernel_rfl
 c75:=by kernel_rfl
 c80:=by kernel_rfl
 c85:=by kernel_rfl
 c127:=by kernel_rfl
 c143:=by kernel_rfl
 c145:=by kernel_rfl
 c167:=by kernel_rfl
 c168:=by kernel_rfl
 c171:=by kernel_rfl
 c173:=by kernel_rfl
 c175:=by kernel_rfl
 c210:=by kernel_rfl
 c212:=by kernel_rfl
 c213:=by kernel_rfl
 c232:=by kernel_rfl
 c233:=by kernel_rfl }
theorem Z7(s:Bt)(O:s.size<=9223372036854775806)(v:Int)(h:Lib.parseIntB 64 s.data.toList=.ok v)(w:World):
  Calls Tp 147 #[.string s,.int .i64 10,.int .i64 64] w λe w'=>e=.returned (.tuple #[.int .i64 v,.nilIface])/\(w'=w\/∃t,w'=Lib.bytesWorld w 5 t):=Any.strconv_ParseInt_10_at64_ok zd2 s O v h w
theorem Zd(s:Bt)(O:s.size<=281474976710656)(h:Lib.parseIntB 64 s.data.toList=Lib.parseIntB 64 [])(ev:Value)(w:World)(hv:w.cell? ⟨4,0,none⟩=some ev)(Z:ev=.nilIface\/∃te pe,ev=.iface te pe):
  Calls Tp 147 #[.string s,.int .i64 10,.int .i64 64] w λe w'=>∃N,e=.returned (.tuple #[.int .i64 (0),.iface 208 (.pointer (some ⟨N,0,none⟩))])/\w.heap.size<=N/\w'.heap[N]?=some (.cells #[.string ⟨#[80,97,114,115,101,73,110,116]⟩,.string s,ev] 222 (0,0))/\Below w.heap.size w w':=Any.strconv_ParseInt_10_at64_syntax zd2 s O h ev w hv Z
theorem Zi(s:Bt)(O:s.size<=281474976710656)(h:Lib.parseIntB 64 s.data.toList=.range)(ev:Value)(w:World)(hv:w.cell? ⟨5,0,none⟩=some ev)(Z:ev=.nilIface\/∃te pe,ev=.iface te pe):
  Calls Tp 147 #[.string s,.int .i64 10,.int .i64 64] w λe w'=>∃N,e=.returned (.tuple #[.int .i64 (Lib.intSat 64 s.data.toList),.iface 208 (.pointer (some ⟨N,0,none⟩))])/\w.heap.size<=N/\w'.heap[N]?=some (.cells #[.string ⟨#[80,97,114,115,101,73,110,116]⟩,.string s,ev] 222 (0,0))/\Below w.heap.size w w':=Any.strconv_ParseInt_10_at64_range zd2 s O h ev w hv Z
def zlz:Go.Shelf.Ren:=⟨fun|145=>182|220=>214|219=>213|217=>221|225=>231|224=>232|267=>233|266=>236|314=>239|n=>n,fun|9=>9|4=>4|59=>159|3=>3|5=>5|46=>176|146=>201|51=>200|n=>n,fun|1=>2|n=>n⟩
theorem zx8:Go.Proofs.Lays.n145 Tp zlz:={
 mixed:=by kernel_rfl
 f145:=LF Tryz.func182
 f217:=LF De
 f219:=LF Tryz.func213
 f220:=LF Tryz.func214
 f224:=LF Dv
 f225:=LF Dw
 f266:=LF Df
 f267:=LF Tryz.func233
 f314:=LF Tryz.func239
 t3:=Bh
 a3:=BU
 z3:=BP
 v3:=Bq
 t4:=Bn
 a4:=Cf
 z4:=BW
 v4:=BF
 t5:=Bo
 a5:=B7
 z5:=BS
 v5:=Bz
 t9:=A9
 a9:=BV
 z9:=BQ
 v9:=Br
 t46:=BG
 a46:=Cj
 z46:=BZ
 v46:=BK
 t51:=Cs
 a51:=Dk
 z51:=C6
 v51:=CE
 t59:=Tryz.underlying159
 a59:=Tryz.isAgg159
 z59:=Tryz.sizeOf159
 v59:=Tryz.zeroValue159
 t146:=DF
 a146:=EN
 z146:=EB
 v146:=DY
 g1:=by kernel_rfl }
open Go.RowKit Go.Lib in
theorem zl0(s sep:Bt)(m:Int)(w:World)(hs:s.size<4294967281)(hm:w.cell? ⟨2,0,none⟩=some (.int .i64 m)):
  Calls Tp 182 #[.string s,.string sep] w λe w'=>e=.returned (.tuple #[.string ⟨(Lib.cut s.data.toList sep.data.toList).1.toArray⟩,.string ⟨(Lib.cut s.data.toList sep.data.toList).2.1.toArray⟩,.bool (Lib.cut s.data.toList sep.data.toList).2.2])/\∃n,w'=w.drewN n:=Any.strings_Cut zx8 s sep m w hs hm
def zl1:Go.Shelf.Ren:=⟨fun|138=>151|195=>183|218=>184|143=>181|219=>213|217=>221|225=>231|224=>232|267=>233|266=>236|314=>239|n=>n,fun|9=>9|3=>3|4=>4|5=>5|0=>0|46=>176|146=>201|51=>200|n=>n,fun|1=>2|n=>n⟩
theorem zx9:Go.Proofs.Lays.n138 Tp zl1:={
 mixed:=by kernel_rfl
 f138:=LF Tryz.func151
 f143:=LF Tryz.func181
 f195:=LF Tryz.func183
 f217:=LF De
 f218:=LF Tryz.func184
 f219:=LF Tryz.func213
 f224:=LF Dv
 f225:=LF Dw
 f266:=LF Df
 f267:=LF Tryz.func233
 f314:=LF Tryz.func239
 t0:=BI
 a0:=Cv
 z0:=Cn
 v0:=BO
 t3:=Bh
 a3:=BU
 z3:=BP
 v3:=Bq
 t4:=Bn
 a4:=Cf
 z4:=BW
 v4:=BF
 t5:=Bo
 a5:=B7
 z5:=BS
 v5:=Bz
 t9:=A9
 a9:=BV
 z9:=BQ
 v9:=Br
 t46:=BG
 a46:=Cj
 z46:=BZ
 v46:=BK
 t51:=Cs
 a51:=Dk
 z51:=C6
 v51:=CE
 t146:=DF
 a146:=EN
 z146:=EB
 v146:=DY
 g1:=by kernel_rfl }
def zl2:Go.Shelf.Ren:=⟨fun|101=>156|208=>192|206=>206|n=>n,fun|9=>9|4=>4|3=>3|n=>n,fun|n=>n⟩
theorem zya:Go.Proofs.Lays.n101 Tp zl2:={
 mixed:=by kernel_rfl
 f101:=LF Tryz.func156
 f206:=LF Tryz.func206
 f208:=LF Tryz.func192
 t3:=Bh
 a3:=BU
 z3:=BP
 v3:=Bq
 t4:=Bn
 a4:=Cf
 z4:=BW
 v4:=BF
 t9:=A9
 a9:=BV
 z9:=BQ
 v9:=Br }
open Go.RowKit Go.Lib in
theorem zaf(s p:Bt)(w:World):
  Calls Tp 156 #[.string s,.string p] w λe w'=>e=.returned (.string ⟨(Lib.trimPrefix s.data.toList p.data.toList).toArray⟩)/\w'=w:=Any.strings_TrimPrefix zya s p w
open Go.RowKit Go.Lib in
theorem zbe(s sep:Bt)(m:Int)(w:World)(hs:s.size<4294967281)(hm:w.cell? ⟨2,0,none⟩=some (.int .i64 m))(h1:1<=sep.size):
  Calls Tp 151 #[.string s,.string sep] w λe w'=>e=.returned (.int .i64 (Lib.countB s sep))/\w'=w:=Any.strings_Count_any zx9 s sep m w hs hm h1
def zl3:Go.Shelf.Ren:=⟨fun|146=>152|221=>185|268=>215|138=>151|143=>181|195=>183|197=>142|218=>184|219=>213|260=>171|217=>221|225=>231|224=>232|267=>233|266=>236|314=>239|n=>n,fun|9=>9|31=>22|3=>3|4=>4|0=>0|105=>119|21=>21|5=>5|46=>176|119=>172|139=>175|138=>174|146=>201|51=>200|n=>n,fun|1=>2|3=>0|4=>1|n=>n⟩
theorem zyb:Go.Proofs.Lays.n146 Tp zl3:={
 mixed:=by kernel_rfl
 f138:=LF Tryz.func151
 f143:=LF Tryz.func181
 f146:=LF Tryz.func152
 f195:=LF Tryz.func183
 f197:=LF ER
 f217:=LF De
 f218:=LF Tryz.func184
 f219:=LF Tryz.func213
 f221:=LF Tryz.func185
 f224:=LF Dv
 f225:=LF Dw
 f260:=LF ES
 f266:=LF Df
 f267:=LF Tryz.func233
 f268:=LF Tryz.func215
 f314:=LF Tryz.func239
 t0:=BI
 a0:=Cv
 z0:=Cn
 v0:=BO
 t3:=Bh
 a3:=BU
 z3:=BP
 v3:=Bq
 t4:=Bn
 a4:=Cf
 z4:=BW
 v4:=BF
 t5:=Bo
 a5:=B7
 z5:=BS
 v5:=Bz
 t9:=A9
 a9:=BV
 z9:=BQ
 v9:=Br
 t21:=Co
 a21:=Dg
 z21:=CZ
 v21:=Cw
 t31:=Tryz.underlying22
 a31:=Tryz.isAgg22
 z31:=Tryz.sizeOf22
 v31:=Tryz.zeroValue22
 t46:=BG
 a46:=Cj
 z46:=BZ
 v46:=BK
 t51:=Cs
 a51:=Dk
 z51:=C6
 v51:=CE
 t105:=Dx
 a105:=EH
 z105:=Ev
 v105:=DT
 t119:=Dz
 a119:=EI
 z119:=Ew
 t138:=C5
 a138:=EJ
 z138:=Ex
 v138:=DU
 t139:=DC
 a139:=EK
 z139:=Ey
 v139:=DV
 t146:=DF
 a146:=EN
 z146:=EB
 v146:=DY
 g1:=by kernel_rfl
 g3:=by kernel_rfl
 g4:=by kernel_rfl }
open Go.RowKit Go.Lib in
theorem zha(s sep:Bt)(m:Int)(w:World)(hs:s.size<4294967281)(hm:w.cell? ⟨2,0,none⟩=some (.int .i64 m))(h1:1<=sep.size):
  Calls Tp 152 #[.string s,.string sep] w λe w'=>
   e=.returned (.slice (some ⟨w.heap.size,0,none⟩) (Lib.countB s sep+1) (Lib.countB s sep+1))/\w'=w.alloc (.cells ((Lib.splitB sep 0 (Lib.countB s sep) s).map AW).toArray 9):=Any.strings_Split zyb (by kernel_rfl) s sep m w hs hm h1
def zcu:Go.Shelf.Ren:=⟨fun|155=>122|154=>149|138=>151|165=>176|143=>181|166=>121|197=>142|169=>123|195=>183|218=>184|240=>148|241=>207|219=>213|260=>171|276=>180|277=>226|217=>221|225=>231|224=>232|267=>233|266=>236|314=>239|n=>n,fun|9=>9|3=>3|4=>4|72=>127|0=>0|76=>131|105=>119|21=>21|5=>5|70=>125|20=>20|37=>99|75=>129|127=>154|164=>183|46=>176|119=>172|139=>175|138=>174|146=>201|51=>200|80=>134|n=>n,fun|1=>2|3=>0|4=>1|n=>n⟩
theorem zyc:Go.Proofs.Lays.n155 Tp zcu:={
 mixed:=by kernel_rfl
 f138:=LF Tryz.func151
 f143:=LF Tryz.func181
 f154:=LF Tryz.func149
 f155:=LF Tryz.func122
 f165:=LF Tryz.func176
 f166:=LF Tryz.func121
 f169:=LF Tryz.func123
 f195:=LF Tryz.func183
 f197:=LF ER
 f217:=LF De
 f218:=LF Tryz.func184
 f219:=LF Tryz.func213
 f224:=LF Dv
 f225:=LF Dw
 f240:=LF Tryz.func148
 f241:=LF Tryz.func207
 f260:=LF ES
 f266:=LF Df
 f267:=LF Tryz.func233
 f276:=LF Tryz.func180
 f277:=LF Tryz.func226
 f314:=LF Tryz.func239
 t0:=BI
 a0:=Cv
 z0:=Cn
 v0:=BO
 t3:=Bh
 a3:=BU
 z3:=BP
 v3:=Bq
 t4:=Bn
 a4:=Cf
 z4:=BW
 v4:=BF
 t5:=Bo
 a5:=B7
 z5:=BS
 v5:=Bz
 t9:=A9
 a9:=BV
 z9:=BQ
 v9:=Br
 t20:=DW
 a20:=ET
 z20:=EL
 v20:=Ea
 t21:=Co
 a21:=Dg
 z21:=CZ
 v21:=Cw
 t37:=Dh
 a37:=Ez
 z37:=Ee
 v37:=Dp
 t46:=BG
 a46:=Cj
 z46:=BZ
 v46:=BK
 t51:=Cs
 a51:=Dk
 z51:=C6
 v51:=CE
 t70:=Tryz.underlying125
 a70:=Tryz.isAgg125
 z70:=Tryz.sizeOf125
 v70:=Tryz.zeroValue125
 t72:=Tryz.underlying127
 a72:=Tryz.isAgg127
 z72:=Tryz.sizeOf127
 v72:=Tryz.zeroValue127
 t75:=C7
 a75:=Tryz.isAgg129
 z75:=Tryz.sizeOf129
 v75:=Tryz.zeroValue129
 t76:=Tryz.underlying131
 a76:=Tryz.isAgg131
 z76:=Tryz.sizeOf131
 v76:=Tryz.zeroValue131
 t105:=Dx
 a105:=EH
 z105:=Ev
 v105:=DT
 t119:=Dz
 a119:=EI
 z119:=Ew
 t127:=DD
 a127:=EM
 z127:=EA
 v127:=DX
 t138:=C5
 a138:=EJ
 z138:=Ex
 v138:=DU
 t139:=DC
 a139:=EK
 z139:=Ey
 v139:=DV
 t146:=DF
 a146:=EN
 z146:=EB
 v146:=DY
 t164:=Tryz.underlying183
 a164:=Tryz.isAgg183
 z164:=Tryz.sizeOf183
 v164:=Tryz.zeroValue183
 g1:=by kernel_rfl
 g3:=by kernel_rfl
 g4:=by kernel_rfl }
theorem zbf:Builder.Extra Tp zcu:={
 sizeBuilder:=by kernel_rfl
 liesBuilder:=by kernel_rfl
 t5:=Bo
 a5:=B7
 z5:=BS
 v5:=Bz
 infoByte:=by kernel_rfl
 cellsByte:=by kernel_rfl
 sizeByte:=by kernel_rfl
 neB5:=by decide }
open Go.RowKit Go.Lib in
theorem zag(s old new:Bt)(m:Int)(w:World)(hs:s.size<4294967281)(hm:w.cell? ⟨2,0,none⟩=some (.int .i64 m))(h1:1<=old.size)(O:s.size+Lib.countB s old*new.size<=140737488355328):
  Calls Tp 122 #[.string s,.string old,.string new] w λe w'=>
   e=.returned (.string ⟨(Lib.replaceAll s.data.toList old.data.toList new.data.toList).toArray⟩)/\Below w.heap.size w w':=Any.strings_ReplaceAll zyc zbf s old new m w hs hm h1 O
def zl4:Go.Shelf.Ren:=⟨fun|197=>142|260=>171|n=>n,fun|9=>9|21=>21|3=>3|4=>4|5=>5|105=>119|119=>172|0=>0|46=>176|139=>175|138=>174|n=>n,fun|3=>0|4=>1|n=>n⟩
theorem zyd:Go.Proofs.Lays.n197 Tp zl4:={
 mixed:=by kernel_rfl
 f197:=LF ER
 f260:=LF ES
 t0:=BI
 a0:=Cv
 z0:=Cn
 v0:=BO
 t3:=Bh
 a3:=BU
 z3:=BP
 v3:=Bq
 t4:=Bn
 a4:=Cf
 z4:=BW
 v4:=BF
 t5:=Bo
 a5:=B7
 z5:=BS
 v5:=Bz
 t9:=A9
 a9:=BV
 z9:=BQ
 v9:=Br
 t21:=Co
 a21:=Dg
 z21:=CZ
 v21:=Cw
 t46:=BG
 a46:=Cj
 z46:=BZ
 v46:=BK
 t105:=Dx
 a105:=EH
 z105:=Ev
 v105:=DT
 t119:=Dz
 a119:=EI
 z119:=Ew
 t138:=C5
 a138:=EJ
 z138:=Ex
 v138:=DU
 t139:=DC
 a139:=EK
 z139:=Ey
 v139:=DV
 g3:=by kernel_rfl
 g4:=by kernel_rfl }
def zl5:Go.Shelf.Ren:=⟨fun|150=>172|153=>202|152=>222|226=>225|227=>158|228=>193|137=>191|119=>237|224=>232|225=>231|217=>221|266=>236|n=>n,fun|9=>9|4=>4|3=>3|5=>5|21=>21|117=>164|116=>163|0=>0|46=>176|124=>167|n=>n,fun|n=>n⟩
theorem zye:Go.Proofs.Lays.n150 Tp zl5:={
 mixed:=by kernel_rfl
 f119:=LF Es
 f137:=LF Et
 f150:=LF Tryz.func172
 f152:=LF Eu
 f153:=LF Tryz.func202
 f217:=LF De
 f224:=LF Dv
 f225:=LF Dw
 f226:=LF Tryz.func225
 f227:=LF Tryz.func158
 f228:=LF Tryz.func193
 f266:=LF Df
 t0:=BI
 a0:=Cv
 z0:=Cn
 v0:=BO
 t3:=Bh
 a3:=BU
 z3:=BP
 v3:=Bq
 t4:=Bn
 a4:=Cf
 z4:=BW
 v4:=BF
 t5:=Bo
 a5:=B7
 z5:=BS
 v5:=Bz
 t9:=A9
 a9:=BV
 z9:=BQ
 v9:=Br
 t21:=Co
 a21:=Dg
 z21:=CZ
 v21:=Cw
 t46:=BG
 a46:=Cj
 z46:=BZ
 v46:=BK
 t116:=Tryz.underlying163
 a116:=Tryz.isAgg163
 z116:=Tryz.sizeOf163
 t117:=Tryz.underlying164
 a117:=Tryz.isAgg164
 z117:=Tryz.sizeOf164
 v117:=Tryz.zeroValue164
 t124:=Tryz.underlying167
 a124:=Tryz.isAgg167
 z124:=Tryz.sizeOf167
 v124:=Tryz.zeroValue167 }
open Go.RowKit Go.Lib in
theorem Q6(s O:Bt)(w:World)(hs:s.size<4294967281)(aa:O.size<4294967281)(Z:∀(j:Nat) b,s.data.toList[j]?=some b->b.toNat<128)(ac:∀(j:Nat) b,O.data.toList[j]?=some b->b.toNat<128):
  Calls Tp 172 #[.string s,.string O] w λe w'=>e=.returned (.bool (Lib.containsAny s.data.toList O.data.toList))/\Below w.heap.size w w':=Any.strings_ContainsAny_laid zye (by kernel_rfl) s O w hs aa Z ac
def zcv:Go.Shelf.Ren:=⟨fun|105=>146|212=>174|99=>175|165=>176|166=>121|170=>177|169=>123|263=>204|264=>205|206=>206|240=>148|241=>207|276=>180|277=>226|n=>n,fun|9=>9|3=>3|4=>4|20=>20|0=>0|46=>176|109=>178|5=>5|72=>127|76=>131|51=>200|146=>201|53=>189|148=>203|70=>125|37=>99|75=>129|127=>154|164=>183|80=>134|n=>n,fun|n=>n⟩
theorem zyf:Go.Proofs.Lays.n105 Tp zcv:={
 mixed:=by kernel_rfl
 f99:=LF Tryz.func175
 f105:=LF Tryz.func146
 f165:=LF Tryz.func176
 f166:=LF Tryz.func121
 f169:=LF Tryz.func123
 f170:=LF Tryz.func177
 f206:=LF Tryz.func206
 f212:=LF Tryz.func174
 f240:=LF Tryz.func148
 f241:=LF Tryz.func207
 f263:=LF Tryz.func204
 f264:=LF Tryz.func205
 f276:=LF Tryz.func180
 f277:=LF Tryz.func226
 t0:=BI
 a0:=Cv
 z0:=Cn
 v0:=BO
 t3:=Bh
 a3:=BU
 z3:=BP
 v3:=Bq
 t4:=Bn
 a4:=Cf
 z4:=BW
 v4:=BF
 t5:=Bo
 a5:=B7
 z5:=BS
 v5:=Bz
 t9:=A9
 a9:=BV
 z9:=BQ
 v9:=Br
 t20:=DW
 a20:=ET
 z20:=EL
 v20:=Ea
 t37:=Dh
 a37:=Ez
 z37:=Ee
 v37:=Dp
 t46:=BG
 a46:=Cj
 z46:=BZ
 v46:=BK
 t51:=Cs
 a51:=Dk
 z51:=C6
 v51:=CE
 t53:=Tryz.underlying189
 a53:=Tryz.isAgg189
 z53:=Tryz.sizeOf189
 v53:=Tryz.zeroValue189
 t70:=Tryz.underlying125
 a70:=Tryz.isAgg125
 z70:=Tryz.sizeOf125
 v70:=Tryz.zeroValue125
 t72:=Tryz.underlying127
 a72:=Tryz.isAgg127
 z72:=Tryz.sizeOf127
 v72:=Tryz.zeroValue127
 t75:=C7
 a75:=Tryz.isAgg129
 z75:=Tryz.sizeOf129
 v75:=Tryz.zeroValue129
 t76:=Tryz.underlying131
 a76:=Tryz.isAgg131
 z76:=Tryz.sizeOf131
 v76:=Tryz.zeroValue131
 t109:=Tryz.underlying178
 a109:=Tryz.isAgg178
 z109:=Tryz.sizeOf178
 v109:=Tryz.zeroValue178
 t127:=DD
 a127:=EM
 z127:=EA
 v127:=DX
 t146:=DF
 a146:=EN
 z146:=EB
 v146:=DY
 t148:=Tryz.underlying203
 a148:=Tryz.isAgg203
 z148:=Tryz.sizeOf203
 v148:=Tryz.zeroValue203
 t164:=Tryz.underlying183
 a164:=Tryz.isAgg183
 z164:=Tryz.sizeOf183
 v164:=Tryz.zeroValue183 }
theorem zbg:Builder.Extra Tp zcv:={
 sizeBuilder:=by kernel_rfl
 liesBuilder:=by kernel_rfl
 t5:=Bo
 a5:=B7
 z5:=BS
 v5:=Bz
 infoByte:=by kernel_rfl
 cellsByte:=by kernel_rfl
 sizeByte:=by kernel_rfl
 neB5:=by decide }
open Go.RowKit Go.Lib in
theorem ze7(s:Bt)(c:Nat)(w:World)(hc:c<=9223372036854775807)(O:s.size*c<=140737488355328):
  Calls Tp 146 #[.string s,.int .i64 c] w λe w'=>e=.returned (.string ⟨(Lib.repeatL s.data.toList c).toArray⟩)/\Below w.heap.size w w':=Any.strings_Repeat zyf zbg s c w hc O
open Go.RowKit Go.Lib in
theorem Yj(s:Bt)(w:World)(hT:Lib.Utf8Tabs 0 1 w):
  Calls Tp 142 #[.string s] w λe w'=>e=.returned (.tuple #[.int .i32 (Lib.decodeGo s).1,.int .i64 (Lib.decodeGo s).2])/\Below w.heap.size w w':=Any.utf8_DecodeRuneInString zyd s w hT
def zl6:Go.Shelf.Ren:=⟨fun|109=>144|n=>n,fun|31=>22|9=>9|3=>3|0=>0|4=>4|n=>n,fun|n=>n⟩
theorem zoo:Go.Proofs.Lays.n109 Tp zl6:={
 mixed:=by kernel_rfl
 f109:=LF Tryz.func144
 t0:=BI
 a0:=Cv
 z0:=Cn
 v0:=BO
 t3:=Bh
 a3:=BU
 z3:=BP
 v3:=Bq
 t4:=Bn
 a4:=Cf
 z4:=BW
 v4:=BF
 t9:=A9
 a9:=BV
 z9:=BQ
 v9:=Br
 t31:=Tryz.underlying22
 a31:=Tryz.isAgg22
 z31:=Tryz.sizeOf22
 v31:=Tryz.zeroValue22 }
open Go.Lib in
theorem Xe(b off n c:Nat)(zs:List Bt)(x:Bt)(w:World)(hz:n<=zs.length)(O:n<=9223372036854775807)(hc:∀j,j<zs.length->w.cell? ⟨b,off+j,none⟩=some (.string (zs.getD j ByteArray.empty))):
  Calls Tp 144 #[.slice (some ⟨b,off,none⟩) n c,.string x] w λe w'=>e=.returned (.int .i64 (Lib.idxOfS (zs.take n) x))/\w'=w:=Any.slices_Index_string zoo b off n c zs x w hz O hc
open Go.Lib in
theorem Qv(a:Option Addr)(c:Nat)(x:Bt)(w:World):
  Calls Tp 144 #[.slice a 0 c,.string x] w λe w'=>e=.returned (.int .i64 (Lib.idxOfS [] x))/\w'=w:=Any.slices_Index_string_empty zoo a c x w
end
end Go.X
end
section
namespace Go.X
open Go Go.X Go.Proofs Go.RowKit
section
variable {gl M:Fr} {R:Int -> Prop} {sep:Bt}
theorem Xf{s:Bt}{c:Int}(h:R (Lib.indexByte (lb s) c.toNat.toUInt8)):PC Tp gl 191 [Arg.mk .str s,Arg.mk (.int .u8) c] [.int .i64] R:=
 PC.of_same rfl (λ_=>zlo _ _) h λw _=>xj s c w
theorem zop{s p:Bt}{R:Bt×Bool->Prop}(h:R (bl (Lib.trimPrefix (lb s) (lb p)),Lib.hasPrefix (lb s) (lb p))):PC Tp gl 154 [Arg.mk .str s,Arg.mk .str p] [.str,.bool] R:=
 PC.of_same rfl (λM=>⟨[_,_],⟨_,_,rfl,rfl,_,rfl,rfl⟩,rfl⟩) h λw _=>zbd s p w
theorem zl7{s p:Bt}{R:Bt->Prop}(h:R (bl (Lib.trimPrefix (lb s) (lb p)))):PC Tp gl 156 [Arg.mk .str s,Arg.mk .str p] [.str] R:=
 PC.of_same rfl (λ_=>zdv _) h λw _=>zaf s p w
theorem zqk{s:Bt}{c:UInt8}(hc:c.toNat<128){R:Bt->Prop}(h:R (bl (Lib.trimLeftB (lb s) c))):PC Tp gl 131 [Arg.mk .str s,Arg.mk .str ⟨#[c]⟩] [.str] R:=
 PC.of_same rfl (λ_=>zdv _) h λw _=>We s c hc w
theorem zoq{s:Bt}{c:UInt8}(hc:c.toNat<128)(hs:s.size<=9223372036854775807){R:Bt->Prop}(h:R (bl (Lib.trimRightB (lb s) c))):PC Tp gl 132 [Arg.mk .str s,Arg.mk .str ⟨#[c]⟩] [.str] R:=
 PC.of_same rfl (λ_=>zdv _) h λw _=>J1 s c hc w hs
def zke(gl:Fr):Prop:=∃(cs:Array Value) (m:Int),gl 2=some cs/\cs[0]?=some (.int .i64 m)
theorem zbh(w:World)(n:Nat):Below w.heap.size w (w.drewN n):=⟨rfl,rfl,rfl,Ae _,λ_ _=>rfl⟩
theorem qak(hg:zke gl){s sep:Bt}(hs:s.size<4294967281){R:Bt×Bt×Bool->Prop}(h:R (bl (Lib.cut (lb s) (lb sep)).1,bl (Lib.cut (lb s) (lb sep)).2.1,(Lib.cut (lb s) (lb sep)).2.2)):PC Tp gl 182 [Arg.mk .str s,Arg.mk .str sep] [.str,.str,.bool] R:=by
 obtain⟨cs,m,h1,h2⟩:=hg
 exact PC.of_scal rfl (λM=>⟨[_,_,_],⟨_,_,rfl,rfl,_,_,rfl,rfl,_,rfl,rfl⟩,rfl⟩) h λw hw=>(zl0 s sep m w hs (hw.glob h1 h2)).mono λe w' ⟨he,n,hn⟩=>⟨he,hn ▸ zbh w n⟩
theorem z2d(hg:zke gl){s sep:Bt}(hs:s.size<4294967281)(O:1<=sep.size)(h:R (Lib.countB s sep:Int)):PC Tp gl 151 [Arg.mk .str s,Arg.mk .str sep] [.int .i64] R:=by
 obtain⟨cs,m,h1,h2⟩:=hg
 exact PC.of_same rfl (λ_=>zlo _ _) h λw hw=>zbe s sep m w hs (hw.glob h1 h2) O
theorem zl8(hg:zke gl){s old new:Bt}(hs:s.size<4294967281)(Z:1<=old.size)(O:s.size+Lib.countB s old*new.size<=140737488355328){R:Bt->Prop}(h:R (bl (Lib.replaceAll (lb s) (lb old) (lb new)))):
  PC Tp gl 122 [Arg.mk .str s,Arg.mk .str old,Arg.mk .str new] [.str] R:=by
 obtain⟨cs,m,h1,h2⟩:=hg
 exact PC.of_scal rfl (λ_=>zdv _) h λw hw=>zag s old new m w hs (hw.glob h1 h2) Z O
theorem zyg{s:Bt}{c:Nat}(hc:c<=9223372036854775807)(O:s.size*c<=140737488355328){R:Bt->Prop}(h:R (bl (Lib.repeatL (lb s) c))):PC Tp gl 146 [Arg.mk .str s,Arg.mk (.int .i64) (c:Int)] [.str] R:=
 PC.of_scal rfl (λ_=>zdv _) h λw hw=>ze7 s c w hc O
theorem z2e(hg:zke gl){s sep:Bt}(hs:s.size<4294967281)(Z:1<=sep.size)(hc:Lib.countB s sep+1<=140737488355328){R:List Bt->Prop}(hl:(Lib.splitB sep 0 (Lib.countB s sep) s).length=Lib.countB s sep+1)(h:R (Lib.splitB sep 0 (Lib.countB s sep) s)):
  PC Tp gl 152 [Arg.mk .str s,Arg.mk .str sep] [.row .str] R:=by
 obtain⟨cs,m,h1,h2⟩:=hg
 exact PC.of_row (t:=.str) (cells:=((Lib.splitB sep 0 (Lib.countB s sep) s).map AW).toArray) (T:=9) rfl (λM=>by simpa using zxu M _) (by rw[hl];exact hc) h λw hw=>(zha s sep m w hs (hw.glob h1 h2) Z).mono λe w' ⟨he,O⟩=>⟨by rw[hl];exact he,O⟩
def Tabs(gl:Fr):Prop:=(∃cs:Array Value,gl 0=some cs/\∀c,c<256->cs[c]?=some (.int .u8 (Lib.firstT c)))/\∃cs:Array Value,gl 1=some cs/\∀i,i<16->cs[2*i]?=some (.int .u8 (Lib.accLo i))/\cs[2*i+1]?=some (.int .u8 (Lib.accHi i))
theorem Tabs.at(h:Tabs gl){w:World}(hw:AgM gl w.heap):Lib.Utf8Tabs 0 1 w:=by
 obtain⟨⟨c1,a1,b1⟩,c2,a2,b2⟩:=h
 exact⟨λc hc=>hw.glob a1 (b1 c hc),λi hi=>⟨hw.glob a2 (b2 i hi).1,hw.glob a2 (b2 i hi).2⟩⟩
theorem zyh(hg:Tabs gl){s:Bt}{R:Int×Int->Prop}(h:R ((Lib.decodeGo s).1,(Lib.decodeGo s).2)):PC Tp gl 142 [Arg.mk .str s] [.int .i32,.int .i64] R:=
 PC.of_scal rfl (λM=>⟨[_,_],⟨_,_,rfl,rfl,_,rfl,rfl⟩,rfl⟩) h λw hw=>Yj s w (hg.at hw)
theorem zvb(w:World)(k:Nat)(os:Array Obj):Below w.heap.size w (Go.Sort.grow (w.drewN k) os):=⟨rfl,rfl,rfl,by simp[Go.Sort.grow,World.drewN],λi hi=>by
 show((w.drewN k).heap++os)[i]?=_
 exact CB hi⟩
def Pow(gl : Fr): Prop := ∃ b cs, Tryz.prog.globalNamed "internal/strconv.uint64pow10" = some b ∧ gl b = some cs ∧ cs = (Lib.pow10Tab.map λz => Value.int .u64 z).toArray
theorem zyi(hg:Pow gl){n:Int}(h0:-9223372036854775808<=n)(h1:n<=9223372036854775807){R:Bt->Prop}(h:R (bl (Lib.itoa n))):PC Tp gl 97 [Arg.mk (.int .i64) n] [.str] R:=by
 obtain⟨b,cs,e1,e2,e3⟩:=hg
 refine PC.of_scal rfl (λ_=>zdv _) h λw hw=>(zix n h0 h1 w ?_).mono λe w' ⟨he,k,os,O⟩=>⟨he,O ▸ zvb w k os⟩
 obtain⟨T,m,e4⟩:=hw b cs e2
 unfold Lib.TabIs World.var?
 rw[e1]
 simp only[Ck,e4,e3]
def z6r(l:List UInt8):Int×Bool:=match Lib.atoiAll l with
 |.ok v=>(v,true)
 |.range=>(Lib.atoiSat l,false)
 |_=>(0,false)
def zql(gl:Fr):Prop:=(∃(cs:Array Value) (e:Value),gl 4=some cs/\cs[0]?=some e/\(e=.nilIface\/∃te pe,e=.iface te pe))/\∃(cs:Array Value) (e:Value),gl 5=some cs/\cs[0]?=some e/\(e=.nilIface\/∃te pe,e=.iface te pe)
theorem zl9(k:IntKind)(i:Int)(t:TypeId)(u:Value):zak M [.int k,.err] (i,false) (.tuple #[.int k i,.iface t u]):=⟨[_,_],⟨_,_,rfl,rfl,.iface t u,rfl,⟨_,rfl,.inr ⟨rfl,_,_,rfl⟩⟩⟩,rfl⟩
theorem zor(k:IntKind)(i:Int):zak M [.int k,.err] (i,true) (.tuple #[.int k i,.nilIface]):=⟨[_,_],⟨_,_,rfl,rfl,.nilIface,rfl,⟨_,rfl,.inl ⟨rfl,rfl⟩⟩⟩,rfl⟩
theorem z6s(hg:zql gl){s:Bt}(hs:s.size<=281474976710656){R:Int×Bool->Prop}(h:R (z6r (lb s))):PC Tp gl 173 [Arg.mk .str s] [.int .i64,.err] R:=by
 unfold z6r at h
 cases hx:Lib.atoiAll (lb s)with
 |ok v=>
  rw[hx]at h
  refine PC.of_ex rfl λw hw=>(zd1 s (by omega) v hx w).mono λe w' ⟨he,Z⟩=>⟨_,(v,true),he,λM=>zor _ _,h,?_⟩
  rcases Z with rfl|⟨t,rfl⟩
  ·exact Below.refl _ _
  ·exact Lib.bytesWorld_below _ _ _
 |range=>
  rw[hx]at h
  obtain⟨_,⟨cs,ev,e1,e2,e3⟩⟩:=hg
  exact PC.of_ex rfl λw hw=>(zae s hs hx ev w (hw.glob e1 e2) e3).mono λe w' ⟨N,he,_,_,O⟩=>⟨_,(Lib.atoiSat (lb s),false),he,λM=>zl9 _ _ _ _,h,O⟩
 |_=>
  rw[hx]at h
  obtain⟨⟨cs,ev,e1,e2,e3⟩,_⟩:=hg
  exact PC.of_ex rfl λw hw=>(Xd s hs hx ev w (hw.glob e1 e2) e3).mono λe w' ⟨N,he,_,_,O⟩=>⟨_,(0,false),he,λM=>zl9 _ _ _ _,h,O⟩
def zhb(l:List UInt8):Int×Bool:=match Lib.parseIntB 64 l with
 |.ok v=>(v,true)
 |.range=>(Lib.intSat 64 l,false)
 |_=>(0,false)
theorem zqm(hg:zql gl){s:Bt}(hs:s.size<=281474976710656){R:Int×Bool->Prop}(h:R (zhb (lb s))):PC Tp gl 147 [Arg.mk .str s,Arg.mk (.int .i64) 10,Arg.mk (.int .i64) 64] [.int .i64,.err] R:=by
 unfold zhb at h
 cases hx:Lib.parseIntB 64 (lb s)with
 |ok v=>
  rw[hx]at h
  refine PC.of_ex rfl λw hw=>(Z7 s (by omega) v hx w).mono λe w' ⟨he,Z⟩=>⟨_,(v,true),he,λM=>zor _ _,h,?_⟩
  rcases Z with rfl|⟨t,rfl⟩
  ·exact Below.refl _ _
  ·exact Lib.bytesWorld_below _ _ _
 |range=>
  rw[hx]at h
  obtain⟨_,⟨cs,ev,e1,e2,e3⟩⟩:=hg
  exact PC.of_ex rfl λw hw=>(Zi s hs hx ev w (hw.glob e1 e2) e3).mono λe w' ⟨N,he,_,_,O⟩=>⟨_,(Lib.intSat 64 (lb s),false),he,λM=>zl9 _ _ _ _,h,O⟩
 |_=>
  rw[hx]at h
  obtain⟨⟨cs,ev,e1,e2,e3⟩,_⟩:=hg
  exact PC.of_ex rfl λw hw=>(Zd s hs hx ev w (hw.glob e1 e2) e3).mono λe w' ⟨N,he,_,_,O⟩=>⟨_,(0,false),he,λM=>zl9 _ _ _ _,h,O⟩
theorem zi0{s c:Bt}(hs:s.size<4294967281)(hc:c.size<4294967281)(O:∀(j:Nat) b,(lb s)[j]?=some b->b.toNat<128)(Z:∀(j:Nat) b,(lb c)[j]?=some b->b.toNat<128){R:Bool->Prop}(h:R (Lib.containsAny (lb s) (lb c))):
  PC Tp gl 172 [Arg.mk .str s,Arg.mk .str c] [.bool] R:=
 PC.of_scal rfl (λ_=>z1y _) h λw hw=>Q6 s c w hs hc O Z
theorem zam{xs:List Bt}{x:Bt}(h:R (Lib.idxOfS xs x)):PC Tp gl 144 [Arg.mk (.row .str) xs,Arg.mk .str x] [.int .i64] R:=by
 intro hp M vs hM ag ha
 match vs,ha with
 |[u,v],⟨h1,h2,_⟩=>
  have O:Rd M (.row .str) xs [u]:=by simpa[RdV,zdn]using h1
  have Z:v=.string x:=by simpa[RdV,zdn,Rd]using h2
  subst Z
  obtain⟨s,rfl,hl,hn,cells,hc,ha⟩:=Rd.rowC ag O
  have:=zeq hc
  subst this
  have key:∀w:World,w.heap=hp->Calls Tp 144 #[slV s,.string x] w λe w'=>e=.returned (.int .i64 (Lib.idxOfS xs x))/\w'=w:=by
   intro w hw
   rcases ha with h0|⟨b,o,e1,e2,e3⟩
   ·have hx:xs=[]:=by simpa using h0
    subst hx
    have:=Qv s.a s.cap x w
    simp only[slV,hl];exact this
   ·have:=Xe b o s.len s.cap xs x w (by omega) (by omega) (λj hj=>by
     have:=e3 j (.string (xs.getD j ByteArray.empty)) (by rw[Cc,Ai hj,Bm,Ai hj];rfl)
     rw[<-hw]at this
     exact this)
    rw[hl,AN]at this
    simp only[slV,e1,hl];exact this
  refine XC.of_calls λB d=>(key (mk B d hp) rfl).mono ?_
  rintro e w' ⟨rfl,rfl⟩
  exact⟨_,rfl,rfl,rfl,rfl,Keep.refl _ _,M,_,Fr.le.refl _,λ_ _=>rfl,ag,zlo _ _,h⟩
end
end Go.X
end
section
namespace Go.X
open Go Go.Lib
section
theorem zq(l:Bs):(bl l).size=l.length:=by rw[<-zcp,js]
theorem zkf(l:Bs)(a b:Nat):(bl l).extract a b=bl ((l.drop a).take (b-a)):=by rw[<-zon,zu8,js,js]
theorem Y6(a b:Bs):bl a++bl b=bl (a++b):=by rw[<-zon,zxz,js,js,js]
theorem Qw(l:Bs)(i:Nat):zf (bl l) i=((l[i]?.getD 0).toNat:Int):=by rw[zx0,js]
theorem wz(s:Bt):s.toList=lb s:=by
 cases s with
 |mk d=>exact Go.Lib.toList_data ⟨d⟩
theorem zi1(a b:Bs):((bl a).toList==(bl b).toList)=decide (a=b):=by
 rw[wz,wz,js,js]
 rw[AJ];simp
theorem zos(l:Bs)(p:Nat):nxB (bl l) p=decide (p<l.length):=by
 rw[AJ];simp[nxB,zq]
theorem zsp(l:Bs)(p:Nat):nxR (bl l) p=((dec (l.drop p)).1:Int):=by rw[nxR,zx1,js]
theorem zkg(l:Bs)(p:Nat)(h:p<l.length):nxP (bl l) p=p+(dec (l.drop p)).2:=by
 rw[nxP,zx1,js]
 have:Nat.blt p (bl l).size=true:=by simp[zq,h]
 rw[this];rfl
theorem z4i{l:Bs}{i:Nat}(h:i<l.length):l[i]?.getD 0=l[i]:=by rw[Ai h];rfl
def yq(c:UInt8):Bool:=decide (48<=c.toNat)&&decide (c.toNat<=57)
def X5(l:Bs):Bool:=l.all yq && !l.isEmpty
abbrev Nm:=Bool×Bs×Int
abbrev nmB(n:Nm):Bool×Bt×Int:=(n.1,(bl n.2.1,n.2.2))
def zer(n:Nm):Bool:=!n.1&&(n.2.1.isEmpty&&n.2.2==0)
def j4(n:Nm):Bool:=zer n||(X5 n.2.1&&decide (n.2.1.length<=1000)&&n.2.1.head? != some 48&&n.2.1.getLast? != some 48&&decide (-1000000<=n.2.2)&&decide (n.2.2<=1000000))
def zan(n:Nm):Bs:=if j4 n then(if n.2.1=[]then [48]else(if n.1 then [45]else [])++n.2.1++(if n.2.2=0 then []else 101::Go.Lib.itoa n.2.2))else []
theorem zqn{n:Nm}(h:j4 n=true)(e:n.2.1=[]):zer n=true:=by
 unfold j4 at h
 rcases Cp _ _ ▸ h with h|h
 ·exact h
 ·simp[X5,e]at h
theorem zhc{n:Nm}(h:j4 n=true):n.2.1.length<=1000/\-1000000<=n.2.2/\n.2.2<=1000000:=by
 unfold j4 zer at h
 obtain⟨a,d,e⟩:=n
 simp at h
 rcases h with⟨_,h,h'⟩|h
 ·subst h;subst h';simp
 ·simp only;omega
def cutAt(p:UInt8->Bool):Bs->Bs×Bs×Bool
 |[]=>([],[],false)
 |c::l=>if p c then([],l,true)else(c::(cutAt p l).1,(cutAt p l).2)
theorem zkh{p:UInt8->Bool}:∀{l},(∀c∈l,p c=false)->cutAt p l=(l,[],false)
 |[],_=>rfl
 |c::l,h=>by
  unfold cutAt
  rw[if_neg (by simp[h c (by simp)]),zkh λc hc=>h c (by simp[hc])]
theorem zsq{p:UInt8->Bool}:∀{l:Bs} {k:Nat} (hk:k<l.length),(∀i (hi:i<k),p (l[i]'(by omega))=false)->p l[k]=true->cutAt p l=(l.take k,l.drop (k+1),true)
 |c::l,0,_,_,h=>by
  unfold cutAt
  rw[if_pos (by simpa using h)];simp
 |c::l,k+1,hk,h0,h=>by
  unfold cutAt
  have h1:p c=false:=h0 0 (by omega)
  rw[if_neg (by simp[h1]),zsq (k:=k) (by simpa using hk) (λi hi=>by simpa using h0 (i+1) (by omega)) (by simpa using h)]
  simp
structure Lit where
 neg:Bool
 whole:Bs
 rest:Bs
 low:Bool
 exp:Bs
def z2f(s:Bs):Bs:=if s.head?==some 45 then s.tail else s
def isE(c:UInt8):Bool:=c==101||c==69
def z2g(c:UInt8):Bool:=c==46
def X6(s:Bs):Bs×Bs×Bool:=cutAt isE (z2f s)
def zes(s:Bs):Bool:=(X6 s).2.2&&(X6 s).2.1.head?==some 45
def zsr(s:Bs):Bs:=if zes s then(X6 s).2.1.tail else if(X6 s).2.1.head?==some 43 then(X6 s).2.1.tail else(X6 s).2.1
def Qx(s:Bs):Bs×Bs×Bool:=cutAt z2g (X6 s).1
def zma(s:Bs):Bool:=(!(X6 s).2.2||X5 (zsr s))&&X5 (Qx s).1&&(!(Qx s).2.2||X5 (Qx s).2.1)&&((Qx s).1==[48]||(Qx s).1.head? != some 48)
def zi2(s:Bs):Lit:=⟨s.head?==some 45,(Qx s).1,(Qx s).2.1,zes s,if(X6 s).2.2 then zsr s else []⟩
def zcw(s:Bs):Option Lit:=if zma s then some (zi2 s)else none
theorem zhd{s:Bs}{x:Lit}(h:zcw s=some x):zma s=true/\x=zi2 s:=by
 unfold zcw at h
 split at h
 ·rename_i e;exact⟨e,(Au h).symm⟩
 ·exact absurd h (by simp)
theorem zd3{p:UInt8->Bool}:∀{l:Bs},(cutAt p l).2.2=false->(cutAt p l).1=l/\(cutAt p l).2.1=[]
 |[],_=>⟨rfl,rfl⟩
 |c::l,h=>by
  unfold cutAt at h ⊢
  split
  ·rename_i e;rw[if_pos e]at h;exact absurd h (by simp)
  ·rename_i e
   rw[if_neg e]at h
   have:=zd3 h
   exact⟨by simp[this.1],this.2⟩
def jr(l:Bs):Bs:=((l.dropWhile (· == 48)).reverse.dropWhile (· == 48)).reverse
def zr(l:Bs):Nat:=l.foldl (λn c=>10*n+(c.toNat-48)) 0
def yy(s:Bs):Nm×Int:=match zcw s with
 |none=>((false,[],0),2)
 |some x=>
  if x.whole.length+x.rest.length>1000 then((false,[],0),3)
  else if(x.exp.dropWhile (· == 48)).length>9 then((false,[],0),4)
  else
   let e:Int:=if x.low then-(zr (x.exp.dropWhile (· == 48)):Int)else zr (x.exp.dropWhile (· == 48))
   let d:=(x.whole++x.rest).dropWhile (· == 48)
   let O:=jr (x.whole++x.rest)
   if d=[]then((false,[],0),0)
   else if -1000000<=e-x.rest.length+d.length-O.length/\e-x.rest.length+d.length-O.length<=1000000 then((x.neg,O,e-x.rest.length+d.length-O.length),0)
   else((false,[],0),4)
def z2h(n:Nm):Int×Bool:=
 if j4 n&&decide (0<=n.2.2)&&decide ((n.2.1.length:Int)+n.2.2<=19)then
  let v:Int:=if n.1 then-((zr n.2.1*10 ^ n.2.2.toNat:Nat):Int)else(zr n.2.1*10 ^ n.2.2.toNat:Nat)
  if -9223372036854775808<=v/\v<=9223372036854775807 then(v,true)else(0,false)
 else(0,false)
end
end Go.X
end
section
namespace Go.X
section
variable {n:Nat} {l:Bs} {gl:Fr} {R:Bool -> Prop}
theorem Zz{k n:Nat}(h:k<n)(hn:n<=4611686018427387904):Ab .i64 ((k:Int)+1)=((k+1:Nat):Int):=zwo (by omega)
theorem z6t(h:l≠[]):(48<=(dec l).1/\(dec l).1<=57)->(dec l).2=1/\∃c t,l=c::t/\yq c=true/\(dec l).1=c.toNat:=by
 obtain⟨c,t,rfl⟩:=Cg h
 intro hh
 by_cases hc:c.toNat<128
 ·rw[W9 hc]at hh ⊢
  exact⟨rfl,c,t,rfl,by simp[yq];simpa using hh,rfl⟩
 ·exfalso
  unfold dec at hh
  have b0:((c::t).getD 0 0).toNat=c.toNat:=rfl
  rw[b0]at hh
  have:=c.toNat_lt
  have b1:=((c::t).getD 1 0).toNat_lt;have b2:=((c::t).getD 2 0).toNat_lt;have b3:=((c::t).getD 3 0).toNat_lt
  generalize ((c::t).getD 1 0).toNat=x1 at *
  generalize ((c::t).getD 2 0).toNat=x2 at *
  generalize ((c::t).getD 3 0).toNat=x3 at *
  generalize c.toNat=x0 at *
  unfold Lib.decodeN at hh
  rw[if_neg hc]at hh
  split at hh
  ·split at hh <;> simp only at hh <;> omega
  ·split at hh
   ·split at hh <;> simp only at hh <;> omega
   ·split at hh
    ·split at hh <;> simp only at hh <;> omega
    ·simp only at hh;omega
theorem zcx(h:R (X5 l)):PC Tp gl 128 [Arg.mk .str (bl l)] [.bool] R:=by
 apply ze6
 refine⟨λp=>p.1=bl l/\p.2<=l.length/\(l.drop p.2).all yq=l.all yq,λp=>l.length-p.2,⟨rfl,by omega,by simp⟩,?_⟩
 rintro⟨_,p⟩ ⟨rfl,hp,h2⟩
 simp only at hp h2 ⊢
 rw[zos,zsp]
 refine⟨λhc=>⟨hc,λhx=>?_,λhx=>?_⟩,λhc=>?_⟩
 all_goals first
  |have aa:p<l.length:=by simpa using hc
  |have aa:¬p<l.length:=by simpa using hc
 ·have Z:l.drop p≠[]:=λe=>by have:=congrArg CN e;simp at this;omega
  have hd:¬(48<=(dec (l.drop p)).1/\(dec (l.drop p)).1<=57):=by
   rw[Ca]at hx
   rcases Cp _ _ ▸ hx with hx|hx <;> simp at hx <;> omega
  have hf:l.all yq=false:=by
   rw[<-h2]
   obtain⟨c,t,e⟩:=Cg Z
   rw[e]
   cases O:yq c with
   |false=>simp[O]
   |true=>
    exfalso;apply hd
    have:c.toNat<128:=by simp[yq]at O;omega
    rw[e,W9 this]
    simpa[yq]using O
  have:X5 l=false:=by simp[X5,hf]
  rw[this]at h;exact h
 ·have Z:l.drop p≠[]:=λe=>by have:=congrArg CN e;simp at this;omega
  have hd:48<=(dec (l.drop p)).1/\(dec (l.drop p)).1<=57:=by
   rw[Ca]at hx
   have:=Cx.1 hx
   simp at this;omega
  obtain⟨h1,c,t,e,O,_⟩:=z6t Z hd
  rw[zkg l p aa,h1]
  refine⟨⟨trivial,by omega,?_⟩,by omega⟩
  have e2:l.drop (p+1)=t:=by rw[<-Ce,e];rfl
  rw[e2,<-h2,e];simp[O]
 ·have:l.drop p=[]:=A7 (by omega)
  rw[this]at h2
  have e:X5 l=!(decide (l=[])):=by
   rw[X5,<-h2];cases l <;> simp
  have:=zi1 l []
  rw[show(⟨#[]⟩:Bt)=bl []from rfl,this,<-e];exact h
abbrev tN:Ty:=.pair .bool (.pair .str (.int .i64))
theorem zss(h:0<l.length):(((l[0]?.getD 0).toNat:Int) != 48)=(l.head? != some 48):=by
 cases l with
 |nil=>simp at h
 |cons c t=>
  rw[AJ];simp
  constructor
  ·intro h1 h2;exact h1 (by rw[h2];rfl)
  ·intro h1 h2;exact h1 (Da.1 (by(have:c.toNat=48:=by omega);rw[this];rfl))
theorem z2i(h:0<l.length):(((l[l.length-1]?.getD 0).toNat:Int) != 48)=(l.getLast? != some 48):=by
 rw[List.getLast?_eq_getElem?]
 rw[Ai (by omega)]
 rw[AJ];simp
 constructor
 ·intro h1 h2;exact h1 (by rw[h2];rfl)
 ·intro h1 h2;exact h1 (Da.1 (by(have:l[l.length-1].toNat=48:=by omega);rw[this];rfl))
theorem zst(h:X5 l=true):0<l.length:=by
 cases l with
 |nil=>simp[X5]at h
 |cons=>simp
theorem z6u(h:0<n)(hn:n<=4611686018427387904):Ab .i64 ((n:Int)-1)=((n-1:Nat):Int):=by
 rw[wrap64 (by omega) (by omega)];omega
theorem zmb{n:Nm}(hn:n.2.1.length<=4611686018427387904)(h:R (j4 n)):PC Tp gl 96 [Arg.mk tN (nmB n)] [.bool] R:=by
 apply zg4
 simp only[show(⟨#[]⟩:Bt)=bl []from rfl,zi1,zq,Qw]
 have e:((n.1==false)&&(decide (n.2.1=[])&&((n.2.2==0)&&true)))=zer n:=by
  unfold zer
  rcases n with⟨_|_,_|⟨_,_⟩,e⟩ <;> simp
 rw[e]
 refine⟨λh1=>?_,λh1=>?_⟩
 ·have:j4 n=true:=by simp[j4,h1]
  rw[this]at h;exact h
 ·unfold j4 at h
  rw[h1,Ec]at h
  refine zcx ⟨λh2=>⟨λ_=>?_,λh3=>?_⟩,λh2=>⟨λh3=>⟨λ_=>?_,λh4=>?_⟩,λh3=>⟨?_,λh4=>⟨λ_=>?_,λh5=>?_⟩,λh4=>⟨?_,λh5=>?_,λh5=>?_⟩⟩⟩⟩
  ·have:X5 n.2.1=false:=by simpa using h2
   rw[this]at h;simpa using h
  ·rw[h2]at h3;cases h3
  ·have:decide (n.2.1.length<=1000)=false:=by simp at h3 ⊢;omega
   rw[this]at h;simpa using h
  ·rw[h3]at h4;cases h4
  all_goals
   have hd:X5 n.2.1=true:=by simpa using h2
   have hp:=zst hd
   have O:decide (n.2.1.length<=1000)=true:=by simp at h3 ⊢;omega
   have eh:=zss hp
   have el:=z2i hp
  ·omega
  ·have:(n.2.1.head? != some 48)=false:=by
    rw[<-eh];simp at h4 ⊢;exact h4
   rw[this]at h;simpa using h
  ·rw[h4]at h5;cases h5
  ·rw[z6u hp hn];omega
  ·have:(n.2.1.getLast? != some 48)=false:=by
    rw[<-el];rw[z6u hp hn]at h5;simp at h5 ⊢;exact h5
   rw[this]at h;simpa using h
  ·have e1:(n.2.1.head? != some 48)=true:=by
    rw[<-eh];simp at h4 ⊢;exact h4
   have e2:(n.2.1.getLast? != some 48)=true:=by
    rw[<-el];rw[z6u hp hn]at h5;simp at h5 ⊢;exact h5
   rw[hd,O,e1,e2]at h
   simp only[B0]at h
   rw[C9]
   exact h
end
end Go.X
end
section
namespace Go.X
open Go Go.Lib
section
variable {l:Bs} {k:Nat}
theorem zcy(c:UInt8):∀l:Bs,-1<=indexByte l c/\(0<=indexByte l c↔c∈l)
 |[]=>by simp[indexByte]
 |b::l=>by
  have ih:=zcy c l
  unfold indexByte
  by_cases h:b=c
  ·simp[h]
  ·have h':¬c=b:=λe=>h e.symm
   simp only[beq_iff_eq,h,if_false,Ad,h',false_or]
   obtain⟨i1,i2⟩:=ih
   split
   ·rename_i e
    rw[e]at i2
    exact⟨by omega,by rw[<-i2]⟩
   ·rename_i e
    refine⟨by omega,?_⟩
    rw[<-i2];omega
theorem J2(u:Nat):(decDigits u).length<=u+1:=by
 rw[decDigits]
 split
 ·simp
 ·rename_i h
  have:=J2 (u / 10)
  simp;omega
theorem itoa_len(n:Int):(itoa n).length<=n.natAbs+2:=by
 unfold itoa
 split
 ·have:=J2 n.natAbs;simp;omega
 ·have:=J2 n.toNat;omega
theorem zcz(l:Bs)(c:UInt8):hasPrefix l [c]=(l.head?==some c):=by
 cases l with
 |nil=>rfl
 |cons b t=>simp[hasPrefix,Bw];rw[AJ];simp;exact eq_comm
theorem zao(l:Bs)(c:UInt8):trimPrefix l [c]=if l.head?==some c then l.tail else l:=by
 unfold trimPrefix
 rw[zcz]
 split <;> simp
theorem zqo(l:Bs)(c:UInt8):zr (l++[c])=10*zr l+(c.toNat-48):=by simp[zr,List.foldl_append]
theorem zhe(hk:k<l.length):zr (l.take (k+1))=10*zr (l.take k)+(l[k].toNat-48):=by
 rw[Am hk,zqo]
theorem zsu{p:UInt8->Bool}(h:l.all p=true)(k:Nat):(l.take k).all p=true:=by
 rw[AP]at h ⊢
 exact λx hx=>h x (BR hx)
theorem z4j(h:l.all yq=true)(hk:k<l.length):48<=l[k].toNat/\l[k].toNat<=57:=by
 have:=AP.1 h _ (Ay hk)
 simpa[yq]using this
theorem zot:∀(n:Nat) (l:Bs),l.length=n->l.all yq=true->zr l<10 ^ n
 |0,l,h,_=>by
  have:l=[]:=Aw h
  subst this;simp[zr]
 |n+1,l,h,hd=>by
  have hl:l=l.take (n+1):=by rw[<-h,AN]
  rw[hl,zhe (by omega)]
  have h1:=zot n (l.take n) (by simp;omega) (zsu hd n)
  have h2:=z4j hd (k:=n) (by omega)
  rw[Nat.pow_succ];omega
theorem Xg{n:Nat}(hn:l.length<=n)(h:l.all yq=true):zr l<10 ^ n:=
 Dq (zot _ l rfl h) (Nat.pow_le_pow_right (by omega) hn)
theorem zft(h:X5 l=true):l.all yq=true:=by
 unfold X5 at h;exact(Bool.and_eq_true_iff.1 h).1
theorem J3{p q:UInt8->Bool}(h:l.all p=true):(l.dropWhile q).all p=true:=by
 rw[AP]at h ⊢
 exact λx hx=>h x ((List.dropWhile_sublist q).mem hx)
theorem Ze(l:Bs)(q:UInt8->Bool):(l.dropWhile q).length<=l.length:=(List.dropWhile_sublist q).length_le
theorem zap{q:UInt8->Bool}:∀c,(l.dropWhile q).head?=some c->q c=false:=by
 induction l with
 |nil=>simp
 |cons b t ih=>
  intro c h
  rw[List.dropWhile_cons]at h
  split at h
  ·exact ih c h
  ·rename_i hq;simp at h;subst h;exact Bool.eq_false_iff.2 hq
theorem zc0(h:l.all yq=true)(O:l.dropWhile (· == 48)≠[]):X5 (jr l)=true/\(jr l).length<=(l.dropWhile (· == 48)).length/\((jr l).head? != some 48)=true/\((jr l).getLast? != some 48)=true:=by
 unfold jr
 obtain⟨c,t,hd⟩:=Cg O
 have hc:(c==48)=false:=by
  have:=zap (l:=l) (q:=(· == 48)) c (by rw[hd];rfl)
  simpa using this
 have key:∀(t:Bs),∃u,((c::t).reverse.dropWhile (· == 48)).reverse=c::u:=by
  intro t
  rw[List.reverse_cons]
  have hx:∀(r:Bs),∃u,(r++[c]).dropWhile (· == 48)=u++[c]:=by
   intro r
   induction r with
   |nil=>exact⟨[],by simp[hc]⟩
   |cons b r ih=>
    rw[A3,List.dropWhile_cons]
    split
    ·exact ih
    ·exact⟨b::r,rfl⟩
  obtain⟨u,e⟩:=hx t.reverse
  exact⟨u.reverse,by rw[e];simp⟩
 rw[hd]
 obtain⟨u,e⟩:=key t
 refine⟨?_,?_,?_,?_⟩
 ·rw[X5,Bool.and_eq_true_iff]
  refine⟨?_,by rw[e];rfl⟩
  rw[List.all_reverse]
  apply J3
  rw[List.all_reverse,<-hd]
  exact J3 h
 ·rw[List.length_reverse]
  refine Nat.le_trans (Ze _ _) ?_
  simp
 ·rw[e];simp;simpa using hc
 ·rw[List.getLast?_reverse]
  cases hh:((c::t).reverse.dropWhile (· == 48)).head? with
  |none=>rfl
  |some x=>
   have:=zap (l:=(c::t).reverse) (q:=(· == 48)) x hh
   simpa using this
theorem zvc(h:l.all yq=true)(O:l.dropWhile (· == 48)≠[])(hl:l.length<=1000)(neg:Bool)(e:Int):j4 (neg,jr l,e)=(decide (-1000000<=e)&&decide (e<=1000000)):=by
 obtain⟨h1,h2,h3,h4⟩:=zc0 h O
 have h5:=Ze l (· == 48)
 have hp:(jr l).isEmpty=false:=by
  rw[X5]at h1
  have:=(Bool.and_eq_true_iff.1 h1).2
  simpa using this
 unfold j4 zer
 simp only[h1,h3,h4,hp,Bool.and_false,Bool.false_and,Ec,B0]
 have:decide ((jr l).length<=1000)=true:=by simp;omega
 rw[this];simp
theorem zqp{s:Bs}{x:Lit}(h:zcw s=some x):X5 x.whole=true/\x.rest.all yq=true/\x.exp.all yq=true:=by
 obtain⟨O,rfl⟩:=zhd h
 unfold zma at O
 simp only[AI]at O
 obtain⟨⟨⟨h1,h2⟩,h3⟩,h4⟩:=O
 refine⟨h2,?_,?_⟩
 ·show(Qx s).2.1.all yq=true
  cases hp:(Qx s).2.2 with
  |true=>rw[hp]at h3;exact zft (by simpa using h3)
  |false=>rw[show(Qx s).2.1=[]from(zd3 hp).2];rfl
 ·show(if(X6 s).2.2 then zsr s else []).all yq=true
  cases hm:(X6 s).2.2 with
  |true=>rw[hm]at h1;simpa using zft (by simpa using h1)
  |false=>rfl
theorem zd4(p:UInt8->Bool)(l:Bs):(cutAt p l).1.length+(cutAt p l).2.1.length<=l.length:=by
 induction l with
 |nil=>simp[cutAt]
 |cons c t ih=>unfold cutAt;split <;> simp <;> omega
theorem zki{s:Bs}{x:Lit}(h:zcw s=some x):x.whole.length+x.rest.length+x.exp.length<=s.length:=by
 obtain⟨O,rfl⟩:=zhd h
 have h1:(z2f s).length<=s.length:=by unfold z2f;split <;> simp
 have h2:=zd4 isE (z2f s)
 have h3:=zd4 z2g (X6 s).1
 have h4:(zsr s).length<=(X6 s).2.1.length:=by
  unfold zsr
  split
  ·simp
  ·split <;> simp
 have h5:(if(X6 s).2.2 then zsr s else []).length<=(X6 s).2.1.length:=by
  split
  ·exact h4
  ·simp
 show(Qx s).1.length+(Qx s).2.1.length+(if(X6 s).2.2 then zsr s else []).length<=s.length
 unfold Qx
 unfold X6 at *
 omega
end
end Go.X
end
