/- A part of the proof: nothing is stated here for its own sake. -/
import Derived.Test.YtjohlemfgcmaoaaGreatDoorPnB
import Derived.ProofKit
import Derived.OpenShut
import Derived.ShutString
import Derived.SizedLaws
import Derived.LaidSub
import Derived.Lib.LaidU8
import Derived.Test.YtjohlemfgcmaoaaGreatDoorProg
import Derived.Lib.Replace
import Derived.Shelf.Strings.Trim
import Derived.Shelf.Small.Bits
import Derived.Shelf.Small.Wraps
import Derived.Shelf.Strings.BuilderRune
import Derived.Shelf.Utf8.AppendRune
import Derived.Shelf.Utf8.AppendRunePlain
import Derived.Shelf.Strconv.Itoa3
import Derived.Shelf.Strconv.AtoiErr
import Derived.Shelf.Strconv.ErrVarAll
import Derived.Shelf.Strconv.ErrVarParseInt
import Derived.Shelf.Pu.ParseUintPublic10
import Derived.Shelf.Sort.Plain
import Derived.Shelf.Unicode.Decode
import Derived.Shelf.Strings.IndexAnyAll
import Derived.Shelf.Strings.Repeat
import Derived.Shelf.Unicode.DecodeLast
import Derived.Shelf.Strings.BuilderCap
import Derived.Shelf.Slices.Turned
import Derived.Shelf.Slices.Clone
import Derived.Shelf.Slices.SearchI
import Derived.Shelf.Slices.In.SortNone
import Derived.Shelf.SlicesE.Clone
open _root_.Go.Addr renaming add->Af
open _root_.Array renaming getD_eq_getD_getElem?->BE,getElem?_append_left->Cn,getElem?_eq_getElem->AJ,getElem?_eq_some_iff->Ac,getElem?_push->B6,range->Eb,replicate->Be,toList_map->CW
open _root_.BitVec renaming ofInt->Ap
open _root_.Bool renaming cond_false_right->Cb,eq_iff_iff->Az,false_eq_true->A9,or_eq_true->Bh,true_and->Cf
open _root_.Go.Builtin renaming append_->AD
open _root_.Go.Code renaming cond->DZ,region->D4
open _root_.Go.Instr renaming fill->Ed
open _root_.Int renaming toNat_natCast->Ae
open _root_.Go.IntKind renaming bits->An,i64->CL,signed->C9,wrap->Aa
open _root_.List renaming all_eq_true->A4,append_assoc->Bi,append_nil->A8,cons_append->Bu,drop_drop->BD,drop_eq_getElem_cons->Ay,drop_eq_nil_of_le->AU,drop_zero->BC,eq_nil_of_length_eq_zero->AR,ext_getElem?->Bc,getD_eq_getElem?_getD->Cp,getElem?_drop->AE,getElem?_eq_getElem->Ak,getElem?_eq_none->BN,getElem?_eq_some_iff->Au,getElem?_take->AC,getElem_mem->AM,length->Cd,length_append->Ar,length_cons->AI,length_drop->As,length_eq_zero_iff->AW,length_erase_of_mem->CH,length_map->AL,length_nil->Cv,length_pos_iff->Bj,length_range->Dn,mapM_cons->DW,map_cons->BZ,mem_append->Aw,mem_append_left->Ao,mem_append_right->Av,mem_cons->Ai,mem_cons_of_mem->Ag,mem_cons_self->Am,mem_range->BK,mem_singleton->BJ,nodup_range->C8,pairwise_cons->BI,range->BO,take_append_drop->Ce,take_of_length_le->Bf,take_succ_cons->Cs
open _root_.List.cons renaming injEq->BR
open _root_.Nat renaming add_zero->CQ,blt_eq->Cj,eq_of_beq_eq_true->Ah,le_mul_of_pos_right->Da,le_of_ble_eq_true->BM,le_refl->Ad,lt_or_ge->AF,zero_add->AB,zero_le->CK,zero_mul->DD
open _root_.Go.Next renaming value->Dg
open _root_.Option renaming bind_some->CF
open _root_.Option.some renaming inj->Aq,injEq->Ab
open _root_.Pure renaming pure->CZ
open _root_.Go.Proofs.Tryz renaming func212->DX,isAgg0->De,isAgg21->DF,isAgg3->Cy,isAgg4->CM,isAgg5->CN,isAgg9->Cz,prog->AP,sizeOf0->C4,sizeOf21->Dm,sizeOf3->Cg,sizeOf4->Cq,sizeOf5->Cr,sizeOf9->Ci,underlying0->Cm,underlying21->CO,underlying3->BL,underlying4->BP,underlying5->BV,underlying9->BH,zeroValue0->Cw,zeroValue21->CX,zeroValue3->BS,zeroValue4->BW,zeroValue5->BX,zeroValue9->BU
open _root_.Go.Value.slice renaming injEq->Bb
set_option linter.unusedVariables false
set_option maxRecDepth 100000
namespace Go.X
end Go.X
namespace Go.Proofs
end Go.Proofs
open Go Go.X Go.Proofs
section
namespace Go.X
section
variable {P:Program} {t tr tx:TypeId} {n d m i id:Nat} {cs R C:CS} {γ:Gh} {h:zb} {o:Oper} {sv:AV} {gl:Fr} {c:zx} {ops:Array Oper} {pu ord:List Nat} {listed pl:Array Bool} {a:Act}
variable {h0 : zb} {W : Nat -> Prop} {M0 : Fr}
structure It where
 k:Nat
 dst:Option Nat
 ch:zx
 av:AV
 nb:Option (Nat×Ch)
 us:Option Nat:=none
def itE:List It->qt
 |[]=>[]
 |i::l=>match i.dst with
  |some s=>(s,i.ch,i.av)::itE l
  |none=>itE l
def itC:List It->CS
 |[]=>[]
 |i::l=>match i.nb with
  |some b=>b::itC l
  |none=>itC l
theorem Wj{x:Nat×zx×AV}:∀{l:List It},x∈itE l↔∃i∈l,i.dst=some x.1/\i.ch=x.2.1/\i.av=x.2.2
 |[]=>by simp[itE]
 |i::l=>by
  simp only[itE]
  split
  ·rename_i s hs
   rw[Ai,Wj (l:=l)]
   constructor
   ·rintro(rfl|⟨j,hj,h⟩)
    ·exact⟨i,Am,hs,rfl,rfl⟩
    ·exact⟨j,Ag _ hj,h⟩
   ·rintro⟨j,hj,h1,h2,h3⟩
    rcases Ai.1 hj with rfl|hj
    ·left;rw[hs]at h1;cases h1;rw[h2,h3]
    ·exact .inr ⟨j,hj,h1,h2,h3⟩
  ·rename_i hs
   rw[Wj (l:=l)]
   constructor
   ·rintro⟨j,hj,h⟩;exact⟨j,Ag _ hj,h⟩
   ·rintro⟨j,hj,h1,h2,h3⟩
    rcases Ai.1 hj with rfl|hj
    ·rw[hs]at h1;cases h1
    ·exact⟨j,hj,h1,h2,h3⟩
def Js(S:List Nat):qt->qt
 |[]=>[]
 |(i,c,v)::e=>bif memN S i then(i,c,v)::Js S e else Js S e
theorem Yh{S:List Nat}{x:Nat×zx×AV}:∀{e:qt},x∈Js S e->x∈e/\x.1∈S
 |[],h=>by cases h
 |(i,c,v)::e,h=>by
  simp only[Js]at h
  cases hm:memN S i with
  |true=>
   rw[hm]at h
   rcases Ai.1 h with rfl|h
   ·exact⟨Am,zl0 hm⟩
   ·exact⟨Ag _ (Yh h).1,(Yh h).2⟩
  |false=>rw[hm]at h;exact⟨Ag _ (Yh h).1,(Yh h).2⟩
def z9k(P:Program)(tr:TypeId)(t:TypeId)(n:Nat)(ps:List (Nat×AV))(cs:CS)(K:AV->Prop):Prop:=
 match zyr P t with
 |some el=>match z0j P tr 8 el,zc3 P el (n*qy P el)with
  |some ty,some zs=>bif Nat.beq (qy P el) (sz ty)then(bif Nat.ble (n*qy P el) 16777216 then(bif Nat.blt 0 (qy P el)then(match zlo (λi=>some (i*qy P el,qy P el)) (zs.map .v) ps with
   |some r=>match Y4 cs ty n r with
    |some (ys,[])=>K (.g (.a (.dc ty ys)))
    |_=>False
   |none=>False)else False)else False)else False
  |_,_=>False
 |none=>False
theorem zgy{t el:TypeId}(hu:P.underlying t=some (.slice el))(ab:ql P el=true)(ah:n*qy P el<=16777216){zs:List Value}(Z:zc3 P el (n*qy P el)=some zs){ps:Array (Nat×Value)}{c1:List Value}
  (e6:Ed (λi=>some (i*qy P el,qy P el)) zs.toArray ps.toList=some c1.toArray) (B:World) (e:Nat) (h:zb):
  (Instr.buildSlice t n ps).run P (mk B e h)=.ok (.slice (some ⟨h.size,0,none⟩) n n) (mk B e (h.push (.cells c1.toArray el))):=by
 have hq:=QExec.underlying (h:=h) hu B e
 have hs:=QExec.sizeOf (P:=P) (h:=h) (y8 ab).choose_spec B e
 unfold Instr.buildSlice
 rw[Sem.run_bind,hq]
 simp only[Result.andThen_ok]
 rw[Sem.run_bind,hs]
 simp only[Result.andThen_ok]
 rw[if_neg (by omega)]
 unfold zc3 at Z
 by_cases aa:n*qy P el=0
 ·rw[if_pos aa]
  rw[aa]at Z ⊢
  simp at Z
  subst Z
  simp only[Sem.run_bind,Sem.run_pure,Result.andThen_ok]
  have e7:Array.map (λx=>(#[]:Array Value)[x % (#[]:Array Value).size]!) (Eb 0)=([]:List Value).toArray:=by simp
  rw[e7,e6]
  rfl
 ·rw[if_neg aa]
  have hb:Nat.beq (n*qy P el) 0=false:=by
   cases hh:Nat.beq (n*qy P el) 0 with
   |false=>rfl
   |true=>exact absurd (Ah hh) aa
  rw[hb]at Z
  simp only[cond_false]at Z
  split at Z
  ·rename_i z ae
   have af:=Yg ae h B e
   simp only[Ab]at Z
   rw[Sem.run_bind,af]
   simp only[Result.andThen_ok,Sem.run_bind,Sem.run_pure]
   have e7:Array.map (λx=>z.cells[x % z.cells.size]!) (Eb (n*qy P el))=zs.toArray:=by
    rw[<-Z]
   rw[e7,e6]
   rfl
  ·cases Z
theorem Inv.newFrozen(I:Inv h0 W M0 cs γ h)(Z:Array Value)(el:TypeId):Inv h0 W M0 cs (zd2 γ h.size Z) (h.push (.cells Z el))/\Gx none γ (zd2 γ h.size Z)/\(zd2 γ h.size Z).M h.size=some Z:=by
 have aa:γ.M h.size=none:=I.ag.none (Ad _)
 have hM:Fr.le γ.M (zd2 γ h.size Z).M:=by
  intro b cc eM
  have:Nat.beq b h.size=false:=by
   cases hb:Nat.beq b h.size with
   |false=>rfl
   |true=>rw[Ah hb,aa]at eM;cases eM
  simp[zd2,this,eM]
 have ab:AgM (zd2 γ h.size Z).M (h.push (.cells Z el)):=by
  intro b cc eM
  by_cases hb:b=h.size
  ·subst hb
   have:cc=Z:=by simp[zd2]at eM;exact eM.symm
   subst this
   exact⟨_,_,Zn _ _⟩
  ·have:Nat.beq b h.size=false:=by
    cases hb':Nat.beq b h.size with
    |false=>rfl
    |true=>exact absurd (Ah hb') hb
   simp only[zd2,this,cond_false]at eM
   obtain⟨T',m,e'⟩:=I.ag b cc eM
   exact⟨T',m,by rw[B6,if_neg hb];exact e'⟩
 refine⟨I.call (Keep.push h _ (Ad _)) hM (λb hb=>?_) ab,⟨hM,λ_ _=>⟨rfl,rfl⟩⟩,by simp[zd2]⟩
 have:Nat.beq b h.size=false:=by
  cases hb':Nat.beq b h.size with
  |false=>rfl
  |true=>have:=Ah hb';omega
 simp[this]
def z1w:Option (Nat×Ch)->CS->CS
 |none,C=>C
 |some c,C=>Y0 c.1 C
def zf1(h0:zb)(W:Nat->Prop)(M0:Fr)(P:Program)(o:Oper)(a:Act)(γ:Gh)(h:zb)(cs:CS)(nb:Option (Nat×Ch))(Ka:AV->Prop)(eat:Option (Nat×Ch):=none):Prop:=
 ExA P (execOp a.eval o) h λv h'=>∃av γ',Ka av/\DenV γ' av v/\Inv h0 W M0 (nb.toList++z1w eat cs) γ' h'/\Gx (nb.map (·.1)) γ γ'
theorem z1x{Z:Array (Nat×Operand)}(ho:o.op=.buildSlice t n Z){ps:List (Nat×AV)}{ρ:Operand->Option AV}(an:zbt ρ Z.toList=some ps){K:AV->Prop}(H:z9k P tr t n ps cs K):
  ∃av,K av/\∀(γ:Gh) (h:zb) (a:Act) (Y:CS),Inv h0 W M0 (Y++cs) γ h->(∀x av,ρ x=some av->DenV γ av (a.eval x))->zf1 h0 W M0 P o a γ h (Y++cs) none (· = av):=by
 unfold z9k at H
 split at H
 ·rename_i el aj
  obtain⟨hu,ak⟩:=Ye aj
  split at H
  ·rename_i ty zs ap ah
   cases hz:Nat.beq (qy P el) (sz ty)with
   |false=>rw[hz]at H;exact H.elim
   |true=>
   rw[hz]at H
   cases hb1:Nat.ble (n*qy P el) 16777216 with
   |false=>rw[hb1]at H;exact H.elim
   |true=>
   rw[hb1]at H
   cases hb2:Nat.blt 0 (qy P el)with
   |false=>rw[hb2]at H;exact H.elim
   |true=>
   rw[hb2]at H
   simp only[cond_true]at H
   split at H
   ·rename_i r hr
    split at H
    ·rename_i ys am
     refine⟨_,H,λγ h a Y I hρ=>?_⟩
     have I1:Inv h0 W M0 cs γ h:=I.sub (by simp)
     obtain⟨ws,e1,e2⟩:=Y2 hr (xu γ zs) (W9 hρ an)
     obtain⟨c1,c2,rfl,r3,r4,r5⟩:=zag I1.fz am e2
     cases c2 with
     |cons _ _=>exact r5.elim
     |nil=>
     rw[A8]at *
     have aa:=Ah hz
     have ae:0<qy P el:=by simpa[Cj]using hb2
     have af:n*qy P el<=16777216:=BM hb1
     have hn:n<=n*qy P el:=Da _ ae
     have ar:c1.length=n*qy P el:=by rw[r3.1,r4,aa]
     obtain⟨I2,g2,ai⟩:=I.newFrozen c1.toArray el
     intro B e
     refine .inl ⟨.slice (some ⟨h.size,0,none⟩) n n,e,_,?_,_,_,rfl,?_,I2,g2⟩
     ·have e5:(Z.map λx=>(x.1,a.eval x.2)).toList=Z.toList.map λx=>(x.1,a.eval x.2):=by rw[CW]
      simp only[execOp,ho]
      refine Qe ?_
      exact zgy hu ak af ah (by
       show Ed _ _ (Z.map λx=>(x.1,a.eval x.2)).toList=_
       rw[e5];exact e1) B e h
     ·have ab:=(r3.mono g2.1).rd (b:=h.size) (o:=0) (c:=n) (cs:=c1.toArray) ai (by rw[BC,Bf (by rw[r4,<-aa];simp;omega)]) ⟨by omega,by omega⟩
      rw[r4]at ab
      exact⟨⟨some ⟨h.size,0,none⟩,n,n⟩,rfl,rfl,ab⟩
    ·exact H.elim
   ·exact H.elim
  ·exact H.elim
 ·exact H.elim
def z9l:AV->Bool
 |.g (.a (.dc _ _))=>true
 |_=>false
theorem z1y{bv sv:AV}{c:Call}(ho:o.op=.call c)(hc:c.callee=.builtin .append){s x:Operand}(ai:c.args.toList=[s,x])(au:c.argTypes.toList=[t,tx]){K:AV->Prop}(ax:z9l bv=true)
  (H:Wi P tr t tx bv sv 0 [] cs (λav _ _=>K av)) {ρ:Operand->Option AV} (hs:ρ s=some bv) (hx:ρ x=some sv):
  ∀(γ:Gh) (h:zb) (a:Act) (Y:CS),Inv h0 W M0 (Y++cs) γ h->(∀x av,ρ x=some av->DenV γ av (a.eval x))->zf1 h0 W M0 P o a γ h (Y++cs) none K:=by
 intro γ h a Y I hρ
 have aG:=hρ _ _ hs
 have aI:=hρ _ _ hx
 have I1:Inv h0 W M0 ([]++cs) γ h:=I.sub (by simp)
 have key:∀{K':Value->zb->Prop},XRun P (AD #[t,tx] o.type #[a.eval s,a.eval x]) h K'->ExA P (execOp a.eval o) h K':=by
  intro K' aJ B e
  obtain⟨v,d',h',r,hp⟩:=aJ B e
  refine .inl ⟨v,d',h',?_,hp⟩
  have ee:execOp a.eval o=(AD c.argTypes o.type (c.args.map a.eval) >>= λx=>(CZ (Dg x):Sem Next)):=by
   simp only[execOp,ho,resolve,hc]
   rfl
  rw[ee,toList_eq ai,toList_eq au]
  refine Qe ?_
  simpa using r
 refine key ?_
 clear key
 unfold Wi at H
 split at H
 ·rename_i el aF
  obtain⟨hu,aN⟩:=Ye aF
  split at H
  ·rename_i ty aQ
   split at H
   ·rename_i b ys hb aA
    obtain⟨⟨z,T⟩,ar⟩:=zhy hu hb
    obtain⟨news,ab,af⟩:=zqa I1 aA T.pos aI
    split at H
    ·cases ax
    ·cases ax
    ·rename_i t' aM
     split at H
     ·rename_i xs aj
      obtain⟨am,hK⟩:=H
      have ap:=zbx ar am
      obtain⟨e1,e2⟩:=Z7 aj
      subst e1
      simp only at e2
      subst e2
      generalize a.eval s=u at *
      generalize a.eval x=v at *
      obtain⟨s2,e,aS,ay⟩:=(show ∃s:Sl,u=slV s/\s.cap=s.len/\Rd γ.M (.row t') xs [u]from aG)
      subst e
      obtain⟨s3,e,Z,aO,cells,aa,ak⟩:=ay.rowC I.ag
      have e':s2=s3:=by cases s2;cases s3;simp only[slV,Bb]at e;simp[e]
      subst e'
      have ae:cells.length=s2.len*sz t':=by rw[Z];exact aa.1
      intro B dr
      by_cases hm:ys.length=0
      ·have aB:ys=[]:=AR hm
       subst aB
       have aC:news=[]:=AR (by rw[ab.1];simp)
       subst aC
       have hr:=Z6 (P:=P) (ty:=o.type) T (s:=s2) (h':=h) (af B dr) (by simp;omega) (λp hp=>by simp[storeCells]) (λ_=>rfl)
       refine⟨_,dr,h,hr,_,γ,hK,?_,I,Gx.refl _ _⟩
       rw[A8]
       exact ay
      ·obtain⟨cp,ah,hr,aE,aL,aP,aH⟩:=Y6 (P:=P) (ty:=o.type) (base:=0) T ae (λB d=>Z5 ak ae T.pos B d) af (by rw[Z];exact am) (by rw[Z];exact ap) (CK _) (by omega) B dr
       obtain⟨I2,g2,az⟩:=I.newFrozen ah el
       refine⟨_,dr+1,_,hr,_,_,hK,?_,I2,g2⟩
       have an:=((aa.append ab).mono g2.1).rd (b:=h.size) (o:=0) (c:=cp) (cs:=ah) az (by rw[BC,Ar,<-Z];exact aH) (by rw[Ar,<-Z];exact⟨by rw[Z];exact ap,aE⟩)
       rw[Ar,<-Z]at an
       exact an
     ·exact H.elim
    ·exact H.elim
   ·exact H.elim
  ·exact H.elim
 ·exact H.elim
def z1z(P:Program)(gl:Fr)(tr:TypeId)(o:Oper)(ρ:Operand->Option AV)(cs:CS)(K:AV->Prop):Prop:=
 match o.op with
 |.call c=>match c.callee with
  |.value x=>match z5t x with
   |some f=>bif qa P f then(match z1o P tr f,zn5 ρ c.args.toList with
    |some (ts,rt),some vs=>match ja cs ts vs with
     |some args=>PC P gl f args rt λr=>K (z4s rt r)
     |none=>False
    |_,_=>False)else False
   |none=>False
  |_=>False
 |_=>False
theorem zy0(aa:Fr.le gl M0){ρ:Operand->Option AV}{K:AV->Prop}(H:z1z P gl tr o ρ cs K):
  ∀(γ:Gh) (h:zb) (a:Act) (Y:CS),Inv h0 W M0 (Y++cs) γ h->(∀x av,ρ x=some av->DenV γ av (a.eval x))->zf1 h0 W M0 P o a γ h (Y++cs) none K:=by
 intro γ h a Y I hρ
 unfold z1z at H
 split at H
 ·rename_i c ho
  split at H
  ·rename_i x hx
   split at H
   ·rename_i f hf
    cases hcal:qa P f with
    |false=>rw[hcal]at H;exact H.elim
    |true=>
     rw[hcal]at H
     simp only[cond_true]at H
     split at H
     ·rename_i ts rt vs hs ab
      split at H
      ·rename_i args Z
       intro B d
       have e:=zjc hf
       subst e
       have I1:Inv h0 W M0 cs γ h:=I.sub (by simp)
       have ha:=ju I1.fz Z (Wh hρ ab)
       refine .inr (.inr ⟨f,c.args.map a.eval,zbv ho hx hcal rfl _,?_⟩)
       have e2:c.args.map a.eval=(c.args.toList.map a.eval).toArray:=by rw[<-CW]
       rw[e2]
       refine(zjd aa H I ha).mono ?_
       rintro v h' ⟨r,γ',h1,h2,h3,h4,_⟩
       exact⟨_,γ',h1,h2,h3,h4⟩
      ·exact H.elim
     ·exact H.elim
   ·exact H.elim
  ·exact H.elim
 ·exact H.elim
theorem zsl(aa:Fr.le gl M0){ρ:Operand->Option AV}{b:Bool}{K:AV->Prop}(H:zsc P gl tr o ρ b cs K)(hb:b=true):
  ∀(γ:Gh) (h:zb) (a:Act) (Y:CS),Inv h0 W M0 (Y++cs) γ h->(∀x av,ρ x=some av->DenV γ av (a.eval x))->zf1 h0 W M0 P o a γ h (Y++cs) none K:=by
 intro γ h a Y I hρ
 unfold zsc at H
 split at H
 ·rename_i c ho
  split at H
  ·rename_i x hx
   split at H
   ·rename_i f hf
    cases hcal:qa P f with
    |false=>rw[hcal]at H;exact H.elim
    |true=>
     rw[hcal]at H
     simp only[cond_true]at H
     split at H
     ·rename_i ts rt vs hs ab
      split at H
      ·rename_i args Z
       obtain⟨J,h1,h2⟩:=H
       intro B d
       have e:=zjc hf
       subst e
       have I1:Inv h0 W M0 cs γ h:=I.sub (by simp)
       have ha:=ju I1.fz Z (Wh hρ ab)
       refine .inr (.inr ⟨f,c.args.map a.eval,zbv ho hx hcal rfl _,?_⟩)
       have e2:c.args.map a.eval=(c.args.toList.map a.eval).toArray:=by rw[<-CW]
       rw[e2]
       refine(zjd aa (h1 hb) I ha).mono ?_
       rintro v h' ⟨r,γ',g1,g2,g3,g4,_⟩
       exact⟨_,γ',h2 r (λ_=>g1),g2,g3,g4⟩
      ·exact H.elim
     ·exact H.elim
   ·exact H.elim
  ·exact H.elim
 ·exact H.elim
theorem zu9(ho:o.op=.alloc t){z:Value}(hz:zeroOf P t=some z)(Z:itB (z.cells.toList.map .v)=false):
  ∀(γ:Gh) (h:zb) (a:Act) (Y:CS),Inv h0 W M0 (Y++cs) γ h->qu d (Y++cs)=true->zf1 h0 W M0 P o a γ h (Y++cs) (some (d,.box (z.cells.toList.map .v))) (· = .g (.a (.box d 0))):=by
 intro γ h a Y I hR B e
 refine .inl ⟨.pointer (some ⟨h.size,0,none⟩),e,h.push (.cells z.cells t),?_,_,ztt γ d h.size,rfl,?_,?_,Wc _ _ _⟩
 ·have aa:=Yg hz h B e
  simp only[execOp,ho]
  refine Qe ?_
  unfold Instr.alloc
  rw[Sem.run_bind,aa]
  simp only[Result.andThen_ok]
  rw[Sem.run_bind,Xa]
  rfl
 ·simp only[DenV,DenG,DenA,xr]
 ·have:=Inv.newBox (C:=[]) (R:=Y++cs) (by simpa using I) (c:=d) hR (xu γ z.cells.toList) (zc2 d _) Z t
  simpa[qz,z1w]using this
theorem z11{x:Operand}(ho:o.op=.box t x){l:List AA}(hm:zkv d l=false)(Z:itB l=false):
  ∀(γ:Gh) (h:zb) (a:Act) (Y:CS),Inv h0 W M0 (Y++cs) γ h->qu d (Y++cs)=true->All2 (DenA γ) l (a.eval x).cells.toList->zf1 h0 W M0 P o a γ h (Y++cs) (some (d,.box l)) (· = .g (.a (.box d 0))):=by
 intro γ h a Y I hR hl B e
 refine .inl ⟨.pointer (some ⟨h.size,0,none⟩),e,h.push (.cells (a.eval x).cells t),?_,_,ztt γ d h.size,rfl,?_,?_,Wc _ _ _⟩
 ·simp only[execOp,ho]
  refine Qe ?_
  unfold Instr.box
  rw[Sem.run_bind,Xa]
  rfl
 ·simp only[DenV,DenG,DenA,xr]
 ·have:=Inv.newBox (C:=[]) (R:=Y++cs) (by simpa using I) (c:=d) hR hl hm Z t
  simpa[qz,z1w]using this
def ym(o:Oper):Bool:=match o.op with
 |.call c=>match c.callee with
  |.builtin .append=>true
  |.builtin _=>false
  |_=>true
 |_=>false
def zb0:List AA->Bool
 |[]=>true
 |.v _::l=>zb0 l
 |.d _ _::l=>zb0 l
 |.elt _ _ _::l=>zb0 l
 |.dc _ _::l=>zb0 l
 |_::_=>false
theorem Zx{c:Nat}:∀{l:List AA},zb0 l=true->zkv c l=false
 |[],_=>rfl
 |.v _::l,h=>by simp only[zkv,zr4,cond_false];exact Zx (l:=l) h
 |.d _ _::l,h=>by simp only[zkv,zr4,cond_false];exact Zx (l:=l) h
 |.elt _ _ _::l,h=>by simp only[zkv,zr4,cond_false];exact Zx (l:=l) h
 |.dc _ _::l,h=>by simp only[zkv,zr4,cond_false];exact Zx (l:=l) h
 |.box _ _::_,h=>by cases h
 |.own _::_,h=>by cases h
 |.oelt _ _ _ _::_,h=>by cases h
theorem zd4:∀l:List Value,zb0 (l.map .v)=true
 |[]=>rfl
 |_::l=>zd4 l
def zva(P:Program)(gl:Fr)(tr:TypeId)(o:Oper)(e:qt)(ch:zx)(cs:CS)(K:AV->Option (Nat×Ch)->Prop):Prop:=
 match o.op with
 |.alloc t=>match ch,o.dst,zeroOf P t with
  |[],some d,some z=>bif qu d cs then(bif itB (z.cells.toList.map .v)then False else K (.g (.a (.box d 0))) (some (d,.box (z.cells.toList.map .v))))else False
  |_,_,_=>False
 |.box t x=>match ch,o.dst,zeb e [] x with
  |[],some d,some av=>match zsa av with
   |some l=>bif qu d cs then(bif zb0 l then(bif itB l then False else K (.g (.a (.box d 0))) (some (d,.box l)))else False)else False
   |none=>False
  |_,_,_=>False
 |.buildSlice t n Z=>match ch,zbt (zeb e []) Z.toList with
  |[],some ps=>z9k P tr t n ps cs λav=>K av none
  |_,_=>False
 |.call c=>match c.callee with
  |.builtin .append=>match ch,c.args.toList,c.argTypes.toList with
   |[],[s,x],[t,tx]=>match zeb e [] s,zeb e [] x with
    |some bv,some sv=>bif z9l bv then Wi P tr t tx bv sv 0 [] cs (λav _ _=>K av none)else False
    |_,_=>False
   |_,_,_=>False
  |.builtin _=>zyz P gl o e ch cs λav=>K av none
  |_=>match ch with
   |[]=>z1z P gl tr o (zeb e []) cs λav=>K av none
   |_=>match Y1 e ch with
    |some (some b)=>zsc P gl tr o (zeb e ch) b cs λav=>K av none
    |_=>False
 |_=>zyz P gl o e ch cs λav=>K av none
structure Spec (h0:zb) (W:Nat->Prop) (M0:Fr) (P:Program) (o:Oper) (e:qt) (ch:zx) (cs:CS) (nb:Option (Nat×Ch)) (Kan:AV->Prop) (eat:Option (Nat×Ch):=none):Prop where
 yes:∀(n:Nat) (γ:Gh) (h:zb) (a:Act) (Y:CS),SatA n e γ a->Inv h0 W M0 (Y++cs) γ h->(∀b,nb=some b->qu b.1 (Y++cs)=true)->(∀c,eat=some c->c∈Y++cs/\∀x∈Y++cs,x.1=c.1->x.2=c.2)->(∀d,o.dst=some d->eat≠none->qu d (Y++cs)=true)->valid (zm a) ch->zf1 h0 W M0 P o a γ h (Y++cs) nb Kan eat
 no:∀(n:Nat) (γ:Gh) (a:Act),SatA n e γ a->¬valid (zm a) ch->nb=none/\eat=none/\∃av,Kan av
 box:∀b,nb=some b->qu b.1 cs=true/\o.dst=some b.1/\(((∃l,b.2=.box l/\zb0 l=true)/\Kan=(· = .g (.a (.box b.1 0))))\/((∃e t xs,b.2=.row e t xs)/\Kan=(· = .g (.a (.own b.1)))))
 dn:eat≠none->∃d,o.dst=some d/\qu d cs=true
theorem Spec.ofQ(Z:Fr.le gl M0){e:qt}{ch:zx}{K:AV->Option (Nat×Ch)->Prop}(H:zyz P gl o e ch cs λav=>K av none):∃nb Kan,Spec h0 W M0 P o e ch cs nb Kan/\(∀av,Kan av->K av nb)/\∃av,Kan=(· = av):=by
 obtain⟨av,h1,h2⟩:=zh4 (h0:=h0) (W:=W) (M0:=M0) Z H
 refine⟨none,(· = av),⟨λn γ h a Y hs I _ _ _ hv=>?_,λn γ a hs hv=>⟨rfl,rfl,av,rfl⟩,λb hb=>(by cases hb),λhx=>absurd rfl hx⟩,λaa e=>e ▸ h1,av,rfl⟩
 obtain⟨v,hd,hq⟩:=h2 n γ a h hs (I.sub (by simp)) hv
 exact λB d=>.inl ⟨v,d,h,hq B d,av,γ,rfl,hd,I,Gx.refl _ _⟩
theorem zn9(aa:Fr.le gl M0){e:qt}{ch:zx}{K:AV->Option (Nat×Ch)->Prop}(H:zva P gl tr o e ch cs K):
  ∃nb Kan,Spec h0 W M0 P o e ch cs nb Kan/\(∀av,Kan av->K av nb)/\(ym o=false->∃av,Kan=(· = av)):=by
 unfold zva at H
 split at H
 ·rename_i t ho
  split at H
  ·rename_i d z hd hz
   cases hR:qu d cs with
   |false=>rw[hR]at H;exact H.elim
   |true=>
    rw[hR]at H
    cases hit:itB (z.cells.toList.map .v)with
    |true=>rw[hit]at H;exact H.elim
    |false=>
    rw[hit]at H
    refine⟨_,(· = .g (.a (.box d 0))),⟨λn γ h a Y hs I hn _ _ _=>zu9 ho hz hit γ h a Y I (hn _ rfl),λn γ a hs hv=>absurd trivial hv,λb hb=>?_,λhx=>absurd rfl hx⟩,λav e=>e ▸ H,λ_=>⟨_,rfl⟩⟩
    cases hb
    exact⟨hR,hd,.inl ⟨⟨_,rfl,zd4 _⟩,rfl⟩⟩
  ·exact H.elim
 ·rename_i t x ho
  split at H
  ·rename_i d av hd ak
   split at H
   ·rename_i l hl
    cases hR:qu d cs with
    |false=>rw[hR]at H;exact H.elim
    |true=>
     rw[hR]at H
     cases hm:zb0 l with
     |false=>rw[hm]at H;exact H.elim
     |true=>
      rw[hm]at H
      cases hit:itB l with
      |true=>rw[hit]at H;exact H.elim
      |false=>
      rw[hit]at H
      refine⟨_,(· = .g (.a (.box d 0))),⟨λn γ h a Y hs I hn _ _ _=>z11 ho (Zx hm) hit γ h a Y I (hn _ rfl) (zbr hl (zr hs (c:=[]) trivial ak)),λn γ a hs hv=>absurd trivial hv,λb hb=>?_,λhx=>absurd rfl hx⟩,λav e=>e ▸ H,λ_=>⟨_,rfl⟩⟩
      cases hb
      exact⟨hR,hd,.inl ⟨⟨_,rfl,hm⟩,rfl⟩⟩
   ·exact H.elim
  ·exact H.elim
 ·rename_i t n af ho
  split at H
  ·rename_i ps ah
   obtain⟨av,h1,h2⟩:=z1x (h0:=h0) (W:=W) (M0:=M0) ho ah H
   exact⟨none,(· = av),⟨λn γ h a Y hs I _ _ _ _=>h2 γ h a Y I λx av hx=>zr hs (c:=[]) trivial hx,λn γ a hs hv=>absurd trivial hv,λb hb=>(by cases hb),λhx=>absurd rfl hx⟩,λap e=>e ▸ h1,λ_=>⟨_,rfl⟩⟩
  ·exact H.elim
 ·rename_i c ho
  split at H
  ·rename_i hc
   have Z:ym o=true:=by simp[ym,ho,hc]
   split at H
   ·rename_i s x t tx ab ae
    split at H
    ·rename_i bv sv aj ai
     cases hdc:z9l bv with
     |false=>rw[hdc]at H;exact H.elim
     |true=>
      rw[hdc]at H
      simp only[cond_true]at H
      exact⟨none,λav=>K av none,⟨λn γ h a Y hs I _ _ _ _=>z1y ho hc ab ae hdc H aj ai γ h a Y I λx av hx=>zr hs (c:=[]) trivial hx,λn γ a hs hv=>absurd trivial hv,λb hb=>(by cases hb),λhx=>absurd rfl hx⟩,λav e=>e,λhn=>by rw[Z]at hn;cases hn⟩
    ·exact H.elim
   ·exact H.elim
  ·obtain⟨nb,Kan,h1,h2,h3⟩:=Spec.ofQ (h0:=h0) (W:=W) (M0:=M0) aa H
   exact⟨nb,Kan,h1,h2,λ_=>h3⟩
  ·rename_i an am
   have Z:ym o=true:=by
    simp only[ym,ho]
   split at H
   ·exact⟨none,λav=>K av none,⟨λn γ h a Y hs I _ _ _ _=>zy0 aa H γ h a Y I λx av hx=>zr hs (c:=[]) trivial hx,λn γ a hs hv=>absurd trivial hv,λb hb=>(by cases hb),λhx=>absurd rfl hx⟩,λav e=>e,λhn=>by rw[Z]at hn;cases hn⟩
   ·split at H
    ·rename_i b hb
     refine⟨none,λav=>K av none,⟨λn γ h a Y hs I _ _ _ hv=>zsl aa H (wl hs hb hv) γ h a Y I λx av hx=>zr hs hv hx,λn γ a hs hv=>⟨rfl,rfl,?_⟩,λb hb=>(by cases hb),λhx=>absurd rfl hx⟩,λav e=>e,λhn=>by rw[Z]at hn;cases hn⟩
     have:=zaa hs hb hv
     simp only[Ab]at this
     exact(zae (h0:=#[]) (W:=λ_=>False) (M0:=λ_=>none) H).1 this
    ·exact H.elim
 ·obtain⟨nb,Kan,h1,h2,h3⟩:=Spec.ofQ (h0:=h0) (W:=W) (M0:=M0) aa H
  exact⟨nb,Kan,h1,h2,λ_=>h3⟩
def zy1:List Nat->Nat->Option (Option Nat)
 |[],_=>none
 |x::l,k=>bif Nat.ble 2000000 x then(bif Nat.beq (x-2000000) k then some none else zy1 l k)else(bif Nat.ble 1000000 x then(bif Nat.beq ((x-1000000) / 1000) k then some (some ((x-1000000) % 1000))else zy1 l k)else zy1 l k)
def zc4(k:Nat):List It->Option (Nat×Ch)
 |[]=>none
 |i::l=>bif (match i.us with
  |some j=>Nat.beq j k
  |none=>false)then(match i.nb with
  |some b=>some b
  |none=>zc4 k l)else zc4 k l
theorem zak{k:Nat}{c:Nat×Ch}:∀{l:List It},zc4 k l=some c->∃i∈l,i.nb=some c/\i.us=some k
 |[],h=>by cases h
 |i::l,h=>by
  simp only[zc4]at h
  cases hb:(match i.us with
   |some j=>Nat.beq j k
   |none=>false)with
  |false=>
   rw[hb]at h
   obtain⟨x,hx,q⟩:=zak h
   exact⟨x,Ag _ hx,q⟩
  |true=>
   rw[hb]at h
   simp only[cond_true]at h
   split at h
   ·rename_i b Z
    cases h
    refine⟨i,Am,Z,?_⟩
    split at hb
    ·rename_i j hj;rw[hj,Ah hb]
    ·cases hb
   ·obtain⟨x,hx,q⟩:=zak h
    exact⟨x,Ag _ hx,q⟩
def z9m(P:Program)(tr:TypeId)(t:TypeId)(n:Nat)(K:Ch->Prop):Prop:=bif Nat.beq n 0 then(match zyr P t with
 |some el=>match z0j P tr 8 el,zc3 P el (0*qy P el)with
  |some ty,some []=>bif Nat.beq (qy P el) (sz ty)then(bif Nat.ble (0*qy P el) 16777216 then(bif Nat.blt 0 (qy P el)then K (.row el ty [])else False)else False)else False
  |_,_=>False
 |none=>False)else False
theorem z14{Z:Array (Nat×Operand)}(ho:o.op=.buildSlice t n Z)(hp:Z.toList=[]){K:Ch->Prop}(H:z9m P tr t n K):
  ∃el ty,K (.row el ty [])/\∀(γ:Gh) (h:zb) (a:Act) (L:CS),Inv h0 W M0 L γ h->qu d L=true->ExA P (execOp a.eval o) h (zad h0 W M0 L γ λav C' c=>av=.g (.a (.own d))/\C'=[(d,.row el ty [])]/\c=some d):=by
 unfold z9m at H
 cases hn:Nat.beq n 0 with
 |false=>rw[hn]at H;exact H.elim
 |true=>
  rw[hn]at H
  obtain rfl:=Ah hn
  simp only[cond_true]at H
  split at H
  ·rename_i el ae
   split at H
   ·rename_i ty aa ab
    cases h1:Nat.beq (qy P el) (sz ty)with
    |false=>rw[h1]at H;exact H.elim
    |true=>
     rw[h1]at H
     cases h2:Nat.ble (0*qy P el) 16777216 with
     |false=>rw[h2]at H;exact H.elim
     |true=>
      rw[h2]at H
      cases h3:Nat.blt 0 (qy P el)with
      |false=>rw[h3]at H;exact H.elim
      |true=>
       rw[h3]at H
       refine⟨el,ty,H,λγ h a L I hd=>?_⟩
       refine Xu (tr:=tr) (ps:=[]) ho (ρ:=λ_=>none) (by rw[hp];rfl) (C:=[]) (R:=L) (d:=d) ?_ (by simpa using I) (λx av hx=>by cases hx)
       unfold Y5
       rw[ae]
       simp only
       rw[aa,ab]
       simp only
       rw[h1,h2,h3,hd]
       simp[zlo,Y4,z5u,Jr,frzL,qz]
   ·exact H.elim
  ·exact H.elim
def z9n(P:Program)(tx:TypeId)(ty:Ty):AV->Option (List (El ty))
 |.g (.a (.d (.row t) xs))=>match P.underlying tx with
  |some (.slice _)=>Zc (.row t) (.row ty) xs
  |_=>none
 |.g (.a (.dc t xs))=>match P.underlying tx with
  |some (.slice _)=>Zc (.row t) (.row ty) xs
  |_=>none
 |.g (.a (.v (.slice none 0 0)))=>match P.underlying tx with
  |some (.slice _)=>some []
  |_=>none
 |_=>none
def z9o(P:Program)(tr:TypeId)(t tx:TypeId)(e0:TypeId)(t0:Ty)(xs:List (El t0))(sv:AV)(K:TypeId->(ty:Ty)->List (El ty)->Prop):Prop:=match zyr P t with
 |some el=>match z0j P tr 8 el with
  |some ty=>match zet P el ty,z9n P tx ty sv with
   |some b,some ys=>match Zc (.row t0) (.row ty) xs with
    |some xs=>bif Nat.beq e0 el then((xs.length+ys.length)*b<=140737488355328/\K el ty (xs++ys))else False
    |none=>False
   |_,_=>False
  |none=>False
 |none=>False
theorem zvb{L:CS}{ty:Ty}{ys:List (El ty)}(h:z9n P tx ty sv=some ys):z1s P L tx ty sv=some ys:=by
 unfold z9n at h
 split at h
 ·rename_i t xs
  split at h
  ·rename_i e he
   simp only[z1s,he,rowOf]
   exact h
  ·cases h
 ·rename_i t xs
  split at h
  ·rename_i e he
   simp only[z1s,he,rowOf]
   exact h
  ·cases h
 ·split at h
  ·rename_i e he
   simp only[z1s,he]
   exact h
  ·cases h
 ·cases h
theorem zl2{c:Nat}:∀{l:CS},qu c l=true->qz c l=l
 |[],_=>rfl
 |(j,k)::l,h=>by
  simp only[qu]at h
  cases hb:(bif Nat.beq j c then true else zcy c k)with
  |true=>rw[hb]at h;cases h
  |false=>
   rw[hb]at h
   simp only[qz]
   rw[hb,cond_false,zl2 h]
theorem zb1{c d:Nat}:∀{l:CS},qu c l=true->qu c (Y0 d l)=true
 |[],_=>rfl
 |(j,k)::l,h=>by
  simp only[qu]at h
  cases hb:(bif Nat.beq j c then true else zcy c k)with
  |true=>rw[hb]at h;cases h
  |false=>
   rw[hb]at h
   simp only[Y0]
   cases Nat.beq j d with
   |true=>exact zb1 h
   |false=>
    simp only[cond_false,qu]
    rw[hb]
    exact zb1 h
theorem zh5{c:Nat×Ch}:∀{l:CS},c∈l->(∀x∈l,x.1=c.1->x.2=c.2)->Z3 l c.1=some c.2
 |[],h,_=>by cases h
 |(j,k)::l,h,hu=>by
  simp only[Z3]
  cases hb:Nat.beq c.1 j with
  |true=>
   have:=Ah hb
   have:=hu (j,k) Am this.symm
   simp only at this
   rw[cond_true,this]
  |false=>
   rw[cond_false]
   rcases Ai.1 h with rfl|h
   ·simp at hb
   ·exact zh5 h λx hx=>hu x (Ag _ hx)
theorem z15{c:Call}(ho:o.op=.call c)(hc:c.callee=.builtin .append){s x:Operand}(aa:c.args.toList=[s,x])(ae:c.argTypes.toList=[t,tx]){e0:TypeId}{t0:Ty}{xs:List (El t0)}{K:TypeId->(ty:Ty)->List (El ty)->Prop}
  (H:z9o P tr t tx e0 t0 xs sv K):∃el ty ys,K el ty ys/\∀(γ:Gh) (h:zb) (a:Act) (L:CS) (c0:Nat),Inv h0 W M0 L γ h->Z3 L c0=some (.row e0 t0 xs)->DenV γ (.g (.a (.own c0))) (a.eval s)->DenV γ sv (a.eval x) ->
   ExA P (execOp a.eval o) h (zad h0 W M0 [] γ λav C' cc=>av=.g (.a (.own d))/\C'=(d,.row el ty ys)::qz d (Y0 c0 L)/\cc=some d):=by
 unfold z9o at H
 split at H
 ·rename_i el ak
  split at H
  ·rename_i ty ah
   split at H
   ·rename_i b ys hb aj
    split at H
    ·rename_i af ab
     cases hee:Nat.beq e0 el with
     |false=>rw[hee]at H;exact H.elim
     |true=>
      rw[hee]at H
      obtain⟨Z,hK⟩:=H
      refine⟨el,ty,af++ys,hK,λγ h a L c0 I hf hs hx=>?_⟩
      have ai:Wi P tr t tx (.g (.a (.own c0))) sv d L [] (λav C' cc=>av=.g (.a (.own d))/\C'=(d,.row el ty (af++ys))::qz d (Y0 c0 L)/\cc=some d):=by
       unfold Wi
       rw[ak]
       simp only
       rw[ah]
       simp only
       rw[hb,A8,zvb aj]
       simp only
       rw[hf]
       simp only
       rw[ab]
       simp only
       rw[hee]
       first|exact⟨Z,rfl,rfl,rfl⟩|exact⟨Z,trivial,trivial,trivial⟩|exact⟨Z,by simp⟩
      have:=zhz (ty':=o.type) ai (by simpa using I) hs hx
      intro B e
      obtain⟨v,d',h',r,hp⟩:=this B e
      refine .inl ⟨v,d',h',?_,hp⟩
      have ee:execOp a.eval o=(AD c.argTypes o.type (c.args.map a.eval) >>= λx=>(CZ (Dg x):Sem Next)):=by
       simp only[execOp,ho,resolve,hc]
       rfl
      rw[ee,toList_eq aa,toList_eq ae]
      refine Qe ?_
      simpa using r
    ·exact H.elim
   ·exact H.elim
  ·exact H.elim
 ·exact H.elim
def z16(P:Program)(tr:TypeId)(o:Oper)(k:Nat)(e:qt)(IL:List It)(cs:CS)(own:Bool)(K:AV->Option (Nat×Ch)->Option (Nat×Ch)->Prop):Prop:=
 match o.op,o.dst with
 |.buildSlice t n parts,some d=>bif own then(bif qu d cs then(match parts.toList with
  |[]=>z9m P tr t n λch=>K (.g (.a (.own d))) (some (d,ch)) none
  |_=>False)else False)else False
 |.call c,some d=>match c.callee,c.args.toList,c.argTypes.toList,zc4 k IL with
  |.builtin .append,[s,x],[t,tx],some (c0,.row e0 t0 xs)=>match zeb e [] s,zeb e [] x with
   |some (.g (.a (.own c1))),some sv=>bif Nat.beq c1 c0 then(bif qu d cs then z9o P tr t tx e0 t0 xs sv (λel ty ys=>bif own then K (.g (.a (.own d))) (some (d,.row el ty ys)) (some (c0,.row e0 t0 xs))else K (.g (.a (.d (.row ty) ys))) none (some (c0,.row e0 t0 xs)))else False)else False
   |_,_=>False
  |_,_,_,_=>False
 |_,_=>False
theorem zoa{k:Nat}{e:qt}{IL:List It}{own:Bool}{K:AV->Option (Nat×Ch)->Option (Nat×Ch)->Prop}(H:z16 P tr o k e IL cs own K):
  ∃nb eat av,Spec h0 W M0 P o e [] cs nb (· = av) eat/\K av nb eat/\∀c,eat=some c->zc4 k IL=some c:=by
 unfold z16 at H
 split at H
 ·rename_i t n aj d ho hd
  cases own with
  |false=>exact H.elim
  |true=>
   simp only[cond_true]at H
   cases hR:qu d cs with
   |false=>rw[hR]at H;exact H.elim
   |true=>
    rw[hR]at H
    simp only[cond_true]at H
    split at H
    ·rename_i hp
     obtain⟨el,ty,hK,hx⟩:=z14 (h0:=h0) (W:=W) (M0:=M0) (d:=d) ho hp H
     refine⟨_,none,_,⟨λn γ h a Y hs I hn _ _ _=>?_,λn γ a hs hv=>absurd trivial hv,λb hb=>?_,λhx=>absurd rfl hx⟩,hK,λc hc=>by cases hc⟩
     ·refine(hx γ h a (Y++cs) I (hn _ rfl)).mono ?_
      rintro v h' ⟨av,C',c,γ',⟨rfl,rfl,rfl⟩,h2,h3,h4⟩
      exact⟨_,γ',rfl,h2,h3,h4⟩
     ·cases hb
      exact⟨hR,hd,.inr ⟨⟨_,_,_,rfl⟩,rfl⟩⟩
    ·exact H.elim
 ·rename_i c d ho hd
  split at H
  ·rename_i s x t tx c0 e0 t0 xs hc Z aa ab
   split at H
   ·rename_i c1 sv ai ak
    cases hb:Nat.beq c1 c0 with
    |false=>rw[hb]at H;exact H.elim
    |true=>
     obtain rfl:=Ah hb
     rw[hb]at H
     simp only[cond_true]at H
     cases hR:qu d cs with
     |false=>rw[hR]at H;exact H.elim
     |true=>
      rw[hR]at H
      simp only[cond_true]at H
      obtain⟨el,ty,ys,hK,hx⟩:=z15 (h0:=h0) (W:=W) (M0:=M0) (d:=d) ho hc Z aa H
      have run:∀(n:Nat) (γ:Gh) (h:zb) (a:Act) (Y:CS),SatA n e γ a->Inv h0 W M0 (Y++cs) γ h->(∀cc,(some (c1,Ch.row e0 t0 xs):Option (Nat×Ch))=some cc->cc∈Y++cs/\∀x∈Y++cs,x.1=cc.1->x.2=cc.2)->qu d (Y++cs)=true ->
        ExA P (execOp a.eval o) h λv h'=>∃γ',DenV γ' (.g (.a (.own d))) v/\Inv h0 W M0 ((d,.row el ty ys)::Y0 c1 (Y++cs)) γ' h'/\Gx (some d) γ γ':=by
       intro n γ h a Y hs I he hn
       obtain⟨h1,h2⟩:=he _ rfl
       have hf:=zh5 h1 h2
       refine(hx γ h a (Y++cs) c1 I hf (zr hs (c:=[]) trivial ai) (zr hs (c:=[]) trivial ak)).mono ?_
       rintro v h' ⟨av,C',cc,γ',⟨rfl,rfl,rfl⟩,q2,q3,q4⟩
       rw[A8,zl2 (zb1 hn)]at q3
       exact⟨γ',q2,q3,q4⟩
      cases own with
      |true=>
       refine⟨some (d,.row el ty ys),some (c1,.row e0 t0 xs),.g (.a (.own d)),⟨λn γ h a Y hs I hn he af _=>?_,λn γ a hs hv=>absurd trivial hv,λb hb=>?_,λ_=>⟨d,hd,hR⟩⟩,hK,λc hc=>by cases hc;exact ab⟩
       ·refine(run n γ h a Y hs I he (hn _ rfl)).mono ?_
        rintro v h' ⟨γ',q2,q3,q4⟩
        exact⟨_,γ',rfl,q2,q3,q4⟩
       ·cases hb
        exact⟨hR,hd,.inr ⟨⟨_,_,_,rfl⟩,rfl⟩⟩
      |false=>
       refine⟨none,some (c1,.row e0 t0 xs),.g (.a (.d (.row ty) ys)),⟨λn γ h a Y hs I hn he af _=>?_,λn γ a hs hv=>absurd trivial hv,λb hb=>(by cases hb),λ_=>⟨d,hd,hR⟩⟩,hK,λc hc=>by cases hc;exact ab⟩
       have ae:=af d hd (by simp)
       refine(run n γ h a Y hs I he ae).mono ?_
       rintro v h' ⟨γ',q2,q3,q4⟩
       obtain⟨γ2,I2,g2⟩:=Inv.freeze1 (A:=[]) q3
       have am:Rd γ2.M (.row ty) ys [slV (γ2.σ d)]:=I2.den (d,.fz ty ys) (by simp)
       have hv:v=slV (γ'.σ d):=q2
       have hσ:γ2.σ d=γ'.σ d:=(g2.2 d (by simp)).2
       have ah:=Z4 (zb1 (d:=c1) ae)
       refine⟨_,{ γ2 with β:=γ.β,σ:=γ.σ },rfl,?_,?_,⟨q4.1.trans g2.1,λi _=>⟨rfl,rfl⟩⟩⟩
       ·show Rd γ2.M (.row ty) ys [v]
        rw[hv,<-hσ];exact am
       ·refine I2.rest (by simp[z1w]) (c:=some d) ⟨Fr.le.refl _,λi hi=>?_⟩ (λx hx=>⟨(ah x hx).1,(ah x hx).2⟩) (λx hx b hb=>⟨rfl,(I2.sep x (by simp;exact .inr hx) b hb).2⟩) I2.ag (λ_ _ _=>rfl) (Ad _) (λ_ _=>rfl)
        have a1:=q4.2 i hi
        have a2:=g2.2 i (by simp)
        exact⟨a1.1.symm.trans a2.1.symm,a1.2.symm.trans a2.2.symm⟩
   ·exact H.elim
  ·exact H.elim
 ·exact H.elim
def yg(ops:Array Oper)(m:Nat):List Nat:=yn (ops.toList.take m)
def Qq(av:AV):List Nat->Bool
 |[]=>true
 |s::l=>bif zuj s av then false else Qq av l
theorem zh6{av:AV}:∀{l:List Nat},Qq av l=true->∀s∈l,zuj s av=false
 |[],_,s,hs=>by cases hs
 |x::l,h,s,hs=>by
  simp only[Qq]at h
  cases hb:zuj x av with
  |true=>rw[hb]at h;cases h
  |false=>
   rw[hb]at h
   rcases Ai.1 hs with rfl|hs
   ·exact hb
   ·exact zh6 h s hs
def zed(S:List Nat):qt->qt
 |[]=>[]
 |(i,[],v)::e=>bif memN S i then zed S e else(bif Qq v S then(i,[],v)::zed S e else zed S e)
 |(_,_::_,_)::e=>zed S e
theorem jv{S:List Nat}{x:Nat×zx×AV}:∀{e:qt},x∈zed S e->x∈e/\x.2.1=[]/\x.1∉S/\Qq x.2.2 S=true
 |[],h=>by cases h
 |(i,[],v)::e,h=>by
  simp only[zed]at h
  cases hm:memN S i with
  |true=>rw[hm]at h;exact⟨Ag _ (jv h).1,(jv h).2⟩
  |false=>
   rw[hm]at h
   simp only[cond_false]at h
   cases hn:Qq v S with
   |false=>rw[hn]at h;exact⟨Ag _ (jv h).1,(jv h).2⟩
   |true=>
    rw[hn]at h
    rcases Ai.1 h with rfl|h
    ·exact⟨Am,rfl,wb hm,hn⟩
    ·exact⟨Ag _ (jv h).1,(jv h).2⟩
 |(_,_::_,_)::e,h=>⟨Ag _ (jv (e:=e) h).1,(jv (e:=e) h).2⟩
def z9p(ops:Array Oper)(o:Oper):zx->Bool
 |[]=>true
 |[(g,_)]=>match o.guard with
  |some (j,_)=>match yh ops j with
   |some g'=>Nat.beq g g'
   |none=>false
  |none=>false
 |_=>false
def z0m:List Nat->Nat->Bool
 |[x],k=>Nat.beq x k
 |_,_=>false
def inL:List Nat->Nat->Bool
 |[],_=>false
 |x::l,k=>bif Nat.beq x k then true else inL l k
theorem zvc{k:Nat}:∀{l:List Nat},inL l k=true->k∈l
 |[],h=>by cases h
 |x::l,h=>by
  simp only[inL]at h
  cases hb:Nat.beq x k with
  |true=>rw[Ah hb];exact Am
  |false=>rw[hb]at h;exact Ag _ (zvc h)
def zf2(ops:Array Oper)(m:Nat)(o:Oper)(k:Nat)(pl:Array Bool):Bool:=
 bif Nat.blt k m then(bif yw ops k (xe ops o) m then(bif ym o then z0m (Region.ready .any ops pl) k else inL (Region.ready .any ops pl) k)else false)else false
def zl3(S:List Nat)(av:AV)(nb:Option (Nat×Ch)):Bool:=match nb with
 |none=>Qq av S
 |some _=>true
def zsm(pl:Array Bool):Nat->Bool
 |0=>true
 |k+1=>bif pl.getD k false then zsm pl k else false
theorem zh7{pl:Array Bool}:∀{m:Nat},zsm pl m=true->∀k,k<m->pl.getD k false=true
 |0,_,k,hk=>by omega
 |m+1,h,k,hk=>by
  simp only[zsm]at h
  cases hb:pl.getD m false with
  |false=>rw[hb]at h;cases h
  |true=>
   rw[hb]at h
   rcases AF k m with h1|h1
   ·exact zh7 h k h1
   ·have:k=m:=by omega
    subst this;exact hb
def zqg(P:Program)(ρ:Operand->Option AV)(o:Oper):Bool:=bif zea o then(bif isQ P o then(bif jc o.op then zfq ρ o.op.operands.toList else false)else false)else false
def zc5(P:Program)(e:qt)(c:zx)(o:Oper):Bool:=match o.op with
 |.pick _ _ _=>true
 |.move _=>true
 |.assign _=>true
 |.extract _ _=>true
 |.alloc _=>false
 |.box _ _=>false
 |.buildSlice _ _ _=>false
 |.call _=>false
 |.load _ _=>false
 |.indexAddr _ _ _=>false
 |_=>zqg P (zeb e c) o
theorem zl4{e:qt}(h:zc5 P e c o=true):ym o=false:=by
 unfold ym
 split
 ·rename_i c ho;rw[zc5,ho]at h;cases h
 ·rfl
def zb2(P:Program)(o:Oper)(e:qt)(ch:zx)(Kan:AV->Prop):Prop:=
 ∀av,Kan av->∀(n:Nat) (γ:Gh) (a:Act),SatA n e γ a->valid (zm a) ch->∃v,DenV γ av v/\∀w,(execOp a.eval o).run P w=.ok (.value v) w
theorem QExec.all{α:Type}{s:Sem α}{x:α}(H:∀h,QExec P s h x)(w:World):s.run P w=.ok x w:=H w.heap w w.drawn
theorem zvd{e:qt}{K:AV->Prop}(H:zyz P gl o e c cs K)(hp:zc5 P e c o=true):∃av,K av/\zb2 P o e c (· = av):=by
 unfold zyz at H
 split at H
 ·rename_i x y z ho
  obtain⟨av,h1,h2⟩:=Y7 H
  refine⟨av,h1,λaa e' n γ a hs hv=>?_⟩
  obtain⟨t,h3,h4⟩:=h2 n γ a hs hv
  subst e'
  refine⟨_,h4,QExec.all λh B d=>?_⟩
  simp only[execOp,ho,h3,asBool,Sem.run_bind,Sem.run_pure,Result.andThen_ok]
 ·rename_i ah
  split at H
  ·rename_i g hg
   unfold qA at H
   split at H
   ·rename_i b hb
    exact⟨_,H,λaa e' n γ a hs hv=>⟨_,e' ▸ (show DenV γ (.g (.a (.v (.bool b)))) _ from rfl),QExec.all λh=>zlr hb (λx av hx=>zr hs hv hx) h⟩⟩
   split at H
   ·rename_i b hb
    exact⟨_,H,λaa e' n γ a hs hv=>⟨_,e' ▸ (show DenV γ (.g (.a (.v (.bool b)))) _ from rfl),QExec.all λh=>zhv hb (λx av hx=>zr hs hv hx) h⟩⟩
   split at H
   ·rename_i t b off ab
    exfalso
    unfold z1l at ab
    split at ab
    ·rename_i t' x ho;rw[zc5,ho]at hp;cases hp
    ·cases ab
   split at H
   ·rename_i b off n len z ab
    exfalso
    unfold z1m at ab
    split at ab
    ·rename_i t' x i ho;rw[zc5,ho]at hp;cases hp
    ·cases ab
   unfold qA0 at H
   cases hb:zqg P (zeb e c) o with
   |true=>
    unfold zqg at hb
    rw[hb]at H
    cases hfam:zea o with
    |false=>rw[hfam]at hb;cases hb
    |true=>
     cases hq:isQ P o with
     |false=>rw[hfam,hq]at hb;cases hb
     |true=>
      cases hns:jc o.op with
      |false=>rw[hfam,hq,hns]at hb;cases hb
      |true=>
       rw[hfam,hq,hns]at hb
       simp only[cond_true]at hb H
       obtain⟨v,h1,h2⟩:=Wz hfam H
       refine⟨_,h1,λaa e' n γ a hs hv=>⟨v,e' ▸ Yd γ v,QExec.all λh=>?_⟩⟩
       rw[zlg (γ:=γ) (λx av hx=>zr hs hv hx) hns hb]
       exact h2 (wl hs hg hv) h ⟨by simp,λi hi=>absurd hi (by simp)⟩
   |false=>
    have ae:=hb
    unfold zqg at ae
    rw[ae]at H
    simp only[cond_false]at H
    unfold zc5 at hp
    split at hp
    ·rename_i x y z ho;exact absurd ho (ah x y z)
    ·rename_i x ho
     rw[ho]at H
     simp only at H
     split at H
     ·rename_i av Z
      exact⟨av,H,λaa e' n γ a hs hv=>⟨_,e' ▸ zr hs hv Z,QExec.all λh=>by simp only[execOp,ho];exact QExec.pure _⟩⟩
     ·exact H.elim
    ·rename_i x ho
     rw[ho]at H
     simp only at H
     split at H
     ·rename_i av Z
      exact⟨av,H,λaa e' n γ a hs hv=>⟨_,e' ▸ zr hs hv Z,QExec.all λh=>by simp only[execOp,ho];exact QExec.pure _⟩⟩
     ·exact H.elim
    ·rename_i x i ho
     rw[ho]at H
     simp only at H
     split at H
     ·rename_i l Z
      split at H
      ·rename_i ag af
       refine⟨_,H,λaa e' n γ a hs hv=>?_⟩
       subst e'
       obtain⟨us,e1,h2⟩:=zr hs hv Z
       obtain⟨u,hu,hd⟩:=h2.get af
       refine⟨u,hd,QExec.all λh=>?_⟩
       simp only[execOp,ho,e1]
       refine QExec.val λB d=>?_
       unfold Instr.extract
       simp[hu]
      ·exact H.elim
     ·rename_i b p c Z
      split at H
      ·refine⟨_,H,λaa e' n γ a hs hv=>⟨_,e' ▸ (show DenV γ (.g (.a (.v (.bool b)))) _ from rfl),QExec.all λh=>?_⟩⟩
       obtain⟨e1,e2⟩:=zr hs hv Z
       simp only[execOp,ho]
       refine QExec.val λB d=>?_
       cases b with
       |true=>rw[e1 rfl];rfl
       |false=>rw[e2 rfl];rfl
      ·refine⟨_,H.2,λaa e' n γ a hs hv=>⟨_,e' ▸ (show DenV γ (.g (.a (.v (.int .i64 p)))) _ from rfl),QExec.all λh=>?_⟩⟩
       obtain⟨e1,_⟩:=zr hs hv Z
       simp only[execOp,ho,e1 (H.1.out (wl hs hg hv))]
       exact QExec.val λB d=>rfl
      ·refine⟨_,H.2,λaa e' n γ a hs hv=>⟨_,e' ▸ (show DenV γ (.g (.a (.v (.int .i32 c)))) _ from rfl),QExec.all λh=>?_⟩⟩
       obtain⟨e1,_⟩:=zr hs hv Z
       simp only[execOp,ho,e1 (H.1.out (wl hs hg hv))]
       exact QExec.val λB d=>rfl
      ·exact H.elim
     ·exact H.elim
    ·cases hp
    ·cases hp
    ·cases hp
    ·cases hp
    ·cases hp
    ·cases hp
    ·rw[hb]at hp;cases hp
  ·exact H.elim
theorem zsn{e:qt}{ch:zx}{K:AV->Option (Nat×Ch)->Prop}(H:zva P gl tr o e ch cs K)(hp:zc5 P e ch o=true):
  ∃av,Spec h0 W M0 P o e ch cs none (· = av)/\K av none/\zb2 P o e ch (· = av):=by
 have H':zyz P gl o e ch cs λav=>K av none:=by
  unfold zva at H
  split at H
  ·rename_i t ho;rw[zc5,ho]at hp;cases hp
  ·rename_i t x ho;rw[zc5,ho]at hp;cases hp
  ·rename_i t n ps ho;rw[zc5,ho]at hp;cases hp
  ·rename_i c ho;rw[zc5,ho]at hp;cases hp
  ·exact H
 obtain⟨av,h1,h2⟩:=zvd H' hp
 refine⟨av,⟨λn γ h a Y hs I _ _ _ hv=>?_,λn γ a hs hv=>⟨rfl,rfl,av,rfl⟩,λb hb=>(by cases hb),λhx=>absurd rfl hx⟩,h1,h2⟩
 obtain⟨v,hd,hq⟩:=h2 av rfl n γ a hs hv
 exact λB d=>.inl ⟨v,d,h,hq _,av,γ,rfl,hd,I,Gx.refl _ _⟩
def zve(ops:Array Oper)(k:Nat)(o:Oper)(j:Nat):Bool:=bif Nat.beq j k then true else bif Region.waitsFor .any ops j k then true else bif Region.waitsFor .any ops k j then true else match ops[j]? with
 |some oj=>o.apart ops oj
 |none=>true
def zob(ops:Array Oper)(k:Nat)(o:Oper):Nat->Bool
 |0=>true
 |j+1=>bif zve ops k o j then zob ops k o j else false
theorem zh8{ops:Array Oper}{k:Nat}{o:Oper}:∀{n:Nat},zob ops k o n=true->∀j oj,j<n->ops[j]?=some oj->j≠k->Region.waitsFor .any ops j k=false->Region.waitsFor .any ops k j=false->o.apart ops oj=true
 |0,_,j,oj,hj,_,_,_,_=>by omega
 |n+1,h,j,oj,hj,ho,h1,h2,h3=>by
  simp only[zob]at h
  cases hx:zve ops k o n with
  |false=>rw[hx]at h;cases h
  |true=>
   rw[hx]at h
   rcases AF j n with Z|Z
   ·exact zh8 h j oj Z ho h1 h2 h3
   ·have:j=n:=by omega
    subst this
    have e1:Nat.beq j k=false:=by
     cases hb:Nat.beq j k with
     |false=>rfl
     |true=>exact absurd (Ah hb) h1
    unfold zve at hx
    rw[e1,h2,h3,ho]at hx
    exact hx
def zvf(P:Program)(ops:Array Oper)(pu:List Nat)(o:Oper)(k:Nat)(e:qt)(ch:zx):Bool:=
 bif memN pu k then(bif zc5 P e ch o then zob ops k o ops.size else false)else true
def z2a(ops:Array Oper)(m k:Nat):Option Nat->Bool
 |none=>true
 |some j=>bif Nat.blt j m then Region.waitsFor .any ops j k else false
def uC(pu:List Nat)(k:Nat):Option (Option Nat):=bif memN pu k then none else zy1 pu k
def z2b:List It->List It
 |[]=>[]
 |i::l=>(match i.us with
  |some _=>{ i with nb:=none }
  |none=>i)::z2b l
def dW(P:Program)(gl:Fr)(tr:TypeId)(n:Nat)(ops:Array Oper)(m:Nat)(pu:List Nat)(e0:qt)(cs:CS)(Kt:List It->Prop):List Nat->Array Bool->List It->Prop
 |[],pl,IL=>bif zsm pl m then Kt (z2b IL)else False
 |k::ord,pl,IL=>match ops[k]? with
  |none=>False
  |some o=>bif zf2 ops m o k pl then(match Qp ops (Js (xe ops o) (itE IL++e0)) o.guard with
   |some ch=>bif z9p ops o ch then(bif qk n ch o.dst then(bif zvf P ops pu o k (Js (xe ops o) (itE IL++e0)) ch then(match uC pu k with
    |none=>zva P gl tr o (Js (xe ops o) (itE IL++e0)) ch cs (λav nb=>bif zl3 (yg ops m) av nb then dW P gl tr n ops m pu e0 cs Kt ord (pl.setIfInBounds k true) (⟨k,o.dst,ch,av,nb,none⟩::IL)else False)
    |some us=>bif z2a ops m k us then(match ch with
     |[]=>z16 P tr o k (Js (xe ops o) (itE IL++e0)) IL cs us.isSome (λav nb _=>bif zl3 (yg ops m) av nb then dW P gl tr n ops m pu e0 cs Kt ord (pl.setIfInBounds k true) (⟨k,o.dst,[],av,nb,us⟩::IL)else False)
     |_=>False)else False)else False)else False)else False
   |none=>False)else False
def strip(listed:Array Bool)(i:It):It:=match i.us with
 |some j=>bif listed.getD j false then { i with nb:=none } else i
 |none=>i
theorem zc6(listed:Array Bool)(i:It):(strip listed i).k=i.k/\(strip listed i).dst=i.dst/\(strip listed i).ch=i.ch/\(strip listed i).av=i.av/\(strip listed i).us=i.us/\((strip listed i).nb=i.nb\/(strip listed i).nb=none):=by
 unfold strip
 split
 ·cases listed.getD _ false with
  |true=>exact⟨rfl,rfl,rfl,rfl,rfl,.inr rfl⟩
  |false=>exact⟨rfl,rfl,rfl,rfl,rfl,.inl rfl⟩
 ·exact⟨rfl,rfl,rfl,rfl,rfl,.inl rfl⟩
def zc7(k:Nat)(i:It):It:=match i.us with
 |some j=>bif Nat.beq j k then { i with nb:=none } else i
 |none=>i
theorem zqh(k:Nat)(i:It):(zc7 k i).k=i.k/\(zc7 k i).dst=i.dst/\(zc7 k i).ch=i.ch/\(zc7 k i).av=i.av/\(zc7 k i).us=i.us/\((zc7 k i).nb=i.nb\/(zc7 k i).nb=none):=by
 unfold zc7
 split
 ·cases Nat.beq _ k with
  |true=>exact⟨rfl,rfl,rfl,rfl,rfl,.inr rfl⟩
  |false=>exact⟨rfl,rfl,rfl,rfl,rfl,.inl rfl⟩
 ·exact⟨rfl,rfl,rfl,rfl,rfl,.inl rfl⟩
def x7(listed:Array Bool):List It->List It
 |[]=>[]
 |i::l=>bif listed.getD i.k false then strip listed i::x7 listed l else x7 listed l
theorem zjj{listed:Array Bool}{i:It}:∀{l:List It},i∈l->listed.getD i.k false=true->strip listed i∈x7 listed l
 |j::l,h,hl=>by
  simp only[x7]
  rcases Ai.1 h with rfl|h
  ·rw[hl];exact Am
  ·cases listed.getD j.k false with
   |true=>exact Ag _ (zjj h hl)
   |false=>exact zjj h hl
theorem Jb{listed:Array Bool}{x:It}:∀{l:List It},x∈x7 listed l->∃i∈l,listed.getD i.k false=true/\x=strip listed i
 |j::l,h=>by
  simp only[x7]at h
  cases hl:listed.getD j.k false with
  |true=>
   rw[hl]at h
   rcases Ai.1 h with rfl|h
   ·exact⟨j,Am,hl,rfl⟩
   ·obtain⟨i,hi,q⟩:=Jb h
    exact⟨i,Ag _ hi,q⟩
  |false=>
   rw[hl]at h
   obtain⟨i,hi,q⟩:=Jb h
   exact⟨i,Ag _ hi,q⟩
structure ItOK (h0:zb) (W:Nat->Prop) (M0:Fr) (P:Program) (n:Nat) (ops:Array Oper) (m:Nat) (pu:List Nat) (e0:qt) (cs:CS) (IL:List It) (it:It) (Kan:AV->Prop):Prop where
 lt:it.k<m
 dst:yh ops it.k=it.dst
 ok:qk n it.ch it.dst=true
 chw:∀x∈it.ch,∀p,p<m->yh ops p=some x.1->Region.waitsFor .any ops it.k p=true
 ex:∃o e eat,ops[it.k]?=some o/\Qp ops e o.guard=some it.ch/\Spec h0 W M0 P o e it.ch cs it.nb Kan eat /\
  (∀x∈e,x∈e0\/(x∈itE IL/\∀p,p<m->yh ops p=some x.1->Region.waitsFor .any ops it.k p=true)) /\
  (memN pu it.k=true->it.nb=none/\zb2 P o e it.ch Kan/\zob ops it.k o ops.size=true/\ym o=false) /\
  (∀c,eat=some c->∃i∈IL,i.nb=some c/\i.us=some it.k)
 use:∀j,it.us=some j->j<m/\Region.waitsFor .any ops j it.k=true
 men:∀av,Kan av->it.nb=none->Qq av (yg ops m)=true
theorem ItOK.mono{e0:qt}{IL Z:List It}{it:It}{Kan:AV->Prop}(H:ItOK h0 W M0 P n ops m pu e0 cs IL it Kan)(hs:∀i∈IL,i∈Z):ItOK h0 W M0 P n ops m pu e0 cs Z it Kan:=
 {lt:=H.lt,dst:=H.dst,ok:=H.ok,chw:=H.chw,men:=H.men,use:=H.use,ex:=by
   obtain⟨o,e,eat,h1,h2,h3,h4,ab,aa⟩:=H.ex
   refine⟨o,e,eat,h1,h2,h3,λx hx=>(h4 x hx).imp id λ⟨h5,h6⟩=>⟨?_,h6⟩,ab,λc hc=>by
    obtain⟨i,hi,q⟩:=aa c hc
    exact⟨i,hs i hi,q⟩⟩
   obtain⟨i,hi,q⟩:=Wj.1 h5
   exact Wj.2 ⟨i,hs i hi,q⟩ }
theorem xx{i p:Nat}(hi:i∈Region.ready .any ops listed)(hw:Region.waitsFor .any ops i p=true):listed.getD p false=true:=by
 obtain⟨oj,ab,e,he,hb,aa⟩:=Region.waitsFor_spec hw
 obtain⟨_,o,ho,Z⟩:=mem_ready.1 hi
 have:oj=o:=Aq (ab.symm.trans ho)
 subst this
 rw[<-aa];exact Z e he hb
structure Mid (h0:zb) (W:Nat->Prop) (M0:Fr) (P:Program) (n:Nat) (ops:Array Oper) (m:Nat) (e0:qt) (cs:CS) (listed:Array Bool) (IL:List It) (γ:Gh) (a:Act) (h:zb):Prop where
 sat:SatA n (itE (x7 listed IL)++e0) γ a
 inv:Inv h0 W M0 (itC (x7 listed IL)++cs) γ h
theorem Jc{k:Nat}(h:ops[k]?=some o):yh ops k=o.dst:=by simp[yh,h]
theorem zc8{m k t:Nat}(hk:k<m)(h:yh ops k=some t):t∈yg ops m:=by
 unfold yh at h
 split at h
 ·rename_i o ho
  unfold yg
  have Z:o∈ops.toList.take m:=by
   rw[List.mem_iff_getElem?]
   exact⟨k,by rw[AC,if_pos hk];simpa using ho⟩
  generalize ops.toList.take m=l at Z
  induction l with
  |nil=>cases Z
  |cons x l ih=>
   simp only[yn]
   rcases Ai.1 Z with rfl|Z
   ·rw[h];exact Am
   ·split
    ·exact Ag _ (ih Z)
    ·exact ih Z
 ·cases h
theorem zf3{x:Nat×Ch}:∀{l:List It},x∈itC l↔∃i∈l,i.nb=some x
 |[]=>by simp[itC]
 |i::l=>by
  simp only[itC]
  split
  ·rename_i b hb
   rw[Ai,zf3 (l:=l)]
   constructor
   ·rintro(rfl|⟨j,hj,h⟩)
    ·exact⟨i,Am,hb⟩
    ·exact⟨j,Ag _ hj,h⟩
   ·rintro⟨j,hj,h⟩
    rcases Ai.1 hj with rfl|hj
    ·left;rw[hb]at h;exact(Aq h).symm
    ·exact .inr ⟨j,hj,h⟩
  ·rename_i hb
   rw[zf3 (l:=l)]
   constructor
   ·rintro⟨j,hj,h⟩;exact⟨j,Ag _ hj,h⟩
   ·rintro⟨j,hj,h⟩
    rcases Ai.1 hj with rfl|hj
    ·rw[hb]at h;cases h
    ·exact⟨j,hj,h⟩
theorem zqi{c:Nat}:∀{l:CS},(∀x∈l,x.1≠c/\zcy c x.2=false)->qu c l=true
 |[],_=>rfl
 |(j,k)::l,h=>by
  obtain⟨h1,h2⟩:=h _ Am
  simp only[qu]
  have:Nat.beq j c=false:=by
   cases hb:Nat.beq j c with
   |false=>rfl
   |true=>exact absurd (Ah hb) h1
  rw[this,h2]
  exact zqi λx hx=>h x (Ag _ hx)
theorem zh9{e0:qt}(ap:jl ops m=true)(a6:∀x∈e0,x.2.1=[]/\x.1∉yg ops m/\Qq x.2.2 (yg ops m)=true)
  {IL:List It} (af:∀i∈IL,∃Kan,ItOK h0 W M0 P n ops m pu e0 cs IL i Kan/\Kan i.av) (aE:∀i∈IL,∀j∈IL,i.k=j.k->i=j) (bq:HeadInv .any ops m listed) (M:Mid h0 W M0 P n ops m e0 cs listed IL γ a h)
  {it:It} {Kan:AV->Prop} (T:ItOK h0 W M0 P n ops m pu e0 cs IL it Kan) (hr:it.k∈Region.ready .any ops listed):
  ∃o e eat,ops[it.k]?=some o/\o.dst=it.dst/\SatA n e γ a/\Qp ops e o.guard=some it.ch/\Spec h0 W M0 P o e it.ch cs it.nb Kan eat/\(memN pu it.k=true->it.nb=none/\zb2 P o e it.ch Kan/\zob ops it.k o ops.size=true/\ym o=false) /\
   (∀b,it.nb=some b->qu b.1 (itC (x7 listed IL)++cs)=true) /\
   (∀c,eat=some c->c∈itC (x7 listed IL)++cs/\∀x∈itC (x7 listed IL)++cs,x.1=c.1->x.2=c.2)/\(∀d,o.dst=some d->eat≠none->qu d (itC (x7 listed IL)++cs)=true) /\
   ∀av u γ' h',Kan av->(valid (zm a) it.ch->DenV γ' av u)->(¬valid (zm a) it.ch->u=undef)->Inv h0 W M0 (it.nb.toList++z1w eat (itC (x7 listed IL)++cs)) γ' h'->Gx (it.nb.map (·.1)) γ γ' ->
    ∀L':List It,L'.Perm ({ it with av:=av }::(x7 listed IL).map (zc7 it.k))->SatA n (itE L'++e0) γ' (a.put it.dst u)/\Inv h0 W M0 (itC L'++cs) γ' h':=by
 obtain⟨o,e,eat,ho,aM,sp,aN,a1,ak⟩:=T.ex
 have an:o.dst=it.dst:=by rw[<-Jc ho];exact T.dst
 have aC:listed.getD it.k true=false:=(mem_ready.1 hr).1
 have aB:SatA n e γ a:=M.sat.sub λx hx=>by
  rcases aN x hx with h1|⟨h1,h2⟩
  ·exact Av _ h1
  ·refine Ao _ ?_
   obtain⟨i,hi,q⟩:=Wj.1 h1
   obtain⟨Ki,Ti,_⟩:=af i hi
   have hw:=h2 i.k Ti.lt (by rw[Ti.dst];exact q.1)
   obtain⟨f1,f2,f3,f4,_⟩:=zc6 listed i
   exact Wj.2 ⟨strip listed i,zjj hi (xx hr hw),by rw[f2];exact q.1,by rw[f3];exact q.2.1,by rw[f4];exact q.2.2⟩
 have hw:=wv aB aM
 have ay:∀i∈x7 listed IL,i.k≠it.k:=by
  intro x hi e
  obtain⟨i,ab,this,rfl⟩:=Jb hi
  rw[(zc6 listed i).1]at e
  rw[e]at this
  have h2:=getD_both aC
  rw[h2]at this
  cases this
 have aA:∀d,o.dst=some d->qu d cs=true->qu d (itC (x7 listed IL)++cs)=true:=by
  intro d h2 h1
  refine zqi λx hx=>?_
  rcases Aw.1 hx with hx|hx
  ·obtain⟨i',hi,aa⟩:=zf3.1 hx
   obtain⟨i,ab,ar,rfl⟩:=Jb hi
   have ax:=ay _ hi
   obtain⟨f1,_,_,_,_,f6⟩:=zc6 listed i
   have Z:i.nb=some x:=by
    rcases f6 with f6|f6
    ·rw[<-f6];exact aa
    ·rw[f6]at aa;cases aa
   obtain⟨Ki,Ti,aI⟩:=af i ab
   obtain⟨oi,ei,aY,aj,_,ah,_,_⟩:=Ti.ex
   obtain⟨_,h4,h5⟩:=ah.box x Z
   refine⟨λe=>ax ?_,?_⟩
   ·rw[f1]
    refine qm ap i.k it.k d Ti.lt T.lt ?_ (by rw[T.dst,<-an];exact h2)
    rw[Jc aj,h4,e]
   ·rcases h5 with⟨⟨l,h5,h6⟩,_⟩|⟨⟨e',t',bA,h5⟩,_⟩
    ·rw[h5];exact Zx h6
    ·rw[h5];rfl
  ·obtain⟨e1,e2⟩:=Z4 h1 x hx
   exact⟨λe=>e1 (by rw[e]),e2⟩
 have aO:∀b,it.nb=some b->qu b.1 (itC (x7 listed IL)++cs)=true:=by
  intro b hb
  obtain⟨h1,h2,_⟩:=sp.box b hb
  exact aA b.1 h2 h1
 have bm:∀d,o.dst=some d->eat≠none->qu d (itC (x7 listed IL)++cs)=true:=by
  intro d hd he
  obtain⟨d',bu,hn⟩:=sp.dn he
  have:d'=d:=Aq (bu.symm.trans hd)
  subst this
  exact aA d' hd hn
 have aZ:∀c,eat=some c->∀i∈IL,∀b,i.nb=some b->b.1=c.1->i.us=some it.k/\b=c:=by
  intro c hc i hi b hb e1
  obtain⟨i3,ae,q1,q2⟩:=ak c hc
  obtain⟨Ki,Ti,_⟩:=af i hi
  obtain⟨K3,T3,_⟩:=af i3 ae
  obtain⟨oi,ei,aY,aj,_,ah,_⟩:=Ti.ex
  obtain⟨o3,e3,a7,aT,_,aL,_⟩:=T3.ex
  obtain⟨_,d1,_⟩:=ah.box b hb
  obtain⟨_,d3,_⟩:=aL.box c q1
  have hk:i.k=i3.k:=qm ap i.k i3.k c.1 Ti.lt T3.lt (by rw[Jc aj,d1,e1]) (by rw[Jc aT,d3])
  have:i=i3:=aE i hi i3 ae hk
  subst this
  exact⟨q2,Aq (hb.symm.trans q1)⟩
 have aQ:∀c,eat=some c->qu c.1 cs=true:=by
  intro c hc
  obtain⟨i3,ae,q1,q2⟩:=ak c hc
  obtain⟨K3,T3,_⟩:=af i3 ae
  obtain⟨o3,e3,a7,aT,_,aL,_⟩:=T3.ex
  exact(aL.box c q1).1
 have bo:∀x∈itC (x7 listed IL),∃i∈IL,i.nb=some x:=by
  intro x hx
  obtain⟨i',hi,aa⟩:=zf3.1 hx
  obtain⟨i,ab,ar,rfl⟩:=Jb hi
  rcases(zc6 listed i).2.2.2.2.2 with f6|f6
  ·exact⟨i,ab,by rw[<-f6];exact aa⟩
  ·rw[f6]at aa;cases aa
 have aF:∀c,eat=some c->c∈itC (x7 listed IL)++cs/\∀x∈itC (x7 listed IL)++cs,x.1=c.1->x.2=c.2:=by
  intro c hc
  refine⟨Ao _ ?_,λx hx e=>?_⟩
  ·obtain⟨i3,ae,q1,q2⟩:=ak c hc
   obtain⟨K3,T3,_⟩:=af i3 ae
   have hw:=(T3.use _ q2).2
   have hl:=xx hr hw
   refine zf3.2 ⟨strip listed i3,zjj ae hl,?_⟩
   unfold strip
   rw[q2]
   simp only
   rw[getD_both aC]
   exact q1
  ·rcases Aw.1 hx with hx|hx
   ·obtain⟨i,hi,Z⟩:=bo x hx
    rw[(aZ c hc i hi x Z e).2]
   ·exact absurd (by rw[e]) (Z4 (aQ c hc) x hx).1
 refine⟨o,e,eat,ho,an,aB,aM,sp,a1,aO,aF,bm,?_⟩
 ·intro av u γ' h' bz hy hn I' g L' hp
  refine⟨?_,?_⟩
  ·refine⟨by rw[zy];exact M.sat.defers,by rw[size_put];exact M.sat.size,λx hx=>?_⟩
   have old:∀x:Nat×zx×AV,x∈itE (x7 listed IL)++e0->(∀s,it.dst=some s->x.1≠s/\mentions x.2.1 s=false)->zuk zuj (it.nb.map (·.1)) x.2.2=false->zja γ' (zm (a.put it.dst u)) x:=by
    intro x hx hs hm
    have hf:=M.sat.all x hx
    cases hd:it.dst with
    |none=>
     exact⟨λhv=>(hf.1 hv).gx g hm,hf.2⟩
    |some s=>
     obtain⟨h1,h2⟩:=hs s hd
     have hv:=xb (σ:=zm (a.put (some s) u)) (τ:=zm a) h2 (λj hj=>qe hj)
     refine⟨λhc=>?_,λhc=>?_⟩
     ·rw[qe h1];exact(hf.1 (hv.1 hc)).gx g hm
     ·exact(qe h1).trans (hf.2 λaG=>hc (hv.2 aG))
   have aV:∀s,it.dst=some s->s∈yg ops m:=λs hs=>zc8 T.lt (by rw[T.dst];exact hs)
   have az:∀aJ,(Qq aJ (yg ops m)=true)->zuk zuj (it.nb.map (·.1)) aJ=false:=by
    intro aJ h1
    cases Z:it.nb with
    |none=>rfl
    |some b=>
     obtain⟨_,h2,_⟩:=sp.box b Z
     exact zh6 h1 b.1 (aV _ (by rw[<-an];exact h2))
   rcases Aw.1 hx with hx|hx
   ·obtain⟨i,hi,q1,q2,q3⟩:=Wj.1 hx
    rcases Ai.1 (hp.subset hi)with rfl|ai
    ·-- the new fact
     simp only at q1 q2 q3
     have aS:x.1<a.tmps.size:=by
      rw[M.sat.size]
      have:=T.ok
      rw[q1]at this
      simp only[qk]at this
      cases hm:mentions it.ch x.1 with
      |true=>rw[hm]at this;cases this
      |false=>rw[hm]at this;simpa[Cj]using this
     have aP:mentions it.ch x.1=false:=by
      have:=T.ok
      rw[q1]at this
      simp only[qk]at this
      cases hm:mentions it.ch x.1 with
      |true=>rw[hm]at this;cases this
      |false=>rfl
     rw[q1]
     have hv:=xb (σ:=zm (a.put (some x.1) u)) (τ:=zm a) aP (λj hj=>qe hj)
     refine⟨λhc=>?_,λhc=>?_⟩
     ·rw[qi aS,<-q3];rw[<-q2]at hc;exact hy (hv.1 hc)
     ·rw[qi aS];rw[<-q2]at hc;exact hn λaG=>hc (hv.2 aG)
    ·obtain⟨i1,aU,rfl⟩:=List.mem_map.1 ai
     obtain⟨c1,c2,c3,c4,_⟩:=zqh it.k i1
     rw[c2]at q1
     rw[c3]at q2
     rw[c4]at q3
     have ai:=aU
     obtain⟨i,ab,ar,rfl⟩:=Jb ai
     obtain⟨f1,f2,f3,f4,_⟩:=zc6 listed i
     have bg:=Wj.2 ⟨strip listed i,ai,q1,q2,q3⟩
     rw[f2]at q1
     rw[f3]at q2
     rw[f4]at q3
     have ax:i.k≠it.k:=by rw[<-f1];exact ay _ ai
     obtain⟨Ki,Ti,aI⟩:=af i ab
     obtain⟨oi,ei,aY,aj,_,ah,_,_⟩:=Ti.ex
     refine old x (Ao _ bg) (λs hs=>⟨λe=>ax ?_,?_⟩) ?_
     ·exact qm ap i.k it.k s Ti.lt T.lt (by rw[Ti.dst,q1,e]) (by rw[T.dst];exact hs)
     ·cases hm:mentions x.2.1 s with
      |false=>rfl
      |true=>
       exfalso
       rw[<-q2]at hm
       have:∃y∈i.ch,y.1=s:=by
        have key:∀c:zx,mentions c s=true->∃y∈c,y.1=s:=by
         intro c
         induction c with
         |nil=>intro h;cases h
         |cons y c ih=>
          intro h
          obtain⟨g,p⟩:=y
          simp only[mentions]at h
          cases hb:Nat.beq s g with
          |true=>exact⟨(g,p),Am,(Ah hb).symm⟩
          |false=>
           rw[hb]at h
           obtain⟨y,hy,e⟩:=ih h
           exact⟨y,Ag _ hy,e⟩
        exact key _ hm
       obtain⟨y,br,ba⟩:=this
       have be:=Ti.chw y br it.k T.lt (by rw[T.dst,hs,ba])
       obtain⟨oj,bn,e',a8,bh,bj⟩:=Region.waitsFor_spec be
       have:=bq.closed i.k oj bn ar e' a8 bh
       rw[bj,getD_both aC]at this
       cases this
     ·rw[<-q3]
      cases hnbi:i.nb with
      |none=>exact az _ (Ti.men _ aI hnbi)
      |some bi=>
       obtain⟨_,h4,h5⟩:=ah.box bi hnbi
       have am:i.av=.g (.a (.box bi.1 0))\/i.av=.g (.a (.own bi.1)):=by
        have:=aI
        rcases h5 with⟨_,h5⟩|⟨_,h5⟩
        ·rw[h5]at this;exact .inl this
        ·rw[h5]at this;exact .inr this
       cases Z:it.nb with
       |none=>rfl
       |some b=>
        obtain⟨_,h2,_⟩:=sp.box b Z
        have:Nat.beq bi.1 b.1=false->zuk zuj (Option.map (λx=>x.fst) (some b)) i.av=false:=λhq=>by
         rcases am with am|am
         ·rw[am];exact hq
         ·rw[am];exact hq
        apply this
        cases hb:Nat.beq bi.1 b.1 with
        |false=>rfl
        |true=>
         exfalso
         have:=Ah hb
         exact ax (qm ap i.k it.k b.1 Ti.lt T.lt (by rw[Jc aj,h4,this]) (by rw[T.dst,<-an];exact h2))
   ·obtain⟨b1,b2,b3⟩:=a6 x hx
    exact old x (Av _ hx) (λs hs=>⟨λe=>b2 (e ▸ aV s hs),by rw[b1];rfl⟩) (az _ b3)
  ·have e1:itC ({ it with av:=av }::(x7 listed IL).map (zc7 it.k))=it.nb.toList++itC ((x7 listed IL).map (zc7 it.k)):=by
    simp only[itC]
    cases it.nb <;> rfl
   have aH:∀{l l':List It},l.Perm l'->(itC l).Perm (itC l'):=by
    intro l l' hp
    induction hp with
    |nil=>exact .nil
    |cons x p ih=>simp only[itC];split;exact ih.cons _;exact ih
    |swap x y l=>
     simp only[itC]
     split <;> split <;> first|exact .swap _ _ _|exact .refl _
    |trans _ _ i1 i2=>exact i1.trans i2
   have sub:(itC ((x7 listed IL).map (zc7 it.k))++cs).Sublist (z1w eat (itC (x7 listed IL)++cs)):=by
    have s0:∀l:List It,(itC (l.map (zc7 it.k))).Sublist (itC l):=by
     intro l
     induction l with
     |nil=>exact .slnil
     |cons x l ih=>
      simp only[BZ,itC]
      rcases(zqh it.k x).2.2.2.2.2 with f|f
      ·rw[f]
       split
       ·exact ih.cons_cons _
       ·exact ih
      ·rw[f]
       simp only
       split
       ·exact ih.cons _
       ·exact ih
    cases he:eat with
    |none=>exact(s0 _).append_right cs
    |some c=>
     show(_:CS).Sublist (Y0 c.1 (itC (x7 listed IL)++cs))
     have hd:Y0 c.1 (itC (x7 listed IL)++cs)=Y0 c.1 (itC (x7 listed IL))++cs:=by
      have ha:∀l m:CS,Y0 c.1 (l++m)=Y0 c.1 l++Y0 c.1 m:=by
       intro l m
       induction l with
       |nil=>rfl
       |cons x l ih=>
        simp only[Bu,Y0]
        cases Nat.beq x.1 c.1 with
        |true=>exact ih
        |false=>simp only[cond_false,ih,Bu]
      have hb:∀l:CS,(∀x∈l,x.1≠c.1)->Y0 c.1 l=l:=by
       intro l
       induction l with
       |nil=>intro _;rfl
       |cons x l ih=>
        intro hx
        simp only[Y0]
        cases hq:Nat.beq x.1 c.1 with
        |true=>exact absurd (Ah hq) (hx x Am)
        |false=>rw[cond_false,ih λy hy=>hx y (Ag _ hy)]
      rw[ha,hb cs λx hx e=>(Z4 (aQ c he) x hx).1 (by rw[e])]
     rw[hd]
     refine List.Sublist.append_right ?_ cs
     have s1:∀l:List It,(∀i∈l,∀b,i.nb=some b->b.1=c.1->i.us=some it.k)->(itC (l.map (zc7 it.k))).Sublist (Y0 c.1 (itC l)):=by
      intro l
      induction l with
      |nil=>intro _;exact .slnil
      |cons x l ih=>
       intro hl
       have au:=ih λi hi=>hl i (Ag _ hi)
       simp only[BZ,itC]
       cases Z:x.nb with
       |none=>
        have:(zc7 it.k x).nb=none:=by
         rcases(zqh it.k x).2.2.2.2.2 with f|f
         ·rw[f,Z]
         ·exact f
        rw[this]
        exact au
       |some b=>
        simp only[Y0]
        cases hq:Nat.beq b.1 c.1 with
        |true=>
         have hu:=hl x Am b Z (Ah hq)
         have:(zc7 it.k x).nb=none:=by
          unfold zc7
          rw[hu]
          simp
         rw[this,cond_true]
         exact au
        |false=>
         rw[cond_false]
         rcases(zqh it.k x).2.2.2.2.2 with f|f
         ·rw[f,Z];exact au.cons_cons _
         ·rw[f];exact au.cons _
     refine s1 _ λx hx b hb e=>?_
     obtain⟨i,ab,ar,rfl⟩:=Jb hx
     obtain⟨_,_,_,_,f5,f6⟩:=zc6 listed i
     rw[f5]
     rcases f6 with f6|f6
     ·exact(aZ c he i ab b (by rw[<-f6];exact hb) e).1
     ·rw[f6]at hb;cases hb
   have I2:Inv h0 W M0 (it.nb.toList++(itC ((x7 listed IL).map (zc7 it.k))++cs)) γ' h':=I'.sub (sub.append_left _)
   rw[<-Bi,<-e1]at I2
   exact I2.perm ((aH hp.symm).append_right cs)
theorem zl5{e0:qt}{Q:Exit->Act->World->Prop}(ap:jl ops m=true)(an:∀x∈e0,x.2.1=[]/\x.1∉yg ops m/\Qq x.2.2 (yg ops m)=true)
  {IL:List It} (ax:∀i∈IL,∃Kan,ItOK h0 W M0 P n ops m pu e0 cs IL i Kan/\Kan i.av) (ab:∀i∈IL,∀j∈IL,i.k=j.k->i=j) (ar:HeadInv .any ops m listed) (M:Mid h0 W M0 P n ops m e0 cs listed IL γ a h)
  {it:It} {Kan:AV->Prop} (T:ItOK h0 W M0 P n ops m pu e0 cs IL it Kan) (hr:it.k∈Region.ready .any ops listed) {Kp:Act->World->Prop} (B:World) (d:Nat)
  (hK:∀av u γ' h' d',Kan av->(∀L':List It,L'.Perm ({ it with av:=av }::(x7 listed IL).map (zc7 it.k))->SatA n (itE L'++e0) γ' (a.put it.dst u)/\Inv h0 W M0 (itC L'++cs) γ' h')->Gx (it.nb.map (·.1)) γ γ'->Kp (a.put it.dst u) (mk B d' h')):
  wpOp P ops Q it.k Kp a (mk B d h):=by
 obtain⟨o,e,eat,ho,aj,Z,au,sp,az,am,ae,ay,ah⟩:=zh9 ap an ax ab ar M T hr
 have hw:=wv Z au
 unfold wpOp
 rw[ho]
 simp only
 by_cases hv:valid (zm a) it.ch
 ·rw[if_pos (hw.2 hv)]
  left
  have hx:=sp.yes n γ h a (itC (x7 listed IL)) Z M.inv am ae ay hv
  refine(ExA.upon hx B d ?_)
  rintro v d' h' ⟨av,γ',g1,g2,g3,g4⟩
  rw[aj]
  exact hK av v γ' h' d' g1 (ah av v γ' h' g1 (λ_=>g2) (λaf=>absurd hv af) g3 g4) g4
 ·rw[if_neg λhx=>hv (hw.1 hx)]
  obtain⟨ai,ak,av,aa⟩:=sp.no n γ a Z hv
  rw[aj]
  have g4:Gx (it.nb.map (·.1)) γ γ:=by rw[ai];exact Gx.refl _ _
  exact hK av undef γ h d aa (ah av undef γ h aa (λaf=>absurd af hv) (λ_=>rfl) (by rw[ai,ak];exact M.inv) g4) g4
theorem zvg{e0:qt}{Q:Exit->Act->World->Prop}(ay:jl ops m=true)(au:∀x∈e0,x.2.1=[]/\x.1∉yg ops m/\Qq x.2.2 (yg ops m)=true)
  {IL:List It} (aH:∀i∈IL,∃Kan,ItOK h0 W M0 P n ops m pu e0 cs IL i Kan/\Kan i.av) (af:∀i∈IL,∀j∈IL,i.k=j.k->i=j) (az:HeadInv .any ops m listed) (M:Mid h0 W M0 P n ops m e0 cs listed IL γ a h)
  {it:It} {Kan:AV->Prop} (T:ItOK h0 W M0 P n ops m pu e0 cs IL it Kan) (ae:Kan it.av) (hr:it.k∈Region.ready .any ops listed) (aB:memN pu it.k=true) (Z:Region.noSelect ops=true) (hQ:∀c a w,¬Q (.panic c) a w) (B:World) (d:Nat) {f:Nat}
  (hK:∀u,(∀L':List It,L'.Perm (it::(x7 listed IL).map (zc7 it.k))->SatA n (itE L'++e0) γ (a.put it.dst u)/\Inv h0 W M0 (itC L'++cs) γ h)->Gx (it.nb.map (·.1)) γ γ->wpAny P .any ops Q f (listed.setIfInBounds it.k true) (a.put it.dst u) (mk B d h)):
  wpAny P .any ops Q (f+1) listed a (mk B d h):=by
 obtain⟨o,e,eat,ho,am,ab,aA,sp,ap,aO,aM,aP,aj⟩:=zh9 ay au aH af az M T hr
 obtain⟨ak,aI,ai,_⟩:=ap aB
 have aa:Inv h0 W M0 (it.nb.toList++z1w eat (itC (x7 listed IL)++cs)) γ h:=by
  rw[ak]
  refine M.inv.sub ?_
  cases eat with
  |none=>exact List.Sublist.refl _
  |some c=>exact j5 c.1 _
 have hw:=wv ab aA
 have g4:Gx (it.nb.map (·.1)) γ γ:=by rw[ak];exact Gx.refl _ _
 have an:∀j oj,ops[j]?=some oj->j≠it.k->listed.getD j true=false->(∀e∈oj.after,Region.binds .any e=true->e.on≠it.k)->o.apart ops oj=true:=by
  intro j oj hj aN aC ar
  have aF:j<ops.size:=(Ac.1 hj).1
  refine zh8 ai j oj aF hj aN ?_ ?_
  ·cases hb:Region.waitsFor .any ops j it.k with
   |false=>rfl
   |true=>
    obtain⟨aE,ax,e',aL,aG,aJ⟩:=Region.waitsFor_spec hb
    have:aE=oj:=Aq (ax.symm.trans hj)
    subst this
    exact absurd aJ (ar e' aL aG)
  ·cases hb:Region.waitsFor .any ops it.k j with
   |false=>rfl
   |true=>
    have:=xx hr hb
    rw[getD_both aC]at this;cases this
 by_cases hv:valid (zm a) it.ch
 ·obtain⟨v,hd,hx⟩:=aI it.av ae n γ a ab hv
  refine wpAny_first ho (Region.noSelect_spec Z) (λc a w hq=>absurd hq (hQ c _ w)) f listed a (mk B d h) an hr (.inl ⟨hw.2 hv,hx⟩) ?_
  rw[am]
  exact hK v (aj it.av v γ h ae (λ_=>hd) (λah=>absurd hv ah) aa g4) g4
 ·refine wpAny_first ho (Region.noSelect_spec Z) (λc a w hq=>absurd hq (hQ c _ w)) f listed a (mk B d h) an hr (.inr ⟨by simpa using λhx=>hv (hw.1 hx),rfl⟩) ?_
  rw[am]
  exact hK undef (aj it.av undef γ h ae (λah=>absurd ah hv) (λ_=>rfl) aa g4) g4
structure GInv (h0:zb) (W:Nat->Prop) (M0:Fr) (P:Program) (n:Nat) (ops:Array Oper) (m:Nat) (pu:List Nat) (e0:qt) (cs:CS) (listed pl:Array Bool) (IL:List It):Prop where
 size:pl.size=ops.size
 mem:∀k,pl.getD k false=true↔∃i∈IL,i.k=k
 dist:IL.Pairwise λi j=>i.k≠j.k
 items:∀i∈IL,∃Kan,ItOK h0 W M0 P n ops m pu e0 cs IL i Kan/\Kan i.av/\(listed.getD i.k false=false->Kan=(· = i.av))
 sub:∀k,listed.getD k false=true->pl.getD k false=true
def zeu(ops:Array Oper):List Nat->Bool
 |[]=>true
 |k::_=>match ops[k]? with
  |some o=>ym o
  |none=>false
theorem getD_lt{k:Nat}(h:k<pl.size):pl.getD k true=pl.getD k false:=by simp[h]
theorem zoc(ax:Fr.le gl M0){e0:qt}{Kt:List It->Prop}{k:Nat}{IL:List It}(H:dW P gl tr n ops m pu e0 cs Kt (k::ord) pl IL):
  ∃o ch nb us Kan,ops[k]?=some o/\zf2 ops m o k pl=true/\(∀av,ItOK h0 W M0 P n ops m pu e0 cs IL ⟨k,o.dst,ch,av,nb,us⟩ Kan)/\(∀av,Kan av->dW P gl tr n ops m pu e0 cs Kt ord (pl.setIfInBounds k true) (⟨k,o.dst,ch,av,nb,us⟩::IL))/\(ym o=false->∃av,Kan=(· = av)):=by
 unfold dW at H
 split at H
 ·exact H.elim
 ·rename_i o ho
  cases hst:zf2 ops m o k pl with
  |false=>rw[hst]at H;exact H.elim
  |true=>
   rw[hst]at H
   simp only[cond_true]at H
   split at H
   ·rename_i ch ar
    cases hco:z9p ops o ch with
    |false=>rw[hco]at H;exact H.elim
    |true=>
     rw[hco]at H
     cases hok:qk n ch o.dst with
     |false=>rw[hok]at H;exact H.elim
     |true=>
      rw[hok]at H
      simp only[cond_true]at H
      cases hpo:zvf P ops pu o k (Js (xe ops o) (itE IL++e0)) ch with
      |false=>rw[hpo]at H;exact H.elim
      |true=>
      rw[hpo]at H
      simp only[cond_true]at H
      have aa:∃nb us eat Kan,Spec h0 W M0 P o (Js (xe ops o) (itE IL++e0)) ch cs nb Kan eat/\(∀av,Kan av->(bif zl3 (yg ops m) av nb then dW P gl tr n ops m pu e0 cs Kt ord (pl.setIfInBounds k true) (⟨k,o.dst,ch,av,nb,us⟩::IL)else False))/\(ym o=false->∃av,Kan=(· = av)) /\
        (memN pu k=true->nb=none/\zb2 P o (Js (xe ops o) (itE IL++e0)) ch Kan/\zob ops k o ops.size=true/\ym o=false) /\
        (∀c,eat=some c->∃i∈IL,i.nb=some c/\i.us=some k)/\(∀j,us=some j->j<m/\Region.waitsFor .any ops j k=true):=by
       unfold zvf at hpo
       unfold uC at H
       cases hmp:memN pu k with
       |false=>
        rw[hmp,cond_false]at H
        split at H
        ·obtain⟨nb,Kan,h1,h2,h3⟩:=zn9 (h0:=h0) (W:=W) (M0:=M0) ax H
         exact⟨nb,none,none,Kan,h1,h2,h3,λhc=>(by cases hc),λc hc=>(by cases hc),λj hj=>by cases hj⟩
        ·rename_i us az
         cases huo:z2a ops m k us with
         |false=>rw[huo]at H;exact H.elim
         |true=>
          rw[huo,cond_true]at H
          split at H
          ·obtain⟨nb,eat,av,h1,h2,h3⟩:=zoa (h0:=h0) (W:=W) (M0:=M0) H
           refine⟨nb,us,eat,(· = av),h1,λab e=>e ▸ h2,λ_=>⟨av,rfl⟩,λhc=>(by cases hc),λc hc=>zak (h3 c hc),λj hj=>?_⟩
           subst hj
           simp only[z2a]at huo
           cases hq:Nat.blt j m with
           |false=>rw[hq]at huo;cases huo
           |true=>rw[hq]at huo;exact⟨by simpa[Cj]using hq,huo⟩
          ·exact H.elim
       |true=>
        rw[hmp]at hpo
        simp only[cond_true]at hpo
        rw[hmp,cond_true]at H
        simp only at H
        cases hpb:zc5 P (Js (xe ops o) (itE IL++e0)) ch o with
        |false=>rw[hpb]at hpo;cases hpo
        |true=>
         rw[hpb]at hpo
         obtain⟨av,h1,h2,h3⟩:=zsn (h0:=h0) (W:=W) (M0:=M0) H hpb
         exact⟨none,none,none,(· = av),h1,λab e=>e ▸ h2,λ_=>⟨av,rfl⟩,λ_=>⟨rfl,h3,hpo,zl4 hpb⟩,λc hc=>(by cases hc),λj hj=>by cases hj⟩
      obtain⟨nb,us,eat,Kan,sp,hK,ae,am,ak,ai⟩:=aa
      have af:yw ops k (xe ops o) m=true:=by
       unfold zf2 at hst
       cases h1:Nat.blt k m with
       |false=>rw[h1]at hst;cases hst
       |true=>
        rw[h1]at hst
        cases h2:yw ops k (xe ops o) m with
        |false=>rw[h2]at hst;cases hst
        |true=>rfl
      have au:k<m:=by
       unfold zf2 at hst
       cases h1:Nat.blt k m with
       |false=>rw[h1]at hst;cases hst
       |true=>simpa[Cj]using h1
      have ah:∀av,Kan av->zl3 (yg ops m) av nb=true/\dW P gl tr n ops m pu e0 cs Kt ord (pl.setIfInBounds k true) (⟨k,o.dst,ch,av,nb,us⟩::IL):=by
       intro av Z
       have:=hK av Z
       cases hio:zl3 (yg ops m) av nb with
       |false=>rw[hio]at this;exact this.elim
       |true=>rw[hio]at this;exact⟨rfl,this⟩
      refine⟨o,ch,nb,us,Kan,ho,hst,λav=>⟨au,Jc ho,hok,?_,⟨o,_,eat,ho,ar,sp,λx hx=>?_,am,ak⟩,ai,λab Z aj=>?_⟩,λav Z=>(ah av Z).2,ae⟩
      ·-- the chain's slots
       intro x hx p hp hd
       refine zz af p x.1 hp hd ?_
       unfold z9p at hco
       split at hco
       ·cases hx
       ·rename_i g q
        have ay:x=(g,q):=by simpa using hx
        subst ay
        split at hco
        ·rename_i j pp ap
         split at hco
         ·rename_i g' an
          have e:=Ah hco
          unfold xe
          rw[ap]
          simp only[an]
          rw[e]
          exact Ao _ Am
         ·cases hco
        ·cases hco
       ·cases hco
      ·obtain⟨h1,h2⟩:=Yh hx
       rcases Aw.1 h1 with h1|h1
       ·exact .inr ⟨h1,λp hp hd=>zz af p x.1 hp hd h2⟩
       ·exact .inl h1
      ·have:=(ah ab Z).1
       simp only at aj
       subst aj
       exact this
   ·exact H.elim
theorem zvh{k:Nat}(h:zf2 ops m o k pl=true):k∈Region.ready .any ops pl/\(ym o=true->Region.ready .any ops pl=[k]):=by
 unfold zf2 at h
 cases h1:Nat.blt k m with
 |false=>rw[h1]at h;cases h
 |true=>
  rw[h1]at h
  cases h2:yw ops k (xe ops o) m with
  |false=>rw[h2]at h;cases h
  |true=>
   rw[h2]at h
   simp only[cond_true]at h
   cases ha:ym o with
   |false=>rw[ha]at h;exact⟨zvc h,λhc=>by cases hc⟩
   |true=>
    rw[ha]at h
    simp only[cond_true]at h
    have:Region.ready .any ops pl=[k]:=by
     unfold z0m at h
     split at h
     ·rename_i x _ hx;rw[hx,Ah h]
     ·cases h
    exact⟨by rw[this];exact Am,λ_=>this⟩
theorem zvi{P:Program}{gl:Fr}(ai:Fr.le gl M0){tr:TypeId}{n:Nat}{ops:Array Oper}{m:Nat}{pu:List Nat}{e0:qt}{cs:CS}{Kt:List It->Prop}{listed:Array Bool}:∀{ord:List Nat} {pl:Array Bool} {IL:List It},dW P gl tr n ops m pu e0 cs Kt ord pl IL->GInv h0 W M0 P n ops m pu e0 cs listed pl IL ->
  ∃Z ae new,dW P gl tr n ops m pu e0 cs Kt Z ae (new++IL)/\GInv h0 W M0 P n ops m pu e0 cs listed ae (new++IL)/\zeu ops Z=true/\∀i∈new,listed.getD i.k false=false
 |[],pl,IL,H,G=>⟨[],pl,[],H,G,rfl,λi hi=>by cases hi⟩
 |k::ord,pl,IL,H,G=>by
  obtain⟨o,ch,nb,us,Kan,ho,ap,am,hK,ah⟩:=zoc (h0:=h0) (W:=W) (M0:=M0) ai H
  cases ha:ym o with
  |true=>exact⟨k::ord,pl,[],H,G,by simp[zeu,ho,ha],λi hi=>by cases hi⟩
  |false=>
   obtain⟨av,rfl⟩:=ah ha
   have ar:=(zvh ap).1
   have aj:pl.getD k true=false:=(mem_ready.1 ar).1
   have af:k<pl.size:=by
    rcases AF k pl.size with h|h
    ·exact h
    ·simp[Array.getElem?_eq_none h]at aj
   have aa:pl.getD k false=false:=by rw[<-getD_lt af];exact aj
   have ak:listed.getD k false=false:=by
    cases hb:listed.getD k false with
    |false=>rfl
    |true=>rw[G.sub k hb]at aa;cases aa
   have an:∀i∈IL,i.k≠k:=λi hi e=>by
    have:=(G.mem k).2 ⟨i,hi,e⟩
    rw[this]at aa;cases aa
   have G':GInv h0 W M0 P n ops m pu e0 cs listed (pl.setIfInBounds k true) (⟨k,o.dst,ch,av,nb,us⟩::IL):=by
    refine⟨by simp[G.size],λj=>?_,BI.2 ⟨λj hj=>(an j hj).symm,G.dist⟩,λi hi=>?_,λj hj=>?_⟩
    ·by_cases ab:k=j
     ·subst ab
      simp only[Ai,exists_eq_or_imp,true_or,iff_true]
      simp[af]
     ·rw[getD_set_ne false ab,G.mem j]
      simp only[Ai,exists_eq_or_imp,ab,false_or]
    ·rcases Ai.1 hi with rfl|hi
     ·exact⟨(· = av),(am av).mono λi hi=>Ag _ hi,rfl,λ_=>rfl⟩
     ·obtain⟨Ki,h1,h2,h3⟩:=G.items i hi
      exact⟨Ki,h1.mono λi hi=>Ag _ hi,h2,h3⟩
    ·by_cases ab:k=j
     ·subst ab;simp[af]
     ·rw[getD_set_ne false ab];exact G.sub j hj
   obtain⟨Z,ae,new,h1,h2,h3,h4⟩:=zvi ai (hK av rfl) G'
   refine⟨Z,ae,new++[⟨k,o.dst,ch,av,nb,us⟩],by simpa using h1,by simpa using h2,h3,λi hi=>?_⟩
   rcases Aw.1 hi with hi|hi
   ·exact h4 i hi
   ·simp only[BJ]at hi;subst hi;exact ak
theorem zl6{k:Nat}(hk:k<listed.size)(aa:listed.getD k false=false)(i:It):strip (listed.setIfInBounds k true) i=zc7 k (strip listed i):=by
 unfold strip zc7
 cases hu:i.us with
 |none=>simp[hu]
 |some j=>
  simp only
  by_cases Z:j=k
  ·subst Z
   have e1:(listed.setIfInBounds j true).getD j false=true:=by simp[hk]
   rw[e1,aa]
   simp[hu]
  ·rw[getD_set_ne false (Ne.symm Z)]
   have hb:Nat.beq j k=false:=by
    cases hq:Nat.beq j k with
    |false=>rfl
    |true=>exact absurd (Ah hq) Z
   cases listed.getD j false with
   |true=>simp[hb]
   |false=>simp[hu,hb]
theorem zod{listed:Array Bool}{k:Nat}(hk:k<listed.size)(Z:listed.getD k false=false):∀{l:List It},(∀j∈l,k≠j.k)->x7 (listed.setIfInBounds k true) l=(x7 listed l).map (zc7 k)
 |[],_=>rfl
 |j::l,hj=>by
  simp only[x7]
  rw[getD_set_ne false (hj j Am),zod hk Z λx hx=>hj x (Ag _ hx)]
  cases listed.getD j.k false with
  |true=>simp only[cond_true,BZ];rw[zl6 hk Z]
  |false=>rfl
theorem zqj{it:It}(hu:∀j,it.us=some j->listed.getD j false=false):strip listed it=it:=by
 unfold strip
 split
 ·rename_i j hj;rw[hu j hj];rfl
 ·rfl
theorem zqk{listed:Array Bool}{it:It}(hk:it.k<listed.size)(Z:listed.getD it.k false=false)(hu:∀j,it.us=some j->(listed.setIfInBounds it.k true).getD j false=false):∀{IL:List It},IL.Pairwise (λi j=>i.k≠j.k)->it∈IL->(x7 (listed.setIfInBounds it.k true) IL).Perm (it::(x7 listed IL).map (zc7 it.k))
 |[],_,h=>by cases h
 |i::l,hd,h=>by
  rw[BI]at hd
  simp only[x7]
  rcases Ai.1 h with rfl|h
  ·have e1:(listed.setIfInBounds it.k true).getD it.k false=true:=by simp[hk]
   rw[e1,Z,zod hk Z hd.1,zqj hu]
   exact .refl _
  ·have aa:i.k≠it.k:=hd.1 it h
   rw[getD_set_ne false (Ne.symm aa)]
   have ih:=zqk hk Z hu hd.2 h
   cases listed.getD i.k false with
   |true=>
    simp only[cond_true,BZ]
    rw[zl6 hk Z]
    exact(ih.cons _).trans (.swap _ _ _)
   |false=>exact ih
theorem zjk{listed:Array Bool}{IL:List It}:∀{new:List It},(∀i∈new,listed.getD i.k false=false)->x7 listed (new++IL)=x7 listed IL
 |[],_=>rfl
 |i::l,h=>by
  simp only[Bu,x7]
  rw[h i Am]
  exact zjk λx hx=>h x (Ag _ hx)
theorem zql{listed:Array Bool}:∀{l:List It},(∀i∈l,listed.getD i.k false=true/\∀j,i.us=some j->listed.getD j false=true)->x7 listed l=z2b l
 |[],_=>rfl
 |i::l,h=>by
  simp only[x7,z2b]
  obtain⟨h1,h2⟩:=h i Am
  rw[h1,zql λx hx=>h x (Ag _ hx),cond_true]
  congr 1
  unfold strip
  split
  ·rename_i j hj;rw[h2 j hj];rfl
  ·rfl
theorem GInv.ready_pl{e0:qt}{IL:List It}(G:GInv h0 W M0 P n ops m pu e0 cs listed pl IL)(hi:i∈Region.ready .any ops listed)(hp:pl.getD i false=false):i∈Region.ready .any ops pl:=by
 obtain⟨_,o,ho,Z⟩:=mem_ready.1 hi
 have aa:i<ops.size:=(Ac.1 ho).1
 exact mem_ready.2 ⟨by rw[getD_lt (by rw[G.size];exact aa)];exact hp,o,ho,λe he hb=>G.sub _ (Z e he hb)⟩
theorem zso(hm:m<=ops.size)(Z:qd ops ops.size=true)(ae:listed.size=ops.size)(aa:∃k,k<m/\listed.getD k false=false):∃k,k<m/\k∈Region.ready .any ops listed:=by
 obtain⟨k,⟨h1,h2⟩,h3⟩:=exists_least aa
 refine⟨k,h1,mem_ready.2 ⟨by rw[getD_lt (by omega)];exact h2,ops[k],AJ (by omega),λe he hb=>?_⟩⟩
 have ab:=zu Z k ops[k] (by omega) (AJ (by omega)) e he hb
 cases hb':listed.getD e.on false with
 |true=>rfl
 |false=>
  have:=h3 e.on ⟨by omega,hb'⟩
  omega
def Jd(N m:Nat):Array Bool:=((BO N).map λk=>Nat.blt k m).toArray
theorem zoe(hm:m<=ops.size)(inv:HeadInv .any ops m listed)(Z:∀k,k<m->listed.getD k false=true):listed=Jd ops.size m:=by
 refine Array.ext (by simp[Jd,inv.size]) λi h1 h2=>?_
 have hi:i<ops.size:=by rw[<-inv.size];exact h1
 have e:(Jd ops.size m)[i]=Nat.blt i m:=by simp[Jd]
 rw[e]
 rcases AF i m with h|h
 ·have:=Z i h
  simp only[Array.getD,h1,dite_true]at this
  rw[show Nat.blt i m=true by simpa[Cj]using h]
  exact this
 ·have:=inv.tail i h hi
  simp only[Array.getD,h1,dite_true]at this
  have e2:Nat.blt i m=false:=by
   cases hb:Nat.blt i m with
   |false=>rfl
   |true=>have:=Cj.mp hb;omega
  rw[e2]
  exact this
def zvj(ops:Array Oper)(pu:List Nat)(m i:Nat):Nat->Bool
 |0=>false
 |j+1=>bif (bif Region.waitsFor .any ops j i then(bif Nat.beq j m then true else !(memN pu j))else false)then Nat.blt i j else zvj ops pu m i j
theorem zia{ops:Array Oper}{pu:List Nat}{m i:Nat}:∀{n:Nat},zvj ops pu m i n=true->∃j,j<n/\i<j/\Region.waitsFor .any ops j i=true/\(j=m\/memN pu j=false)
 |0,h=>by cases h
 |n+1,h=>by
  simp only[zvj]at h
  cases hb:(bif Region.waitsFor .any ops n i then(bif Nat.beq n m then true else !(memN pu n))else false)with
  |false=>
   rw[hb]at h
   obtain⟨j,h1,h2⟩:=zia h
   exact⟨j,by omega,h2⟩
  |true=>
   rw[hb]at h
   refine⟨n,by omega,by simpa[Cj]using h,?_⟩
   cases hw:Region.waitsFor .any ops n i with
   |false=>rw[hw]at hb;cases hb
   |true=>
    rw[hw]at hb
    refine⟨rfl,?_⟩
    cases hm:Nat.beq n m with
    |true=>exact .inl (Ah hm)
    |false=>rw[hm]at hb;exact .inr (by simpa using hb)
def zsp(ops:Array Oper)(pu:List Nat)(m:Nat):Nat->Bool
 |0=>true
 |i+1=>bif (bif memN pu i then true else zvj ops pu m i (m+1))then zsp ops pu m i else false
theorem zib{ops:Array Oper}{pu:List Nat}{m:Nat}:∀{n:Nat},zsp ops pu m n=true->∀i,i<n->memN pu i=false->∃j,j<=m/\i<j/\Region.waitsFor .any ops j i=true/\(j=m\/memN pu j=false)
 |0,_,i,hi,_=>by omega
 |n+1,h,i,hi,hp=>by
  simp only[zsp]at h
  cases hb:(bif memN pu n then true else zvj ops pu m n (m+1))with
  |false=>rw[hb]at h;cases h
  |true=>
   rw[hb]at h
   rcases AF i n with h1|h1
   ·exact zib h i h1 hp
   ·have:i=n:=by omega
    subst this
    rw[hp]at hb
    obtain⟨j,a1,a2⟩:=zia hb
    exact⟨j,by omega,a2⟩
def zsq(ops:Array Oper)(pu:List Nat)(m:Nat):Bool:=bif Nat.beq m ops.size then true else bif zsp ops pu m m then Region.chainB .any ops m else false
theorem zof(hm:m<ops.size)(hs:zsp ops pu m m=true)(hc:Region.chainB .any ops m=true)(inv:HeadInv .any ops m listed):
  ∀(d i:Nat),m-i=d->i<m->listed.getD i false=false->memN pu i=false->∀t,m<=t->t∉Region.ready .any ops listed:=by
 intro d
 induction d using Nat.strongRecOn with
 |_ d ih=>
  intro i hd hi Z af t ht hr
  obtain⟨_,ot,aj,am⟩:=mem_ready.1 hr
  have aa:t<ops.size:=(Ac.1 aj).1
  by_cases ae:t=m
  ·subst ae
   obtain⟨j,h1,h2,h3,h4⟩:=zib hs i hi af
   by_cases ab:j=t
   ·subst ab
    rw[xx hr h3]at Z;cases Z
   ·have ak:memN pu j=false:=h4.resolve_left ab
    cases hl:listed.getD j false with
    |true=>
     obtain⟨oj,ai,e,he,hb,ah⟩:=Region.waitsFor_spec h3
     have:=inv.closed j oj ai hl e he hb
     rw[ah,Z]at this
     cases this
    |false=>exact ih (t-j) (by omega) j rfl (by omega) hl ak t (Ad _) hr
  ·have h1:=A4.1 hc t (BK.2 aa)
   simp only[Bh,decide_eq_true_eq]at h1
   rcases h1 with h1|h1
   ·omega
   ·have:=xx hr h1
    rw[getD_both (inv.tail (t-1) (by omega) (by omega))]at this
    cases this
theorem zy2(hm:m<=ops.size)(he:zsq ops pu m=true)(inv:HeadInv .any ops m listed)(Z:∃k,k<m/\k∈Region.ready .any ops listed/\memN pu k=false):∀i∈Region.ready .any ops listed,i<m:=by
 intro i hi
 obtain⟨_,o,ho,_⟩:=mem_ready.1 hi
 have aa:i<ops.size:=(Ac.1 ho).1
 rcases AF i m with h|h
 ·exact h
 ·exfalso
  unfold zsq at he
  cases hb:Nat.beq m ops.size with
  |true=>have:=Ah hb;omega
  |false=>
   rw[hb]at he
   simp only[cond_false]at he
   cases hs:zsp ops pu m m with
   |false=>rw[hs]at he;cases he
   |true=>
    rw[hs]at he
    obtain⟨k,h1,h2,h3⟩:=Z
    exact zof (by omega) hs he inv _ k rfl h1 (getD_both (mem_ready.1 h2).1) h3 i h hi
theorem z9q(hgl:Fr.le gl M0){e0:qt}{Kt:List It->Prop}{Q:Exit->Act->World->Prop}(hm:m<=ops.size)(hnd:jl ops m=true)(hback:qd ops ops.size=true)(hends:zsq ops pu m=true)(hsel:Region.noSelect ops=true)(hQp:∀c a w,¬Q (.panic c) a w)
    (he0:∀x∈e0,x.2.1=[]/\x.1∉yg ops m/\Qq x.2.2 (yg ops m)=true) (B:World) {g:Nat} {a0:Act} {γ0:Gh}
    (hQ:∀IL γ a d h,SatA n (itE IL++e0) γ a->Inv h0 W M0 (itC IL++cs) γ h->Same (yg ops m) a0 a->GxS (yg ops m) γ0 γ->Kt IL->wpAny P .any ops Q g (Jd ops.size m) a (mk B d h)):
    ∀(N:Nat) (U:List Nat) (listed:Array Bool) (ord:List Nat) (pl:Array Bool) (IL:List It) (γ:Gh) (a:Act) (d:Nat) (h:zb),U.length=N->U.Nodup->(∀k,k∈U↔k<m/\listed.getD k false=false)->HeadInv .any ops m listed ->
      dW P gl tr n ops m pu e0 cs Kt ord pl IL->zeu ops ord=true->GInv h0 W M0 P n ops m pu e0 cs listed pl IL->Mid h0 W M0 P n ops m e0 cs listed IL γ a h->Same (yg ops m) a0 a->GxS (yg ops m) γ0 γ ->
      wpAny P .any ops Q (N+g) listed a (mk B d h):=by
  intro N
  induction N with
  |zero=>
    intro U listed ord pl IL γ a d h hU _ hmem inv H hanch G M hsame hgx
    have hUn:U=[]:=AW.1 hU
    subst hUn
    have hall:∀k,k<m->listed.getD k false=true:=λk hk=>by
      cases hb:listed.getD k false with
      |true=>rfl
      |false=>exact absurd ((hmem k).2 ⟨hk,hb⟩) (by simp)
    have hKt:Kt (z2b IL):=by
      cases ord with
      |nil=>
        unfold dW at H
        cases hb:zsm pl m with
        |true=>rw[hb]at H;exact H
        |false=>rw[hb]at H;exact H.elim
      |cons k ord=>
        exfalso
        obtain⟨o,ch,nb,us,Kan,ho,hst,hit,_,_⟩:=zoc (h0:=h0) (W:=W) (M0:=M0) hgl H
        have hk:k<m:=(hit (.g (.a (.v undef)))).lt
        have h1:=(mem_ready.1 (zvh hst).1).1
        rw[getD_lt (by rw[G.size];omega),G.sub k (hall k hk)]at h1
        cases h1
    have hact:x7 listed IL=z2b IL:=zql λi hi=>by
      obtain⟨Ki,Ti,_⟩:=G.items i hi
      exact⟨hall _ Ti.lt,λj hj=>hall j (Ti.use j hj).1⟩
    have h1:=M.sat
    have h2:=M.inv
    rw[hact]at h1 h2
    rw[AB,zoe hm inv hall]
    exact hQ (z2b IL) γ a d h h1 h2 hsame hgx hKt
  |succ N ih=>
    intro U listed ord pl IL γ a d h hU hdup hmem inv H hanch G M hsame hgx
    have hex:∃k,k<m/\listed.getD k false=false:=by
      cases U with
      |nil=>cases hU
      |cons k U=>exact⟨k,(hmem k).1 Am⟩
    obtain⟨k0,hk0m,hk0⟩:=zso hm hback inv.size hex
    rw[show N+1+g=(N+g)+1 by omega]
    have gen:∀i,i∈Region.ready .any ops listed->i<m->(memN pu i=true->wpAny P .any ops Q (N+g+1) listed a (mk B d h))/\wpOp P ops Q i (wpAny P .any ops Q (N+g) (listed.setIfInBounds i true)) a (mk B d h):=by
      intro i hi him
      have hun:listed.getD i false=false:=getD_both (mem_ready.1 hi).1
      have hils:i<listed.size:=by rw[inv.size];omega
      have hU':(U.erase i).length=N:=by rw[CH ((hmem i).2 ⟨him,hun⟩),hU];rfl
      have hdup':(U.erase i).Nodup:=hdup.erase i
      have hmem':∀k,k∈U.erase i↔k<m/\(listed.setIfInBounds i true).getD k false=false:=λk=>by
        rw[hdup.mem_erase_iff,hmem k]
        by_cases hk:i=k
        · subst hk;simp[hils]
        · rw[getD_set_ne false hk];exact⟨λhx=>hx.2,λhx=>⟨λe=>hk e.symm,hx⟩⟩
      have inv':=inv.set hi him
      have toS:∀{it:It} {Kan:AV->Prop},ItOK h0 W M0 P n ops m pu e0 cs IL it Kan->∀{γ':Gh},Gx (it.nb.map (·.1)) γ γ'->GxS (yg ops m) γ γ':=by
        intro it Kan T γ' gx
        refine⟨gx.1,λj hj=>?_⟩
        refine gx.2 j λhc=>hj ?_
        obtain⟨o,e,eat,ho,_,sp,_,_⟩:=T.ex
        cases hnb:it.nb with
        |none=>rw[hnb]at hc;cases hc
        |some b=>
          rw[hnb]at hc
          have:b.1=j:=by simpa using hc
          subst this
          obtain⟨_,h2,_⟩:=sp.box b hnb
          exact zc8 T.lt (by rw[Jc ho];exact h2)
      have toSame:∀{it:It} {Kan:AV->Prop},ItOK h0 W M0 P n ops m pu e0 cs IL it Kan->∀u,Same (yg ops m) a (a.put it.dst u):=λ {it} {Kan} T u=>
        Same.put a it.dst u λj hj=>zc8 T.lt (by rw[T.dst];exact hj)
      have hILk:∀x∈IL,∃Kan,ItOK h0 W M0 P n ops m pu e0 cs IL x Kan/\Kan x.av:=λx hx=>by
        obtain⟨Kx,h1,h2,_⟩:=G.items x hx
        exact⟨Kx,h1,h2⟩
      have hdist:∀x∈IL,∀y∈IL,x.k=y.k->x=y:=by
        have key:∀l:List It,l.Pairwise (λi j=>i.k≠j.k)->∀x∈l,∀y∈l,x.k=y.k->x=y:=by
          intro l
          induction l with
          |nil=>intro _ x hx;cases hx
          |cons z l ihl=>
            intro hp x hx y hy e
            rw[BI]at hp
            rcases Ai.1 hx with hx1|hx1
            · rcases Ai.1 hy with hy1|hy1
              · rw[hx1,hy1]
              · rw[hx1]at e;exact absurd e (hp.1 y hy1)
            · rcases Ai.1 hy with hy1|hy1
              · rw[hy1]at e;exact absurd e.symm (hp.1 x hx1)
              · exact ihl hp.2 x hx1 y hy1 e
        exact key IL G.dist
      cases hpl:pl.getD i false with
      |true=>
        obtain⟨it,hit,hik⟩:=(G.mem i).1 hpl
        subst hik
        obtain⟨Kan,T,_,hdet⟩:=G.items it hit
        have fwd:∀u γ' h' d',(∀L':List It,L'.Perm (it::(x7 listed IL).map (zc7 it.k))->SatA n (itE L'++e0) γ' (a.put it.dst u)/\Inv h0 W M0 (itC L'++cs) γ' h')->Gx (it.nb.map (·.1)) γ γ'->wpAny P .any ops Q (N+g) (listed.setIfInBounds it.k true) (a.put it.dst u) (mk B d' h'):=by
         intro u γ' h' d' hst hgx'
         have huse:∀j,it.us=some j->(listed.setIfInBounds it.k true).getD j false=false:=by
           intro j hj
           have hw:=(T.use j hj).2
           obtain⟨oj,hoj,e,he,hb,hon⟩:=Region.waitsFor_spec hw
           have hjk:it.k≠j:=λe'=>by
             have:=zu hback j oj (Ac.1 hoj).1 hoj e he hb
             omega
           rw[getD_set_ne false hjk]
           cases hl:listed.getD j false with
           |false=>rfl
           |true=>
             have:=inv.closed j oj hoj hl e he hb
             rw[hon,hun]at this;cases this
         obtain⟨s1,s2⟩:=hst _ (zqk hils hun huse G.dist hit)
         refine ih _ _ ord pl IL γ' _ d' h' hU' hdup' hmem' inv' H hanch ⟨G.size,G.mem,G.dist,λx hx=>?_,λk hk=>?_⟩ ⟨s1,s2⟩ (hsame.trans (toSame T u)) (hgx.trans (toS T hgx'))
         · obtain⟨Kx,h1,h2,h3⟩:=G.items x hx
           refine⟨Kx,h1,h2,λhf=>h3 ?_⟩
           by_cases hk:it.k=x.k
           · rw[<-hk];exact hun
           · rw[getD_set_ne false hk]at hf;exact hf
         · by_cases hk':it.k=k
           · subst hk';exact hpl
           · rw[getD_set_ne false hk']at hk;exact G.sub k hk
        have hK0:Kan it.av:=by rw[hdet hun]
        refine⟨λhp=>zvg hnd he0 hILk hdist inv M T hK0 hi hp hsel hQp B d λu hst hgx'=>fwd u γ h d hst hgx',zl5 hnd he0 hILk hdist inv M T hi B d λav u γ' h' d' hav hst hgx'=>?_⟩
        have hav':av=it.av:=by rw[hdet hun]at hav;exact hav
        subst hav'
        exact fwd u γ' h' d' hst hgx'
      |false=>
        have hrp:=G.ready_pl hi hpl
        cases ord with
        |nil=>
          exfalso
          unfold dW at H
          cases hb:zsm pl m with
          |true=>rw[zh7 hb i him]at hpl;cases hpl
          |false=>rw[hb]at H;exact H
        |cons k ord=>
          obtain⟨o,ch,nb,us,Kan,ho,hst,hit,hK,_⟩:=zoc (h0:=h0) (W:=W) (M0:=M0) hgl H
          have hanc:ym o=true:=by simpa[zeu,ho]using hanch
          have hrk:=(zvh hst).2 hanc
          rw[hrk]at hrp
          have hik:i=k:=by simpa using hrp
          subst hik
          refine⟨λhp=>?_,zl5 hnd he0 hILk hdist inv M (hit (.g (.a (.v undef)))) hi B d λav u γ' h' d' hav hst' hgx'=>?_⟩
          · obtain⟨o',_,_,ho',_,_,_,hpp,_⟩:=(hit (.g (.a (.v undef)))).ex
            have:=(hpp hp).2.2.2
            have e':o'=o:=Aq (ho'.symm.trans ho)
            rw[e',hanc]at this;cases this
          have hne:∀j∈IL,i≠j.k:=λj hj e=>by
            have:=(G.mem i).2 ⟨j,hj,e.symm⟩
            rw[hpl]at this;cases this
          have hips:i<pl.size:=by rw[G.size,<-inv.size];exact hils
          have G':GInv h0 W M0 P n ops m pu e0 cs (listed.setIfInBounds i true) (pl.setIfInBounds i true) (⟨i,o.dst,ch,av,nb,us⟩::IL):=by
            refine⟨by simp[G.size],λj=>?_,BI.2 ⟨λj hj=>hne j hj,G.dist⟩,λx hx=>?_,λj hj=>?_⟩
            · by_cases hjk:i=j
              · subst hjk
                simp only[Ai,exists_eq_or_imp,true_or,iff_true]
                simp[hips]
              · rw[getD_set_ne false hjk,G.mem j]
                simp only[Ai,exists_eq_or_imp,hjk,false_or]
            · rcases Ai.1 hx with rfl|hx
              · exact⟨Kan,(hit av).mono λx hx=>Ag _ hx,hav,λhf=>by simp[hils]at hf⟩
              · obtain⟨Kx,h1,h2,h3⟩:=G.items x hx
                refine⟨Kx,h1.mono λx hx=>Ag _ hx,h2,λhf=>h3 ?_⟩
                rw[getD_set_ne false (hne x hx)]at hf;exact hf
            · by_cases hjk:i=j
              · subst hjk;simp[hips]
              · rw[getD_set_ne false hjk]at hj ⊢;exact G.sub j hj
          obtain⟨ord',pl',new,h1,h2,h3,h4⟩:=zvi hgl (hK av hav) G'
          have hact:x7 (listed.setIfInBounds i true) (new++⟨i,o.dst,ch,av,nb,us⟩::IL)=⟨i,o.dst,ch,av,nb,us⟩::(x7 listed IL).map (zc7 i):=by
            rw[zjk h4]
            simp only[x7]
            rw[show(listed.setIfInBounds i true).getD i false=true by simp[hils],zod hils hun hne,cond_true,zqj ?_]
            intro j hj
            have hw:=((hit av).use j hj).2
            obtain⟨oj,hoj,e,he,hb,hon⟩:=Region.waitsFor_spec hw
            have hon:e.on=i:=hon
            have hjk:i≠j:=λe'=>by
              have:=zu hback j oj (Ac.1 hoj).1 hoj e he hb
              omega
            rw[getD_set_ne false hjk]
            cases hl:listed.getD j false with
            |false=>rfl
            |true=>
              have:=inv.closed j oj hoj hl e he hb
              rw[hon,hun]at this;cases this
          obtain⟨s1,s2⟩:=hst' (⟨i,o.dst,ch,av,nb,us⟩::(x7 listed IL).map (zc7 i)) (.refl _)
          exact ih _ _ ord' pl' _ γ' _ d' h' hU' hdup' hmem' inv' h1 h3 h2 ⟨by rw[hact];exact s1,by rw[hact];exact s2⟩ (hsame.trans (toSame (hit av) u)) (hgx.trans (toS (hit av) hgx'))
    by_cases hpe:∃i,i∈Region.ready .any ops listed/\i<m/\memN pu i=true
    · obtain⟨i,hi,him,hp⟩:=hpe
      exact(gen i hi him).1 hp
    · refine⟨λhc=>(by rw[hc]at hk0;cases hk0),λi hi=>(gen i hi (zy2 hm hends inv ⟨k0,hk0m,hk0,?_⟩ i hi)).2⟩
      cases hb:memN pu k0 with
      |false=>rfl
      |true=>exact absurd ⟨k0,hk0,hk0m,hb⟩ hpe
def z2c(ops:Array Oper)(m:Nat)(pu:List Nat):Bool:=
 bif Nat.ble m ops.size then(bif jl ops m then(bif qd ops ops.size then(bif zsq ops pu m then(bif Region.noSelect ops then Region.seqB .any ops (ops.size-m) m (Jd ops.size m)else false)else false)else false)else false)else false
def z2d(P:Program)(gl:Fr)(tr:TypeId)(n:Nat)(ops:Array Oper)(m:Nat)(ord pu:List Nat)(R:CS)(K:qt->CS->Prop)(e:qt)(C:CS):Prop:=
 bif z2c ops m pu then dW P gl tr n ops m pu (zed (yg ops m) e) (C++R) (λIL=>wRA P gl tr n ops R K (ops.toList.drop m) (itE IL++zed (yg ops m) e) (itC IL++C)) ord (Be ops.size false) []else False
theorem zog(hm:P.follows .mixedOrders=true)(af:Fr.le gl M0){K:qt->CS->Prop}{e:qt}
  (H:z2d P gl tr n ops m ord pu R K e C) (B:World) (d:Nat) (hs:SatA n e γ a) (I:Inv h0 W M0 (C++R) γ h) {Q:Exit->Act->World->Prop}
  (hQ:∀e' C' γ' a' d' h',SatA n e' γ' a'->Inv h0 W M0 (C'++R) γ' h'->Same (yn ops.toList) a a'->GxS (yn ops.toList) γ γ'->K e' C'->Q .normal a' (mk B d' h')):(D4 id ops true).wp P Q a (mk B d h):=by
 unfold z2d at H
 cases hB:z2c ops m pu with
 |false=>rw[hB]at H;exact H.elim
 |true=>
  rw[hB]at H
  simp only[cond_true]at H
  have aF:m<=ops.size/\jl ops m=true/\qd ops ops.size=true/\zsq ops pu m=true/\Region.noSelect ops=true/\Region.seqB .any ops (ops.size-m) m (Jd ops.size m)=true:=by
   unfold z2c at hB
   cases h1:Nat.ble m ops.size with
   |false=>rw[h1]at hB;cases hB
   |true=>
    rw[h1]at hB
    cases h2:jl ops m with
    |false=>rw[h2]at hB;cases hB
    |true=>
     rw[h2]at hB
     cases h3:qd ops ops.size with
     |false=>rw[h3]at hB;cases hB
     |true=>
      rw[h3]at hB
      cases h4:zsq ops pu m with
      |false=>rw[h4]at hB;cases hB
      |true=>
       rw[h4]at hB
       cases h5:Region.noSelect ops with
       |false=>rw[h5]at hB;cases hB
       |true=>
        rw[h5]at hB
        exact⟨BM h1,rfl,rfl,rfl,rfl,hB⟩
  obtain⟨ax,ay,ah,ae,ak,ai⟩:=aF
  have Z:yn ops.toList=yn (ops.toList.take m)++yn (ops.toList.drop m):=by rw[<-xg,Ce]
  have ar:∀x∈zed (yg ops m) e,x.2.1=[]/\x.1∉yg ops m/\Qq x.2.2 (yg ops m)=true:=λx hx=>(jv hx).2
  have am:HeadInv .any ops m (Be ops.size false):=
   ⟨by simp,λj oj _ hl=>(by rw[getD_replicate_false]at hl;cases hl),λt _ ht=>getD_in (by simpa using ht) (getD_replicate_false _ _)⟩
  have G0:GInv h0 W M0 P n ops m pu (zed (yg ops m) e) (C++R) (Be ops.size false) (Be ops.size false) []:=
   ⟨by simp,λk=>by rw[getD_replicate_false];simp,List.Pairwise.nil,λi hi=>(by cases hi),λk hk=>hk⟩
  obtain⟨aj,az,new,h1,h2,h3,h4⟩:=zvi af H G0
  have aa:x7 (Be ops.size false) (new++[])=[]:=by rw[zjk h4];rfl
  have an:SatA n (zed (yg ops m) e) γ a:=hs.sub λx hx=>(jv hx).1
  let Qn:Exit->Act->World->Prop:=λx a w=>x=.normal/\Q .normal a w
  refine wp_mono (Q':=Q) (Q:=Qn) ?_ (λx a w hq=>by obtain⟨rfl,h⟩:=hq;exact h)
  refine wp_region_any hm ?_
  have au:ops.size=m+(ops.size-m):=by omega
  have key:=z9q (n:=n) (Q:=Qn) (pu:=pu) af ax ay ah ae ak (λc a w hq=>by cases hq.1) ar B (g:=ops.size-m) (a0:=a) (γ0:=γ) (Kt:=λIL=>wRA P gl tr n ops R K (ops.toList.drop m) (itE IL++zed (yg ops m) e) (itC IL++C)) (λIL γ' a' d' h' s1 s2 s3 s4 s5=>?_) m (BO m) (Be ops.size false) aj az (new++[]) γ a (d+1) h Dn C8 (λk=>by rw[BK,getD_replicate_false];simp) am h1 h3 h2 ⟨by rw[aa];exact an,by rw[aa];exact I⟩ (Same.refl _ _) (GxS.refl _ _)
  ·rw[<-au]at key
   exact key
  ·have ab:(ops.toList.drop m).length=ops.size-m:=by simp
   rw[<-ab]
   refine wpAny_of_seq (md:=.any) (ops.toList.drop m) m _ a' _ (λj=>by simp[AE]) (by rw[ab];exact ai) ?_
   refine zby af B _ _ _ _ _ _ d' s5 s1 (by rw[Bi];exact s2) λap aE aA aC aG aB q4 q5 q6 q7 q8=>⟨rfl,hQ ap aE aA aC aG aB q4 q5 ?_ ?_ q8⟩
   ·rw[Z]
    exact(s3.mono λx hx=>Ao _ hx).trans (q6.mono λx hx=>Av _ hx)
   ·rw[Z]
    exact(s4.mono λx hx=>Ao _ hx).trans (q7.mono λx hx=>Av _ hx)
abbrev zy3:=List (Nat×Nat×List Nat×List Nat×List Nat)
def z0n:zy3->Nat->Option (Nat×List Nat×List Nat×List Nat)
 |[],_=>none
 |(j,x)::l,i=>bif Nat.beq i j then some x else z0n l i
def zoh(P:Program)(gl:Fr)(tr:TypeId)(n:Nat)(tl:zu8)(dl:zy3)(id:Nat)(ops:Array Oper)(Z:Bool)(R:CS)(K:qt->CS->Prop)(e:qt)(C:CS):Prop:=
 match z0n dl id with
 |none=>zn8 P gl tr n tl id ops Z R K e C
 |some (m,fz,ord,pu)=>bif Z then z2d P gl tr n ops m ord pu R K e (frzL fz C)else False
theorem zjl(hm:P.follows .mixedOrders=true)(aa:Fr.le gl M0){tl:zu8}{dl:zy3}{Z:Bool}{K:qt->CS->Prop}{e:qt}
  (H:zoh P gl tr n tl dl id ops Z R K e C) (B:World) (d:Nat) (hs:SatA n e γ a) (I:Inv h0 W M0 (C++R) γ h) {Q:Exit->Act->World->Prop}
  (hQ:∀e' C' γ' a' d' h',SatA n e' γ' a'->Inv h0 W M0 (C'++R) γ' h'->Same (yn ops.toList) a a'->GxS (yn ops.toList) γ γ'->K e' C'->Q .normal a' (mk B d' h')):(D4 id ops Z).wp P Q a (mk B d h):=by
 unfold zoh at H
 split at H
 ·exact zji hm aa H B d hs I hQ
 ·rename_i m fz ord pu _
  cases Z with
  |false=>exact H.elim
  |true=>
   obtain⟨γ1,I1,g1⟩:=Inv.frzL (C:=C) (γ:=γ) fz I
   refine zog hm aa H B d (hs.gx g1) I1 λe' C' γ' a' d' h' q1 q2 q3 q4 q5=>hQ e' C' γ' a' d' h' q1 q2 q3 (GxS.trans ⟨g1.1,λi _=>g1.2 i (by simp)⟩ q4) q5
end
section
variable {S:List Nat} {γ γ':Gh} {u:Value} {C R:CS} {h:zb} {n:Nat} {a:Act} {P:Program} {f:FuncId}
variable {h0 : zb} {W : Nat -> Prop} {M0 : Fr}
structure PlanA where
 tails:zu8
 draws:zy3
 loops:List (Nat×AnnA)
 joins:List (Nat×AnnA)
def z6c:List (Nat×AnnA)->Option Nat->Option AnnA
 |[],_=>none
 |(j,m)::l,some i=>bif Nat.beq i j then some m else z6c l (some i)
 |_,none=>none
def z4u:AA->List Nat
 |.box j _=>[j]
 |.own j=>[j]
 |.oelt j _ _ _=>[j]
 |_=>[]
def zvk(S:List Nat):List AA->Bool
 |[]=>true
 |x::l=>bif (match z4u x with
  |[]=>true
  |j::_=>!(memN S j))then zvk S l else false
def zy4(S:List Nat):AG->Bool
 |.a x=>zvk S [x]
 |.agg l=>zvk S l
def zqm(S:List Nat):List AG->Bool
 |[]=>true
 |x::l=>bif zy4 S x then zqm S l else false
def z2e(S:List Nat):AV->Bool
 |.g x=>zy4 S x
 |.tup l=>zqm S l
 |.nx _ _ _=>true
theorem DenA.gxS(g:GxS S γ γ'){x:AA}(hm:(match z4u x with
  |[]=>true
  |j::_=>!(memN S j))=true)(h:DenA γ x u):DenA γ' x u:=by
 have key:∀j,memN S j=false->γ'.β j=γ.β j/\γ'.σ j=γ.σ j:=λj hj=>g.2 j (wb hj)
 cases x with
 |v y=>exact h
 |d t y=>exact Rd.mono g.1 h
 |box j o=>rw[show u=_ from h];simp only[DenA,(key j (by simpa[z4u]using hm)).1]
 |own j=>rw[show u=_ from h];simp only[DenA,(key j (by simpa[z4u]using hm)).2]
 |oelt j z i o=>obtain⟨b,e1,e2⟩:=h;exact⟨b,by rw[(key j (by simpa[z4u]using hm)).2];exact e1,e2⟩
 |elt t y o=>obtain⟨b,f,cs,e,h1,h2⟩:=h;exact⟨b,f,cs,e,g.1 _ _ h1,Rd.mono g.1 h2⟩
 |dc t xs=>obtain⟨s,e1,e2,h⟩:=h;exact⟨s,e1,e2,Rd.mono g.1 h⟩
theorem DenL.gxS{S:List Nat}{γ γ':Gh}(g:GxS S γ γ'):∀{l:List AA} {us:List Value},zvk S l=true->All2 (DenA γ) l us->All2 (DenA γ') l us
 |[],[],_,_=>trivial
 |[],_::_,_,h=>h.elim
 |_::_,[],_,h=>h.elim
 |x::l,u::us,hm,h=>by
  simp only[zvk]at hm
  cases hx:(match z4u x with
   |[]=>true
   |j::_=>!(memN S j))with
  |false=>rw[hx]at hm;cases hm
  |true=>rw[hx]at hm;exact⟨DenA.gxS g hx h.1,DenL.gxS g hm h.2⟩
theorem DenG.gxS(g:GxS S γ γ'){x:AG}(hm:zy4 S x=true)(h:DenG γ x u):DenG γ' x u:=by
 cases x with
 |a x=>
  have:All2 (DenA γ') [x] [u]:=DenL.gxS g hm (show All2 (DenA γ) [x] [u]from⟨h,trivial⟩)
  exact this.1
 |agg l=>obtain⟨us,e,h⟩:=h;exact⟨us,e,DenL.gxS g hm h⟩
theorem DenV.gxS(g:GxS S γ γ'){x:AV}(hm:z2e S x=true)(h:DenV γ x u):DenV γ' x u:=by
 cases x with
 |g x=>exact DenG.gxS g hm h
 |tup l=>
  obtain⟨us,e,h⟩:=h
  refine⟨us,e,?_⟩
  have:∀{l:List AG} {us:List Value},zqm S l=true->All2 (DenG γ) l us->All2 (DenG γ') l us:=by
   intro l
   induction l with
   |nil=>intro us _ h;cases us with
    |nil=>trivial
    |cons _ _=>exact h.elim
   |cons x l ih=>
    intro us hm h
    cases us with
    |nil=>exact h.elim
    |cons u us=>
     simp only[zqm]at hm
     cases hx:zy4 S x with
     |false=>rw[hx]at hm;cases hm
     |true=>rw[hx]at hm;exact⟨DenG.gxS g hx h.1,ih hm h.2⟩
  exact this hm h
 |nx b p c=>exact h
def zf4(ms S:List Nat):qt->qt
 |[]=>[]
 |(i,[],v)::e=>bif memN ms i then zf4 ms S e else(bif z2e S v then(i,[],v)::zf4 ms S e else zf4 ms S e)
 |(_,_::_,_)::e=>zf4 ms S e
theorem Je{ms S:List Nat}{γ γ1:Gh}{a a1:Act}(g:GxS S γ γ1)(Z:Same ms a a1):∀{e:qt},(∀x∈e,zja γ (zm a) x)->∀x∈zf4 ms S e,zja γ1 (zm a1) x
 |[],_,x,hx=>by cases hx
 |(i,[],v)::e,h,x,hx=>by
  have ih:=Je g Z (e:=e) λx hx=>h x (Ag _ hx)
  simp only[zf4]at hx
  cases hm:memN ms i with
  |true=>rw[hm]at hx;exact ih x hx
  |false=>
   rw[hm]at hx
   simp only[cond_false]at hx
   cases hn:z2e S v with
   |false=>rw[hn]at hx;exact ih x hx
   |true=>
    rw[hn]at hx
    rcases Ai.1 hx with rfl|hx
    ·refine⟨λ_=>?_,λaa=>absurd trivial aa⟩
     have:=(h _ Am).1 trivial
     simp only at this ⊢
     rw[Z _ (wb hm)]
     exact this.gxS g hn
    ·exact ih x hx
 |(_,_::_,_)::e,h,x,hx=>Je g Z (e:=e) (λx hx=>h x (Ag _ hx)) x hx
def inC(ro:List Nat):CS->CS
 |[]=>[]
 |(c,k)::l=>bif memN ro c then(c,k)::inC ro l else inC ro l
def z2f(ro:List Nat):CS->CS
 |[]=>[]
 |(c,k)::l=>bif memN ro c then z2f ro l else(c,k)::z2f ro l
theorem zic(ro:List Nat):∀C:CS,(z2f ro C++inC ro C).Perm C
 |[]=>.nil
 |(c,k)::l=>by
  have ih:=zic ro l
  simp only[inC,z2f]
  cases memN ro c with
  |true=>exact List.perm_middle.trans (ih.cons _)
  |false=>exact ih.cons _
theorem Inv.part(I:Inv h0 W M0 (C++R) γ h)(ro:List Nat):Inv h0 W M0 (z2f ro C++(inC ro C++R)) γ h:=by
 rw[<-Bi]
 exact I.perm ((zic ro C).symm.append_right R)
abbrev Xv:=Exit->qt->CS->Prop
def z6d(K:qt->CS->Prop)(Q:Xv):Xv
 |.normal,e,C=>K e C
 |x,e,C=>Q x e C
def zvl(id:Nat)(Q:Xv):Xv
 |.exit i,e,C=>bif Nat.beq i id then Q .normal e C else Q (.exit i) e C
 |x,e,C=>Q x e C
def z0o(m:CS)(K:qt->CS->Prop)(Q:Xv):Xv
 |.normal,e,C=>K e C
 |x,e,C=>Q x e (C++m)
def zcq(pl:PlanA):Code->List Nat
 |.region _ ops _=>yn ops.toList
 |.seq a b=>zcq pl a++(zcq pl b++(match z6c pl.joins (ji b)with
  |some J=>J.ids
  |none=>[]))
 |.cond _ a b=>zcq pl a++zcq pl b
 |.block _ b=>zcq pl b
 |.loop b=>zcq pl b++(match z6c pl.loops (ji b)with
  |some J=>J.ids
  |none=>[])
 |_=>[]
def atA{X:Type}(J:AnnA)(R:CS)(F:zse (zah J) X)(e:qt)(C:CS)(k:X->Prop):Prop:=
 match xtr J R e C with
 |some ds=>match zec (zah J) ds F with
  |some q=>k q
  |none=>False
 |none=>False
theorem zoi{X:Type}{J:AnnA}{F:zse (zah J) X}{e:qt}{k:X->Prop}(h:atA J R F e C k):∃ds q,xtr J R e C=some ds/\zec (zah J) ds F=some q/\k q:=by
 unfold atA at h
 split at h
 ·rename_i ds hd
  split at h
  ·rename_i q hq;exact⟨ds,q,hd,hq,h⟩
  ·exact h.elim
 ·exact h.elim
def WA(P:Program)(gl:Fr)(tr:TypeId)(n:Nat)(pl:PlanA):Code->CS->Xv->qt->CS->Prop
 |.skip,_,Q,e,C=>Q .normal e C
 |.ret,_,Q,e,C=>Q .ret e C
 |.exit id,_,Q,e,C=>Q (.exit id) e C
 |.label _,_,Q,e,C=>Q .normal e C
 |.goto l,_,Q,e,C=>Q (.goto l) e C
 |.region id ops draw,R,Q,e,C=>zoh P gl tr n pl.tails pl.draws id ops draw R (λe C=>Q .normal e C) e C
 |.seq x y,R,Q,e,C=>match z6c pl.joins (ji y)with
  |none=>WA P gl tr n pl x R (z6d (λe C=>WA P gl tr n pl y R Q e C) Q) e C
  |some J=>∀K:zse (zah J) Prop,zu5 (zah J) K (λds q=>WA P gl tr n pl y R Q (z0l J ds++zf4 (Zg x) (J.ids++zcq pl x) e) (chJ J ds++inC J.ro C)->q) ->
    WA P gl tr n pl x (inC J.ro C++R) (z0o (inC J.ro C) (λe1 C1=>atA J (inC J.ro C++R) K e1 C1 λq=>q) Q) e (z2f J.ro C)
 |.cond c x y,R,Q,e,C=>match zeb e [] c with
  |some v=>match zr8 v with
   |some b=>(b=true->WA P gl tr n pl x R Q e C)/\(b=false->WA P gl tr n pl y R Q e C)
   |none=>False
  |none=>False
 |.block id x,R,Q,e,C=>WA P gl tr n pl x R (zvl id Q) e C
 |.loop x,R,Q,e,C=>match z6c pl.loops (ji x)with
  |some J=>∃(I:zse (zah J) Prop) (μ:zse (zah J) Nat),atA J (inC J.ro C++R) (zlv (zah J) I μ) e (z2f J.ro C) (λp=>p.1) /\
    zu5 (zah J) (zlv (zah J) I μ) λds p=>p.1->WA P gl tr n pl x (inC J.ro C++R) (z0o (inC J.ro C) (λe1 C1=>atA J (inC J.ro C++R) (zlv (zah J) I μ) e1 C1 λq=>q.1/\q.2<p.2) Q)
     (z0l J ds++zf4 (Zg x) (J.ids++zcq pl x) e) (chJ J ds)
  |none=>False
 |_,_,_,_,_=>False
def z6e(h0:zb)(W:Nat->Prop)(M0:Fr)(n:Nat)(B:World)(ms S:List Nat)(a0:Act)(γ0:Gh)(R:CS)(Q:Xv):Exit->Act->World->Prop:=
 λx a w=>∃e C γ d h,w=mk B d h/\SatA n e γ a/\Inv h0 W M0 (C++R) γ h/\Same ms a0 a/\GxS S γ0 γ/\Q x e C
theorem zsr{e:qt}{γ0 γ γ1:Gh}{a a1:Act}(hs:SatA n e γ0 a){ms S ids:List Nat}(hd:a1.defers=[])(hz:a1.tmps.size=n)(Z:Same ms a a1)(g:GxS S γ0 γ)(g1:GxS ids γ γ1){J:AnnA}{ds:List Dy}
  (hf:∀x∈z0l J ds,zja γ1 (zm a1) x):SatA n (z0l J ds++zf4 ms (ids++S) e) γ1 a1:=by
 refine⟨hd,hz,λx hx=>?_⟩
 rcases Aw.1 hx with hx|hx
 ·exact hf x hx
 ·exact Je ((g.mono λx hx=>Av _ hx).trans (g1.mono λx hx=>Ao _ hx)) Z hs.all x hx
theorem zy5(hm:P.follows .mixedOrders=true){gl:Fr}(ay:Fr.le gl M0){tr:TypeId}{pl:PlanA}:∀(c:Code) (R:CS) (Q:Xv) (e:qt) (C:CS),WA P gl tr n pl c R Q e C ->
  ∀(γ:Gh) (h:zb) (B:World) (d:Nat) (a:Act),SatA n e γ a->Inv h0 W M0 (C++R) γ h->c.wp P (z6e h0 W M0 n B (Zg c) (zcq pl c) a γ R Q) a (mk B d h):=by
 intro c
 induction c with
 |skip=>exact λR Q e C H γ h B d a hs I=>wp_skip ⟨e,C,γ,d,h,rfl,hs,I,Same.refl _ _,GxS.refl _ _,H⟩
 |ret=>exact λR Q e C H γ h B d a hs I=>wp_ret ⟨e,C,γ,d,h,rfl,hs,I,Same.refl _ _,GxS.refl _ _,H⟩
 |exit id=>exact λR Q e C H γ h B d a hs I=>wp_exit ⟨e,C,γ,d,h,rfl,hs,I,Same.refl _ _,GxS.refl _ _,H⟩
 |label l=>exact λR Q e C H γ h B d a hs I=>wp_label ⟨e,C,γ,d,h,rfl,hs,I,Same.refl _ _,GxS.refl _ _,H⟩
 |goto l=>exact λR Q e C H γ h B d a hs I=>wp_goto ⟨e,C,γ,d,h,rfl,hs,I,Same.refl _ _,GxS.refl _ _,H⟩
 |region id ops aI=>
  exact λR Q e C H γ h B d a hs I=>zjl hm ay H B d hs I λe' C' γ' a' d' h' q1 q2 q3 q4 q5=>⟨e',C',γ',d',h',rfl,q1,q2,q3,q4,q5⟩
 |seq x y aa ab=>
  intro R Q e C H γ h B d a hs I
  simp only[WA]at H
  have hl:∀i∈Zg x,i∈Zg (x.seq y):=λi hi=>Ao _ hi
  have hr:∀i∈Zg y,i∈Zg (x.seq y):=λi hi=>Av _ hi
  have kl:∀i∈zcq pl x,i∈zcq pl (x.seq y):=λi hi=>Ao _ hi
  have kr:∀i∈zcq pl y,i∈zcq pl (x.seq y):=λi hi=>Av _ (Ao _ hi)
  split at H
  ·refine wp_seq (wp_mono (aa _ _ _ _ H γ h B d a hs I) ?_)
   rintro ex a1 w1 ⟨e1,C1,γ1,d1,h1,rfl,s1,I1,m1,g1,q1⟩
   cases ex with
   |normal=>
    refine wp_mono (ab _ _ _ _ q1 γ1 h1 B d1 a1 s1 I1) ?_
    rintro ex a2 w2 ⟨e2,C2,γ2,d2,h2,rfl,s2,I2,m2,g2,q2⟩
    exact⟨e2,C2,γ2,d2,h2,rfl,s2,I2,(m1.mono hl).trans (m2.mono hr),(g1.mono kl).trans (g2.mono kr),q2⟩
   |_=>exact⟨e1,C1,γ1,d1,h1,rfl,s1,I1,m1.mono hl,g1.mono kl,q1⟩
  ·rename_i J hJ
   have kJ:∀i∈J.ids,i∈zcq pl (x.seq y):=λi hi=>by
    simp only[zcq,hJ]
    exact Av _ (Av _ hi)
   have H':=H (z5y (zah J) λds=>WA P gl tr n pl y R Q (z0l J ds++zf4 (Zg x) (J.ids++zcq pl x) e) (chJ J ds++inC J.ro C)) (zlx λds hq=>hq)
   refine wp_seq (wp_mono (aa _ _ _ _ H' γ h B d a hs (I.part J.ro)) ?_)
   rintro ex a1 w1 ⟨e1,C1,γ1,d1,h1,rfl,s1,I1,m1,g1,q1⟩
   cases ex with
   |normal=>
    obtain⟨ds,q,hv,hq,hk⟩:=zoi q1
    have am:=zlw hq
    subst am
    obtain⟨au,af,ah,f1⟩:=zfz hv s1 I1
    have aj:=zsr hs s1.defers s1.size m1 g1 ah f1
    rw[<-Bi]at af
    refine wp_mono (ab _ _ _ _ hk au h1 B d1 a1 aj af) ?_
    rintro ex a2 w2 ⟨e2,C2,γ2,d2,h2,rfl,s2,I2,m2,g2,q2⟩
    exact⟨e2,C2,γ2,d2,h2,rfl,s2,I2,(m1.mono hl).trans (m2.mono hr),((g1.mono kl).trans (ah.mono kJ)).trans (g2.mono kr),q2⟩
   |_=>exact⟨e1,C1++inC J.ro C,γ1,d1,h1,rfl,s1,by rw[Bi];exact I1,m1.mono hl,g1.mono kl,q1⟩
 |cond c x y aa ab=>
  intro R Q e C H γ h B d a hs I
  simp only[WA]at H
  have hl:∀i∈Zg x,i∈Zg (DZ c x y):=λi hi=>Ao _ hi
  have hr:∀i∈Zg y,i∈Zg (DZ c x y):=λi hi=>Av _ hi
  have kl:∀i∈zcq pl x,i∈zcq pl (DZ c x y):=λi hi=>Ao _ hi
  have kr:∀i∈zcq pl y,i∈zcq pl (DZ c x y):=λi hi=>Av _ hi
  split at H
  ·rename_i v hv
   split at H
   ·rename_i b hb
    refine wp_cond_split (zfp hb (zr hs (c:=[]) trivial hv)) (λax=>?_) (λaC=>?_)
    ·refine wp_mono (aa _ _ _ _ (H.1 ax) γ h B d a hs I) ?_
     rintro ex a2 w2 ⟨e2,C2,γ2,d2,h2,rfl,s2,I2,m2,g2,q2⟩
     exact⟨e2,C2,γ2,d2,h2,rfl,s2,I2,m2.mono hl,g2.mono kl,q2⟩
    ·refine wp_mono (ab _ _ _ _ (H.2 aC) γ h B d a hs I) ?_
     rintro ex a2 w2 ⟨e2,C2,γ2,d2,h2,rfl,s2,I2,m2,g2,q2⟩
     exact⟨e2,C2,γ2,d2,h2,rfl,s2,I2,m2.mono hr,g2.mono kr,q2⟩
   ·exact H.elim
  ·exact H.elim
 |block id x ih=>
  intro R Q e C H γ h B d a hs I
  refine wp_block (wp_mono (ih _ _ _ _ H γ h B d a hs I) ?_)
  rintro ex a1 w1 ⟨e1,C1,γ1,d1,h1,rfl,s1,I1,m1,g1,q1⟩
  cases ex with
  |exit i=>
   simp only[zvl]at q1
   simp only[Exit.inBlock]
   by_cases hb:Nat.beq i id=true
   ·rw[if_pos (Ah hb)]
    simp only[hb,cond_true]at q1
    exact⟨e1,C1,γ1,d1,h1,rfl,s1,I1,m1,g1,q1⟩
   ·rw[if_neg (λhe=>hb (by rw[he];simp))]
    simp only[hb,cond_false]at q1
    exact⟨e1,C1,γ1,d1,h1,rfl,s1,I1,m1,g1,q1⟩
  |_=>exact⟨e1,C1,γ1,d1,h1,rfl,s1,I1,m1,g1,q1⟩
 |loop x ih=>
  intro R Q e C H γ h B d a hs I
  simp only[WA]at H
  split at H
  ·rename_i J hJ
   have kx:∀i∈zcq pl x,i∈zcq pl (Code.loop x):=λi hi=>Ao _ hi
   have kJ:∀i∈J.ids,i∈zcq pl (Code.loop x):=λi hi=>by
    simp only[zcq,hJ]
    exact Av _ hi
   have kS:∀i∈J.ids++zcq pl x,i∈zcq pl (Code.loop x):=λi hi=>by
    rcases Aw.1 hi with hi|hi
    ·exact kJ i hi
    ·exact kx i hi
   obtain⟨Iv,μ,aF,ae⟩:=H
   obtain⟨aG,p0,ar,aA,ak⟩:=zoi aF
   obtain⟨γ0,I0,g0,f0⟩:=zfz ar hs (I.part J.ro)
   refine wp_loop_ghost (λm a1 w1=>∃d1 h1 γ1 ds p,w1=mk B d1 h1/\a1.defers=[]/\a1.tmps.size=n/\Same (Zg x) a a1/\GxS (J.ids++zcq pl x) γ γ1/\Inv h0 W M0 (chJ J ds++(inC J.ro C++R)) γ1 h1/\(∀y∈z0l J ds,zja γ1 (zm a1) y) /\
     zec (zah J) ds (zlv (zah J) Iv μ)=some p/\p.1/\p.2=m) p0.2 ⟨d,h,γ0,aG,p0,rfl,hs.defers,hs.size,Same.refl _ _,g0.mono λi hi=>Ao _ hi,I0,f0,aA,ak,rfl⟩ ?_
   rintro m a1 w1 ⟨d1,h1,γ1,ds,p,rfl,an,ap,Z,g1,I1,f1,hp,az,rfl⟩
   have s1:SatA n (z0l J ds++zf4 (Zg x) (J.ids++zcq pl x) e) γ1 a1:=⟨an,ap,λy hy=>by
    rcases Aw.1 hy with hy|hy
    ·exact f1 y hy
    ·exact Je g1 Z hs.all y hy⟩
   have hb:=zh1 hp ae az
   refine wp_mono (ih _ _ _ _ hb γ1 h1 B d1 a1 s1 I1) ?_
   rintro ex a2 w2 ⟨e2,C2,γ2,d2,h2,rfl,s2,I2,m2,g2,q2⟩
   cases ex with
   |normal=>
    obtain⟨aB,q,aH,hq,ai,aE⟩:=zoi q2
    obtain⟨γ3,I3,g3,f3⟩:=zfz aH s2 I2
    exact⟨q.2,aE,d2,h2,γ3,aB,q,rfl,s2.defers,s2.size,Z.trans m2,(g1.trans (g2.mono λi hi=>Av _ hi)).trans (g3.mono λi hi=>Ao _ hi),I3,f3,hq,ai,rfl⟩
   |_=>exact⟨e2,C2++inC J.ro C,γ2,d2,h2,rfl,s2,by rw[Bi];exact I2,Z.trans m2,(g1.mono kS).trans (g2.mono kx),q2⟩
  ·exact H.elim
 |_=>exact λR Q e C H=>H.elim
def zoj:Nat->List Arg->qt
 |_,[]=>[]
 |i,a::l=>(i,[],.g (gOf a.t a.x))::zoj (i+1) l
def zqn(e:qt)(i:Nat):Option AV:=match zi9 e i with
 |some ([],v)=>some v
 |_=>none
def zy6(P:Program)(cs:CS)(e:qt):List ResultVar->(List AV->Prop)->Prop
 |[],K=>K []
 |.tmp t::l,K=>match zqn e t with
  |some v=>zy6 P cs e l λvs=>K (v::vs)
  |none=>False
 |.cell a t::l,K=>match zqn e a with
  |some (.g (.a aa))=>zr9 P cs t aa none λv=>zy6 P cs e l λvs=>K (v::vs)
  |_=>False
def yz(cs:CS):(l:List Ty)->List AV->Option (Els l)
 |[],[]=>some ()
 |[t],[v]=>zbu cs t v
 |t::t'::l,v::vs=>match zbu cs t v,yz cs (t'::l) vs with
  |some x,some y=>some (x,y)
  |_,_=>none
 |_,_=>none
theorem zb3{γ:Gh}{cs:CS}(hf:zx6 γ cs):∀{l:List Ty} {vs:List AV} {r:Els l} {us:List Value},yz cs l vs=some r->All2 (DenV γ) vs us->RdL γ.M l r us
 |[],[],r,[],_,_=>rfl
 |[],[],_,_::_,_,h=>h.elim
 |[t],[v],r,[u],h,hd=>⟨u,rfl,zac hf (by simpa[yz]using h) hd.1⟩
 |[t],[v],_,[],_,h=>h.elim
 |[t],[v],_,_::_::_,_,h=>h.2.elim
 |t::t'::l,v::vs,r,[],_,h=>h.elim
 |t::t'::l,v::vs,r,u::us,h,hd=>by
  simp only[yz]at h
  split at h
  ·rename_i x y h1 h2
   simp only[Ab]at h
   subst h
   exact⟨u,us,rfl,zac hf h1 hd.1,zb3 hf h2 hd.2⟩
  ·cases h
 |[],_::_,_,_,h,_=>by simp[yz]at h
 |[t],[],_,_,h,_=>by simp[yz]at h
 |[t],_::_::_,_,_,h,_=>by simp[yz]at h
 |t::t'::l,[],_,_,h,_=>by simp[yz]at h
def z9r(P:Program)(rs:List ResultVar)(rt:List Ty)(R:Els rt->Prop):Xv:=λx e C=>match x with
 |.normal=>zy6 P C e rs λvs=>match yz (frzL (Jr vs) C) rt vs with
  |some r=>R r
  |none=>False
 |.ret=>zy6 P C e rs λvs=>match yz (frzL (Jr vs) C) rt vs with
  |some r=>R r
  |none=>False
 |_=>False
theorem zc9{P:Program}{n:Nat}{C:CS}{e:qt}{γ:Gh}{a:Act}{h:zb}(hs:SatA n e γ a)(I:Inv h0 W M0 C γ h):∀{l:List ResultVar} {K:List AV->Prop},zy6 P C e l K->∃vs us,K vs/\All2 (DenV γ) vs us/\us.length=l.length/\QExec P (l.mapM (zfo a.tmps)) h us
 |[],K,H=>⟨[],[],H,trivial,rfl,λ_ _=>by simp⟩
 |.tmp t::l,K,H=>by
  simp only[zy6]at H
  split at H
  ·rename_i v hv
   obtain⟨vs,us,h1,h2,h3,h4⟩:=zc9 hs I H
   have hd:DenV γ v (zm a t):=by
    unfold zqn at hv
    split at hv
    ·rename_i u hl
     simp only[Ab]at hv
     subst hv
     exact(hs.all _ (xt hl)).1 trivial
    ·cases hv
   refine⟨v::vs,zm a t::us,h1,⟨hd,h2⟩,by simp[h3],?_⟩
   rw[DW]
   exact QExec.bind (x:=zm a t) (QExec.pure _) (h4.bind (QExec.pure _))
  ·exact H.elim
 |.cell x t::l,K,H=>by
  simp only[zy6]at H
  split at H
  ·rename_i aa hp
   obtain⟨v,hK,hq⟩:=zfr (h0:=h0) (W:=W) (M0:=M0) H
   obtain⟨vs,us,h1,h2,h3,h4⟩:=zc9 hs I hK
   have hd:DenA γ aa (zm a x):=by
    unfold zqn at hp
    split at hp
    ·rename_i u hl
     simp only[Ab]at hp
     subst hp
     exact(hs.all _ (xt hl)).1 trivial
    ·cases hp
   obtain⟨u,hu,ab⟩:=hq trivial γ h _ I hd
   refine⟨v::vs,u::us,h1,⟨hu,h2⟩,by simp[h3],?_⟩
   rw[DW]
   refine QExec.bind (x:=u) ?_ (h4.bind (QExec.pure _))
   have af:∃p,zm a x=.pointer (some p):=by
    have no:∀aa,(∀k,zyp C k aa=none)->(∀c z i o,aa≠.oelt c z i o)->DenA γ aa (zm a x)->zr9 P C t aa none (λv=>zy6 P C e l λvs=>K (v::vs))->False:=by
     intro aa hn ae _ hl
     unfold zr9 at hl
     split at hl
     ·split at hl
      ·exact ae _ _ _ _ rfl
      ·rw[hn]at hl;exact hl
     ·exact hl
    cases aa with
    |box c o=>exact⟨_,hd⟩
    |oelt c z i o=>obtain⟨g,_,e⟩:=hd;exact⟨_,e⟩
    |elt t y o=>obtain⟨b,f,cs,e,_⟩:=hd;exact⟨_,e⟩
    |v y=>exact(no _ (λ_=>rfl) (by simp) hd H).elim
    |d t y=>exact(no _ (λ_=>rfl) (by simp) hd H).elim
    |own c=>exact(no _ (λ_=>rfl) (by simp) hd H).elim
    |dc t y=>exact(no _ (λ_=>rfl) (by simp) hd H).elim
   obtain⟨p,Z⟩:=af
   rw[Z]at ab
   have e3:a.tmps.getD x undef=.pointer (some p):=Z
   simp only[zfo,e3]
   exact ab
  ·exact H.elim
theorem zl7{fn:Func}{rs:List ResultVar}(hr:fn.results.toList=rs){us:List Value}(hl:us.length=rs.length)(hq:QExec P (rs.mapM (zfo a.tmps)) h us):QExec P (results fn a.tmps) h (zfn us):=by
 intro B d
 have e0:results fn a.tmps=(fn.results.mapM (zfo a.tmps) >>= λvs=>CZ (if h:vs.size=1 then vs[0]else .tuple vs)):=by
  unfold results
  congr 1
 rw[e0,Array.mapM_eq_mapM_toList,hr,Sem.run_bind,Sem.run_map,hq B d]
 simp only[Result.andThen_ok,Sem.run_pure]
 match us,hl with
 |[],_=>rfl
 |[v],_=>rfl
 |v::u::vs,_=>simp[zfn]
theorem zf5{γ:Gh}{σ:Nat->Value}:∀{l:List Arg} {i:Nat} {us:List Value},Wg γ.M l us->(∀j v,us[j]?=some v->σ (i+j)=v)->∀x∈zoj i l,zja γ σ x
 |[],_,_,_,_,x,hx=>by cases hx
 |a::l,i,[],h,_,x,hx=>h.elim
 |a::l,i,u::us,h,hσ,x,hx=>by
  simp only[zoj,Ai]at hx
  rcases hx with rfl|hx
  ·refine⟨λ_=>?_,λhn=>absurd trivial hn⟩
   have:=hσ 0 u rfl
   simp only at this ⊢
   rw[show σ i=u from this]
   exact zn4 h.1
  ·exact zf5 h.2 (λj v hj=>by have:=hσ (j+1) v (by simpa using hj);rwa[show i+(j+1)=i+1+j by omega]at this) x hx
theorem zss(hm:P.follows .mixedOrders=true)(gl:Fr)(tr:TypeId)(pl:PlanA)(args:List Arg){fn:Func}{rs:List ResultVar}{rt:List Ty}(hf:P.funcs[f]?=some fn)(hb:Z2 fn=true)(hr:fn.results.toList=rs)(hn:fn.ntmps=n)
  (hz:Nat.ble args.length n=true) {R:Els rt->Prop} (H:WA P gl tr n pl (codeOf fn) [] (z9r P rs rt R) (zoj 0 args) []):PC P gl f args rt R:=by
 intro h M vs aj af Z B d
 subst hn
 have ai:fn.body=some (codeOf fn):=by
  unfold Z2 at hb
  unfold codeOf
  split at hb
  ·rename_i c hc;rw[hc]
  ·cases hb
 refine calls_of_wp hf ai ?_
 have ab:vs.length=args.length:=(All2.length Z).symm
 have ak:vs.length<=fn.ntmps:=by rw[ab];exact BM hz
 let γ:Gh:=⟨M,λ_=>0,λ_=>⟨none,0,0⟩⟩
 have I:Inv h (λ_=>False) M ([]++[]) γ h:={ ag:=af,frame:=λ_ _ _=>rfl,size:=Ad _,old:=λ_ _=>rfl,le:=Fr.le.refl _,den:=λx hx=>(by cases hx),sep:=λx hx=>(by cases hx),apart:=List.Pairwise.nil }
 have hs:SatA fn.ntmps (zoj 0 args) γ { tmps:=vs.toArray++Be (fn.ntmps-vs.toArray.size) undef,defers:=[] }:=by
  refine⟨rfl,by simp;omega,zf5 Z λj v hj=>?_⟩
  have ae:j<vs.length:=(Au.1 hj).1
  simp only[AB,zm,BE]
  rw[Cn (by simpa using ae)]
  simp[hj]
 have aa:∀(e:qt) (C:CS) (γ':Gh) (h':zb) (a:Act),SatA fn.ntmps e γ' a->Inv h (λ_=>False) M (C++[]) γ' h'->(zy6 P C e rs λvs=>match yz (frzL (Jr vs) C) rt vs with|some r=>R r|none=>False) ->
   ∃v,QExec P (results fn a.tmps) h' v/\Keep h.size h h'/\∃M' r,Fr.le M M'/\(∀b,b<h.size->M' b=M b)/\AgM M' h'/\zc1 M' rt r v/\R r:=by
  intro e C γ' h' a s1 I1 q
  rw[A8]at I1
  obtain⟨ah,us,hK,hd,hl,hq⟩:=zc9 s1 I1 q
  split at hK
  ·rename_i r hc
   obtain⟨γ2,I2,g2⟩:=Inv.frzL (C:=C) (R:=[]) (γ:=γ') (Jr ah) (by simpa using I1)
   rw[A8]at I2
   refine⟨zfn us,zl7 hr hl hq,⟨I2.size,λi hi=>I2.frame i hi (λh=>h)⟩,γ2.M,r,I2.le,I2.old,I2.ag,⟨us,zb3 I2.fz hc (hd.imp λv _ u hu=>hu.gx g2 rfl),rfl⟩,hK⟩
  ·exact hK.elim
 refine wp_mono (zy5 hm aj _ _ _ _ _ H γ h B d _ hs I) ?_
 rintro ex a w ⟨e1,C1,γ1,d1,h1,rfl,s1,I1,m1,g1,q1⟩
 cases ex with
 |normal=>
  obtain⟨v,hq,k,rest⟩:=aa e1 C1 γ1 h1 a s1 I1 q1
  exact⟨s1.defers,v,hq B d1,v,d1,h1,rfl,rfl,k,rest⟩
 |ret=>
  obtain⟨v,hq,k,rest⟩:=aa e1 C1 γ1 h1 a s1 I1 q1
  exact⟨s1.defers,v,hq B d1,v,d1,h1,rfl,rfl,k,rest⟩
 |_=>exact q1.elim
theorem zst(hm:P.follows .mixedOrders=true)(gl:Fr)(tr:TypeId)(pl:PlanA)(args:List Arg){fn:Func}{rs:List ResultVar}{rt:List Ty}(hf:P.funcs[f]?=some fn)(hb:Z2 fn=true)(hr:fn.results.toList=rs)(hn:fn.ntmps=n)
  (hz:Nat.ble args.length n=true) {R:Els rt->Prop} {F:Prop} (H:F) (e:F=WA P gl tr n pl (codeOf fn) [] (z9r P rs rt R) (zoj 0 args) []):PC P gl f args rt R:=
 zss hm gl tr pl args hf hb hr hn hz (e ▸ H)
end
end Go.X
end
section
namespace Go.X
open Go Go.RowKit
section
variable {P:Program} {f:FuncId} {h:zb} {M gl:Fr} {v:Value} {us:List Value}
theorem XC.of_calls{args:Array Value}{R:Value->zb->Prop}
  (H:∀B d,Calls P f args (mk B d h) λe w'=>∃v,e=.returned v/\w'.os=B.os/\w'.tape=B.tape/\w'.output=B.output/\R v w'.heap):XC P f args h R:=by
 intro B d
 refine(H B d).mono ?_
 rintro e w' ⟨v,rfl,h1,h2,h3,h4⟩
 refine⟨v,w'.drawn,w'.heap,rfl,?_,h4⟩
 cases w';simp only[mk]at *;subst h1;subst h2;subst h3;rfl
theorem AgM.keep{h h':zb}(ag:AgM M h)(k:Keep h.size h h'):AgM M h':=λb c e=>by
 obtain⟨T,m,e'⟩:=ag b c e
 exact⟨T,m,by rw[k.get b (ag.lt e)];exact e'⟩
def zsu:Arg->Option Value
 |⟨.int k,x⟩=>some (.int k x)
 |⟨.bool,x⟩=>some (.bool x)
 |⟨.str,x⟩=>some (.string x)
 |_=>none
def zd5:List Arg->Option (List Value)
 |[]=>some []
 |a::l=>match zsu a,zd5 l with
  |some v,some vs=>some (v::vs)
  |_,_=>none
theorem zy7{a:Arg}{v u:Value}(h:zsu a=some v)(hd:RdV M a.t a.x u):u=v:=by
 obtain⟨t,x⟩:=a
 cases t with
 |int k=>simp only[zsu,Ab]at h;subst h;simpa[RdV,Rd,zls]using hd
 |bool=>simp only[zsu,Ab]at h;subst h;simpa[RdV,Rd,zls]using hd
 |str=>simp only[zsu,Ab]at h;subst h;simpa[RdV,Rd,zls]using hd
 |_=>simp[zsu]at h
theorem zb4{M:Fr}:∀{l:List Arg} {vs us:List Value},zd5 l=some vs->Wg M l us->us=vs
 |[],vs,us,h,hd=>by
  simp only[zd5,Ab]at h;subst h
  cases us with
  |nil=>rfl
  |cons _ _=>exact hd.elim
 |a::l,vs,us,h,hd=>by
  simp only[zd5]at h
  split at h
  ·rename_i v Z h1 h2
   simp only[Ab]at h;subst h
   cases us with
   |nil=>exact hd.elim
   |cons u us=>rw[zy7 h1 hd.1,zb4 h2 hd.2]
  ·cases h
theorem PC.of_scal{args:List Arg}{rt:List Ty}{R:Els rt->Prop}(aa:zd5 args=some us){r:Els rt}(hv:∀M,zc1 M rt r v)(hR:R r)
  (H:∀w:World,AgM gl w.heap->Calls P f us.toArray w λe w'=>e=.returned v/\Below w.heap.size w w'):PC P gl f args rt R:=by
 intro h M vs hM ag ha
 rw[zb4 aa ha]
 refine XC.of_calls λB d=>(H (mk B d h) λb c e=>ag b c (hM b c e)).mono ?_
 rintro e w' ⟨rfl,Z⟩
 have k:Keep h.size h w'.heap:=⟨Z.size,Z.block⟩
 exact⟨v,rfl,Z.os,Z.tape,Z.output,k,M,r,Fr.le.refl _,λ_ _=>rfl,ag.keep k,hv M,hR⟩
theorem PC.of_same{args:List Arg}{rt:List Ty}{R:Els rt->Prop}(Z:zd5 args=some us){r:Els rt}(hv:∀M,zc1 M rt r v)(hR:R r)
  (H:∀w:World,AgM gl w.heap->Calls P f us.toArray w λe w'=>e=.returned v/\w'=w):PC P gl f args rt R:=
 PC.of_scal Z hv hR λw hw=>(H w hw).mono λe w' ⟨h1,h2⟩=>⟨h1,h2 ▸ Below.refl _ _⟩
theorem zvm(k:IntKind)(i:Int):zc1 M [.int k] i (.int k i):=⟨[_],⟨_,rfl,rfl⟩,rfl⟩
theorem zqo(b:Bool):zc1 M [.bool] b (.bool b):=⟨[_],⟨_,rfl,rfl⟩,rfl⟩
theorem zjm(s:Bt):zc1 M [.str] s (.string s):=⟨[_],⟨_,rfl,rfl⟩,rfl⟩
theorem AgM.glob{w:World}(ag:AgM gl w.heap){b o:Nat}{cs:Array Value}(hb:gl b=some cs)(ho:cs[o]?=some v):w.cell? ⟨b,o,Option.none⟩=some v:=by
 obtain⟨T,m,e⟩:=ag b cs hb
 simp[World.cell?,e,ho]
theorem PC.of_ex{args:List Arg}{rt:List Ty}{R:Els rt->Prop}(aa:zd5 args=some us)
  (H:∀w:World,AgM gl w.heap->Calls P f us.toArray w λe w'=>∃v r,e=.returned v/\(∀M,zc1 M rt r v)/\R r/\Below w.heap.size w w'):PC P gl f args rt R:=by
 intro h M vs hM ag ha
 rw[zb4 aa ha]
 refine XC.of_calls λB d=>(H (mk B d h) λb c e=>ag b c (hM b c e)).mono ?_
 rintro e w' ⟨v,r,rfl,hv,hR,Z⟩
 have k:Keep h.size h w'.heap:=⟨Z.size,Z.block⟩
 exact⟨v,rfl,Z.os,Z.tape,Z.output,k,M,r,Fr.le.refl _,λ_ _=>rfl,ag.keep k,hv M,hR⟩
end
section
variable {P:Program} {gl M:Fr} {f:FuncId} {h h':zb} {vs:List Value} {K:Value -> zb -> Prop} {t:Ty} {u v:Value} {i:Int} {s:Sl} {k:Nat}
def PX(P:Program)(f:FuncId)(vs:Array Value)(h:zb)(M:Fr)(rt:List Ty)(R:Els rt->Prop):Prop:=
 XC P f vs h λv h'=>Keep h.size h h'/\∃M' r,Fr.le M M'/\(∀b,b<h.size->M' b=M b)/\AgM M' h'/\zc1 M' rt r v/\R r
theorem PC.px{args:List Arg}{rt:List Ty}{R:Els rt->Prop}(H:PC P gl f args rt R)(hM:Fr.le gl M)(ag:AgM M h)(ha:Wg M args vs):PX P f vs.toArray h M rt R:=H h M vs hM ag ha
structure Later (h:zb) (M:Fr) (h':zb) (M':Fr):Prop where
 keep:Keep h.size h h'
 le:Fr.le M M'
 old:∀b,b<h.size->M' b=M b
 ag:AgM M' h'
theorem Later.refl(ag:AgM M h):Later h M h M:=⟨Keep.refl _ _,Fr.le.refl _,λ_ _=>rfl,ag⟩
theorem Later.trans{h h' aa:zb}{M M' Z:Fr}(a:Later h M h' M')(b:Later h' M' aa Z):Later h M aa Z:=
 ⟨a.keep.trans b.keep a.keep.size,a.le.trans b.le,λx hx=>(b.old x (by have:=a.keep.size;omega)).trans (a.old x hx),b.ag⟩
theorem Later.same(ag:AgM M h)(k:Keep h.size h h'):Later h M h' M:=⟨k,Fr.le.refl _,λ_ _=>rfl,ag.keep k⟩
theorem Later.push(ag:AgM M h)(o:Obj):Later h M (h.push o) M:=Later.same ag (Keep.push _ _ (Ad _))
theorem PX.go{vs:Array Value}{rt:List Ty}{R:Els rt->Prop}(H:PX P f vs h M rt R)(hK:∀v h' M' r,Later h M h' M'->zc1 M' rt r v->R r->K v h'):XC P f vs h K:=
 XC.mono H λv h' ⟨k,M',r,e1,e2,e3,e4,e5⟩=>hK v h' M' r ⟨k,e1,e2,e3⟩ e4 e5
theorem PX.of{vs:Array Value}{rt:List Ty}{R:Els rt->Prop}(H:XC P f vs h λv h'=>∃M' r,Later h M h' M'/\zc1 M' rt r v/\R r):PX P f vs h M rt R:=
 XC.mono H λv h' ⟨M',r,l,e4,e5⟩=>⟨l.keep,M',r,l.le,l.old,l.ag,e4,e5⟩
theorem PC.go{args:List Arg}{rt:List Ty}{R:Els rt->Prop}(H:PC P gl f args rt R)(hM:Fr.le gl M)(ag:AgM M h)(ha:Wg M args vs)
  (hK:∀v h' M' r,Later h M h' M'->zc1 M' rt r v->R r->K v h'):XC P f vs.toArray h K:=(H.px hM ag ha).go hK
theorem zsv{x:El t}(ht:zls t=false):RdV M t x u↔Rd M t x [u]:=by unfold RdV;rw[ht];simp
theorem zsw{x:El t}:zc1 M [t] x v↔RdV M t x v:=by
 constructor
 ·rintro⟨us,⟨u,rfl,h⟩,rfl⟩;exact h
 ·intro h;exact⟨[v],⟨v,rfl,h⟩,rfl⟩
theorem z4v{b:Bool}(h:zc1 M [.bool] b v):v=.bool b:=by
 have:=zsw.1 h
 rw[zsv rfl]at this
 simpa[Rd]using this
theorem z8q{k:IntKind}(h:zc1 M [.int k] i v):v=.int k i:=by
 have:=zsw.1 h
 rw[zsv rfl]at this
 simpa[Rd]using this
theorem z6f{s:Bt}(h:zc1 M [.str] s v):v=.string s:=by
 have:=zsw.1 h
 rw[zsv rfl]at this
 simpa[Rd]using this
theorem j9:Wg M [] []:=trivial
theorem yu{a:Arg}{l:List Arg}{us:List Value}(h:RdV M a.t a.x u)(hl:Wg M l us):Wg M (a::l) (u::us):=⟨h,hl⟩
theorem rdStr(s:Bt):RdV M .str s (.string s):=by rw[zsv rfl];rfl
theorem Jt(k:IntKind)(i:Int):RdV M (.int k) i (.int k i):=by rw[zsv rfl];rfl
theorem rdBool(b:Bool):RdV M .bool b (.bool b):=by rw[zsv rfl];rfl
theorem Zo{s:Bt}(h:RdV M .str s u):u=.string s:=by rw[zsv rfl]at h;simpa[Rd]using h
theorem qo{k:IntKind}(h:RdV M (.int k) i u):u=.int k i:=by rw[zsv rfl]at h;simpa[Rd]using h
theorem zl8{v:Tr}(h:RdV M .tree v u):∃sk si:Sl,u=.agg #[.int .i64 v.kind,.string v.text,slV sk,slV si]/\Rd M (.row .str) v.keys [slV sk]/\Rd M (.row .tree) v.items [slV si]:=by
 unfold RdV at h
 simp only[zls,if_true]at h
 obtain⟨cs,rfl,hr⟩:=h
 obtain⟨vk,vi,rfl,h1,h2⟩:=TrRd.keys hr
 have Z:=h1;have aa:=h2
 obtain⟨w1,e1,a1,c1,q1,_⟩:=Z
 obtain⟨w2,e2,a2,c2,q2,_⟩:=aa
 simp only[BR,and_true]at e1 e2
 subst e1;subst e2;subst q1;subst q2
 exact⟨⟨a1,v.keys.length,c1⟩,⟨a2,v.items.length,c2⟩,rfl,h1,h2⟩
theorem z6g{xs:List (El t)}(h:RdV M (.row t) xs u):∃s:Sl,u=slV s/\Rd M (.row t) xs [slV s]:=by
 rw[zsv rfl]at h
 have h':=h
 obtain⟨w,e,a,c,q,_⟩:=h'
 simp only[BR,and_true]at e
 subst e;subst q
 exact⟨⟨a,xs.length,c⟩,rfl,h⟩
theorem rowLen{xs:List (El t)}(h:Rd M (.row t) xs [slV s]):s.len=xs.length/\xs.length<=140737488355328/\xs.length<=s.cap:=by
 obtain⟨w,e,a,c,q,hn,_⟩:=h
 simp only[BR,and_true]at e
 subst e
 simp only[slV,Bb]at q
 obtain⟨_,h2,h3⟩:=q
 exact⟨h2,hn.1,by rw[h3];exact hn.2⟩
theorem rowAt{xs:List (El t)}(h:Rd M (.row t) xs [slV s])(hk:k<xs.length):∃b o cs,s.a=some ⟨b,o,none⟩/\M b=some cs/\Rd M t xs[k] (cut cs (o+k*sz t) (sz t)):=by
 obtain⟨w,e,a,c,q,hn,hx⟩:=h
 simp only[BR,and_true]at e
 subst e
 simp only[slV,Bb]at q
 obtain⟨h1,h2,h3⟩:=q
 rcases hx with rfl|⟨b,o,cs,e1,e2,e3⟩
 ·simp at hk
 ·exact⟨b,o,cs,by rw[h1,e1],e2,e3 k hk⟩
theorem zy8{M:Fr}{h:zb}(ag:AgM M h){b:Nat}{cs:Array Value}(hM:M b=some cs):∀{vs:List Value} {o i:Nat},cut cs (o+i) vs.length=vs->zh h ⟨b,o,none⟩ i vs
 |[],_,_,_=>trivial
 |v::vs,o,i,e=>by
  unfold cut at e
  have Z:o+i<cs.toList.length:=by
   rcases AF (o+i) cs.toList.length with hh|hh
   ·exact hh
   ·rw[AU hh]at e;simp at e
  rw[Ay Z,AI,Cs]at e
  injection e with e1 e2
  refine⟨?_,zy8 ag hM (i:=i+1) e2⟩
  rw[qj]
  refine ag.cell hM ?_
  rw[AJ (by simpa using Z),<-e1];simp
theorem zvn(ag:AgM M h){b:Nat}{cs:Array Value}(hM:M b=some cs){o:Nat}(e:cut cs o 1=[v]):zc h ⟨b,o,none⟩=some v:=by
 have:=zy8 (vs:=[v]) (o:=o) (i:=0) ag hM (by simpa using e)
 exact this.1
theorem zi(b o n:Nat):(⟨b,o,none⟩:Addr).add n=⟨b,o+n,none⟩:=qj b o n
theorem z6h(ag:AgM M h){xs:List Bt}(H:Rd M (.row .str) xs [slV s])(hk:k<xs.length)(hi:i=(k:Int)){L:Nat}(hL:L=s.len){Q:Bt->Prop}(hQ:Q xs[k]):
  ∃a:Addr,(s.a=some a/\0<=i/\i<(L:Int))/\∃x:Bt,zc h (a.add (i.toNat*1))=some (.string x)/\Q x:=by
 obtain⟨b,o,cs,e1,e2,e3⟩:=rowAt H hk
 have hl:=(rowLen H).1
 refine⟨_,⟨e1,by omega,by omega⟩,xs[k],?_,hQ⟩
 rw[zi,hi,Ae]
 exact zvn ag e2 e3
def Mx(M:Fr)(b:Nat)(cs:Array Value):Fr:=λi=>if i=b then some cs else M i
theorem Later.frz(ag:AgM M h)(cs:Array Value)(T:TypeId):Later h M (h.push (.cells cs T)) (Mx M h.size cs) where
 keep:=Keep.push _ _ (Ad _)
 le:=λb c e=>by
  have:=ag.lt e
  unfold Mx;rw[if_neg (by omega)];exact e
 old:=λb hb=>by unfold Mx;rw[if_neg (by omega)]
 ag:=λb c e=>by
  unfold Mx at e
  split at e
  ·rename_i hb
   subst hb
   cases e
   exact⟨T,(0,0),Zn _ _⟩
  ·obtain⟨T',m,e'⟩:=ag b c e
   exact⟨T',m,by rw[(Keep.push h _ (Ad _)).get b (ag.lt e)];exact e'⟩
end
end Go.X
end
section
namespace Go.X
open Go Go.ChangeShapes Go.WideShapes Go.RowKit
set_option linter.unusedVariables false
section
variable {a:Addr} {v:Value} {cs:List Value} {fuel:Nat} {t e:TypeId} {P:Program}
def Fz(W:World):Fr:=λb=>match W.heap[b]? with|some (.cells cs _ _)=>some cs|_=>none
theorem Fz.ag(W:World):AgM (Fz W) W.heap:=by
 intro b c e
 unfold Fz at e
 split at e
 ·rename_i cs T m hh;cases e;exact⟨T,m,hh⟩
 ·cases e
theorem Fz.cell{W:World}(h:W.cell? a=some v):∃b o c,a=⟨b,o,none⟩/\Fz W b=some c/\c[o]?=some v:=by
 obtain⟨b,o,sp⟩:=a
 unfold World.cell? at h
 split at h
 ·rename_i c T m hh
  cases sp with
  |some x=>simp at h
  |none=>
   refine⟨b,o,c,rfl,?_,by simpa using h⟩
   unfold Fz
   change W.heap[b]?=_ at hh
   rw[hh]
 ·cases h
theorem Fz.cells{W:World}{n:Nat}(h:W.cells? 0 a n=some cs)(hn:0<n):∃b o c,a=⟨b,o,none⟩/\Fz W b=some c/\cut c o n=cs:=by
 obtain⟨_,hl,hc⟩:=World.cells?_some h
 have h0:=hc 0 hn
 rw[Ak (by omega)]at h0
 obtain⟨b,o,c,e,hb,_⟩:=Fz.cell h0
 obtain⟨ab,ao,sp⟩:=a
 rw[show Af ⟨ab,ao,sp⟩ 0=⟨ab,ao,sp⟩from rfl]at e
 cases e
 refine⟨b,o,c,rfl,hb,?_⟩
 have Z:∀i,i<n->c[o+i]?=cs[i]?:=λi hi=>by
  have h1:=hc i hi
  rw[Ak (by omega)]at h1 ⊢
  obtain⟨b2,o2,c2,e2,aa,h2⟩:=Fz.cell h1
  rw[qj]at e2
  cases e2
  rw[hb]at aa;cases aa
  exact h2
 unfold cut
 apply Bc
 intro i
 by_cases hi:i<n
 ·rw[AC,if_pos hi,AE,<-Z i hi];simp
 ·rw[AC,if_neg hi,BN (by omega)]
theorem z2g{α:Type}{Q:Nat->α->Prop}(n:Nat)(h:∀i,i<n->∃z,Q i z):∃xs:List α,xs.length=n/\∀i (hi:i<xs.length),Q i xs[i]:=by
 refine⟨List.ofFn λi:Fin n=>Classical.choose (h i i.2),by simp,λi hi=>?_⟩
 rw[List.getElem_ofFn]
 exact Classical.choose_spec (h i (by simpa using hi))
section
variable {H : Type} {enc : TypeId × Value -> H} {P : Program} {W : World} {sp : Nat -> Bool} {held : Bool}
def zvo(P:Program)(t:TypeId)(d:DataW H):Prop:=∀n∈d.weights P t,n<=reachBytes
theorem zf6{e:TypeId}{y:DataW H}:∀{l:List (DataW H)},y∈l->∀n∈y.weights P e,n∈DataW.weightsAll P e l
 |x::l,hy,n,hn=>by
  unfold DataW.weightsAll
  rcases Ai.1 hy with rfl|hy
  ·exact Ao _ hn
  ·exact Av _ (zf6 hy n hn)
theorem z6i{T : Ty}{x : DataW H × List MemPlace}(ht : P.underlying t = some (.slice e))(hz : P.cellsOf e = sz T)(hp : 0 < sz T)(hby : 0 < P.bytesOf e)
    (hel : ∀ n, n < fuel -> ∀ cs y, DataW.trod enc P W 0 sp held n e cs = some y -> zvo P e y.1 -> ∃ z : El T, Rd (Fz W) T z cs)
    (h : DataW.trod enc P W 0 sp held fuel t cs = some x) (hw : zvo P t x.1) : ∃ xs : List (El T), Rd (Fz W) (.row T) xs cs := by
  rcases DataW.trod_slice ht h with ⟨rfl, _⟩ | ⟨a, len, cap, elems, rest, n, rfl, rfl, hx, _, hlc, hcap, hlen, hi, _, _⟩
  · exact ⟨[], _, rfl, none, 0, rfl, ⟨by simp, by simp⟩, .inl rfl⟩
  · have hwt : ∀ m, m = (elems.length + rest.length) * P.bytesOf e \/ m ∈ DataW.weightsAll P e (elems.map (·.1)) -> m <= reachBytes := λm hm => hw m (by
      rw [hx]
      unfold DataW.weights
      rw [ht]
      simp only [Ai, Aw, AL]
      rcases hm with hm | hm
      · exact .inl hm
      · exact .inr (.inl hm))
    have hmax : len <= 140737488355328 := by
      have h1 := hwt _ (.inl rfl)
      have h2 : elems.length + rest.length <= (elems.length + rest.length) * P.bytesOf e := Da _ hby
      have h3 : reachBytes <= 140737488355328 := by decide
      omega
    have key : ∀ i, i < len -> ∃ z : El T, ∃ b o c, a.add (i * sz T) = ⟨b, o, none⟩ /\ Fz W b = some c /\ Rd (Fz W) T z (cut c o (sz T)) := λi hil => by
      have h1 := hi i hil
      rw [Ak (by omega), Option.bind_eq_some_iff] at h1
      obtain ⟨cc, h2, h3⟩ := h1
      rw [hz] at h2
      obtain ⟨b, o, c, e1, e2, e3⟩ := Fz.cells h2 hp
      obtain ⟨z, hz⟩ := hel n (by omega) _ _ h3 λm hm => hwt m (.inr (zf6 (List.mem_map.2 ⟨elems[i], AM (by omega), rfl⟩) m hm))
      exact ⟨z, b, o, c, e1, e2, by rw [e3]; exact hz⟩
    obtain ⟨xs, hxl, hxs⟩ := z2g len key
    subst hxl
    refine ⟨xs, _, rfl, some a, cap, rfl, ⟨by omega, hlc⟩, ?_⟩
    by_cases h0 : xs.length = 0
    · exact .inl (AR h0)
    · obtain ⟨b, o, c, e1, e2, _⟩ := hxs 0 (by omega)
      obtain ⟨ab, ao, asp⟩ := a
      rw [DD, show Af ⟨ab, ao, asp⟩ 0 = ⟨ab, ao, asp⟩ from rfl] at e1
      cases e1
      refine .inr ⟨b, o, c, rfl, e2, λi hil => ?_⟩
      obtain ⟨b', o', c', e1', e2', e3'⟩ := hxs i hil
      rw [qj] at e1'
      cases e1'
      rw [e2] at e2'; cases e2'
      simpa using e3'
theorem z6j{x:DataW H×List MemPlace}(ht:P.underlying t=some .string)(h:DataW.trod enc P W 0 sp held fuel t cs=some x):∃s:El .str,Rd (Fz W) .str s cs:=by
 obtain⟨s,rfl,_,_⟩:=DataW.trod_string ht h
 exact⟨s,rfl⟩
theorem z2h{x:DataW H×List MemPlace}(ht:P.underlying t=some (.slice e))(he:P.underlying e=some .string)(hc:P.cellsOf e=1)(Z:0<P.bytesOf e)
  (h:DataW.trod enc P W 0 sp held fuel t cs=some x) (hw:zvo P t x.1):∃xs:List ByteArray,Rd (Fz W) (.row .str) xs cs:=
 z6i (T:=.str) ht hc (by decide) Z (λn _ cs y hy _=>z6j he hy) h hw
end
theorem zok{f:FuncId}{W:World}{args:List Arg}{vs:Array Value}(H:PC P (Fz W) f args [.bool] (λr=>r=true))(ha:Wg (Fz W) args vs.toList):
  Calls P f vs W λe w'=>e=.returned (.bool true)/\Below W.heap.size W w':=by
 have H':=H W.heap (Fz W) vs.toList (Fr.le.refl _) (Fz.ag W) ha
 rw[Array.toArray_toList]at H'
 refine(H' W W.drawn).mono ?_
 rintro e w' ⟨v,d',h',rfl,rfl,k,M',r,_,_,_,hr,Z⟩
 have Z:r=true:=Z
 subst Z
 rw[z4v hr]
 exact⟨rfl,rfl,rfl,rfl,k.size,k.get⟩
theorem z2i{M:Fr}{T:Ty}{xs:List (El T)}(h:Rd M (.row T) xs [v]):RdV M (.row T) xs v:=by rw[zsv rfl];exact h
theorem Fz.var{W:World}{n:String}{g:Nat}{cs:Array Value}(hg:P.globalNamed n=some g)(h:W.var? P n=some cs):Fz W g=some cs:=by
 unfold World.var? at h
 rw[hg]at h
 exact h
end
end Go.X
end
section
namespace Go.Proofs
section
theorem Tryz.mixed:AP.follows .mixedOrders=true:=by kernel_rfl
noncomputable abbrev Tp:= AP
end
end Go.Proofs
end
section
namespace Go.X
section
theorem PF{gl:Fr}{args:List Arg}{f:FuncId}{fn:Func}{rt:List Ty}{R:Els rt->Prop}{F:Prop}(pl:PlanA)(rs:List ResultVar)(n:Nat)(hf:AP.funcs[f]?=some fn)(H:F)(hb:Z2 fn=true:=by kernel_rfl)(hr:fn.results.toList=rs:=by kernel_rfl)(hn:fn.ntmps=n:=by kernel_rfl)(hz:Nat.ble args.length n=true:=by kernel_rfl)(e:F=WA Tp gl 26 n pl (codeOf fn) [] (z9r Tp rs rt R) (zoj 0 args) []:=by kernel_rfl):PC Tp gl f args rt R:=zst Tryz.mixed gl 26 pl args hf hb hr hn hz H e
theorem zal(gl:Fr)(l0:List Bt)(R:Bool->Prop)
  (H:∃(a:Int->Prop) (b:Int->Nat),a 0/\∀c:Int,a c->(((bif (decide (c<l0.length))then(decide (c<300))else false)=true->∃d,(0<=c/\l0[c.toNat]?=some d)/\(decide ((d.size:Int)>1024)=true->R false)/\(decide ((d.size:Int)>1024)=false->(a (Aa .i64 (c+1))/\b (Aa .i64 (c+1))<b c)))/\((bif (decide (c<l0.length))then(decide (c<300))else false)=false->R (decide ((l0.length:Int)<=200))))):
  PC Tp gl 18 [Arg.mk (.row .str) l0] [.bool] R:=
 PF ⟨[],[],[(2,⟨[(3,.one (.dat (.int .i64)))],[],[],[100192]⟩)],[]⟩ [.tmp 2] 23 Tryz.func18 H
theorem zam(gl:Fr)(a0:Tr)(b1:Tr)(R:Bool->Prop)
  (H:((bif (bif (bif (a0.kind != b1.kind)then true else(!(a0.text.toList==b1.text.toList)))then true else((a0.keys.length:Int) != (b1.keys.length:Int)))then true else((a0.items.length:Int) != (b1.items.length:Int)))=true->R false)/\((bif (bif (bif (a0.kind != b1.kind)then true else(!(a0.text.toList==b1.text.toList)))then true else((a0.keys.length:Int) != (b1.keys.length:Int)))then true else((a0.items.length:Int) != (b1.items.length:Int)))=false->∃(a:Int->Prop) (b:Int->Nat),a 0/\∀c:Int,a c->((decide (c<a0.keys.length)=true->∃d,(0<=c/\a0.keys[c.toNat]?=some d)/\∃e,(0<=c/\b1.keys[c.toNat]?=some e)/\((!(d.toList==e.toList))=true->R false)/\((!(d.toList==e.toList))=false->(a (Aa .i64 (c+1))/\b (Aa .i64 (c+1))<b c)))/\(decide (c<a0.keys.length)=false->∃(f:Int->Prop) (g:Int->Nat),f 0/\∀i:Int,f i->((decide (i<a0.items.length)=true->∃j,(0<=i/\a0.items[i.toNat]?=some j)/\∃k,(0<=i/\b1.items[i.toNat]?=some k)/\PC Tp gl 16 [Arg.mk .tree (Tr.mk j.kind j.text j.keys j.items),Arg.mk .tree (Tr.mk k.kind k.text k.keys k.items)] [.bool] (λl:Bool=>((!l)=true->R false)/\((!l)=false->(f (Aa .i64 (i+1))/\g (Aa .i64 (i+1))<g i))))/\(decide (i<a0.items.length)=false->R true)))))):
  PC Tp gl 16 [Arg.mk .tree a0,Arg.mk .tree b1] [.bool] R:=
 PF ⟨[(11,10)],[],[(4,⟨[(5,.one (.dat (.int .i64)))],[],[2,3],[100320]⟩),(9,⟨[(6,.one (.dat (.int .i64)))],[],[2,3],[100384]⟩)],[]⟩ [.tmp 4] 76 Tryz.func16 H
theorem zee(gl:Fr)(Z:Bt)(R:(Int×Bool)->Prop)
  (H:(((!(bif (Z.toList==(⟨#[]⟩:Bt).toList)then true else(decide ((Z.size:Int)>9))))&&(!(Z.toList==(⟨#[48]⟩:Bt).toList)))=true->(0<=(0:Int)/\(0:Int)<(Z.size:Int)))/\∃a:Bool->Prop,((!(bif (bif (Z.toList==(⟨#[]⟩:Bt).toList)then true else(decide ((Z.size:Int)>9)))then true else(bif (!(Z.toList==(⟨#[48]⟩:Bt).toList))then((za Z (0:Int).toNat:Int)==48)else false)))=true->PC Tp gl 209 [Arg.mk .str Z,Arg.mk .str (⟨#[43,45,95]⟩:Bt)] [.bool] a)/\∀b:Bool,((!(bif (bif (Z.toList==(⟨#[]⟩:Bt).toList)then true else(decide ((Z.size:Int)>9)))then true else(bif (!(Z.toList==(⟨#[48]⟩:Bt).toList))then((za Z (0:Int).toNat:Int)==48)else false)))=true->a b)->((bif (bif (bif (Z.toList==(⟨#[]⟩:Bt).toList)then true else(decide ((Z.size:Int)>9)))then true else(bif (!(Z.toList==(⟨#[48]⟩:Bt).toList))then((za Z (0:Int).toNat:Int)==48)else false))then true else b)=true->R (0,false))/\((bif (bif (bif (Z.toList==(⟨#[]⟩:Bt).toList)then true else(decide ((Z.size:Int)>9)))then true else(bif (!(Z.toList==(⟨#[48]⟩:Bt).toList))then((za Z (0:Int).toNat:Int)==48)else false))then true else b)=false->PC Tp gl 210 [Arg.mk .str Z] [.int .i64,.err] (λc:Int×Bool=>((!c.2)=true->R (0,false))/\((!c.2)=false->R (c.1,true))))):
  PC Tp gl 135 [Arg.mk .str Z] [.int .i64,.bool] R:=
 PF ⟨[],[],[],[]⟩ [.tmp 2,.tmp 3] 34 Tryz.func135 H
theorem zan(gl:Fr)(Z:Bt)(R:(Int×Bool)->Prop)
  (H:(((!(bif (decide ((Z.size:Int)<1))then true else(decide ((Z.size:Int)>9))))&&(decide ((Z.size:Int)>1)))=true->(0<=(0:Int)/\(0:Int)<(Z.size:Int)))/\((bif (bif (decide ((Z.size:Int)<1))then true else(decide ((Z.size:Int)>9)))then true else(bif (decide ((Z.size:Int)>1))then((za Z (0:Int).toNat:Int)==48)else false))=true->R (0,false))/\((bif (bif (decide ((Z.size:Int)<1))then true else(decide ((Z.size:Int)>9)))then true else(bif (decide ((Z.size:Int)>1))then((za Z (0:Int).toNat:Int)==48)else false))=false->∃(a:Int->Int->Prop) (b:Int->Int->Nat),a 0 0/\∀c d:Int,a c d->((decide (d<Z.size)=true->(0<=d/\d<Z.size)/\((!(decide ((za Z d.toNat:Int)<48)))=true->(0<=d/\d<Z.size))/\((bif (decide ((za Z d.toNat:Int)<48))then true else(decide ((za Z d.toNat:Int)>57)))=true->R (0,false))/\((bif (decide ((za Z d.toNat:Int)<48))then true else(decide ((za Z d.toNat:Int)>57)))=false->(0<=d/\d<Z.size)/\(a (Aa .i64 ((Aa .i64 (10*c))+(Aa .i64 (Aa .u8 ((za Z d.toNat)-48))))) (Aa .i64 (d+1))/\b (Aa .i64 ((Aa .i64 (10*c))+(Aa .i64 (Aa .u8 ((za Z d.toNat)-48))))) (Aa .i64 (d+1))<b c d)))/\(decide (d<Z.size)=false->R (c,true))))):
  PC Tp gl 137 [Arg.mk .str Z] [.int .i64,.bool] R:=
 PF ⟨[],[],[(5,⟨[(4,.one (.dat (.int .i64))),(5,.one (.dat (.int .i64)))],[],[],[100256,100320]⟩)],[]⟩ [.tmp 2,.tmp 3] 49 Tryz.func137 H
theorem zao(gl:Fr)(Z:List Bt)(R:Bool->Prop)
  (H:∃(a:Int->Prop) (b:Int->Nat),a 0/\∀c:Int,a c->((decide (c<Z.length)=true->∃d,(0<=c/\Z[c.toNat]?=some d)/\PC Tp gl 136 [Arg.mk .str d] [.int .i64,.bool] (λe:Int×Bool=>((!e.2)=true->R false)/\((!e.2)=false->(a (Aa .i64 (c+1))/\b (Aa .i64 (c+1))<b c))))/\(decide (c<Z.length)=false->R (decide ((Z.length:Int)<=64))))):
  PC Tp gl 73 [Arg.mk (.row .str) Z] [.bool] R:=
 PF ⟨[],[],[(2,⟨[(3,.one (.dat (.int .i64)))],[],[],[100192]⟩)],[]⟩ [.tmp 2] 25 Tryz.func73 H
theorem zda(gl:Fr)(l0:List Tr)(R:Tr->Prop)
  (H:R (Tr.mk 5 (⟨#[]⟩:Bt) [] l0)):
  PC Tp gl 29 [Arg.mk (.row .tree) l0] [.tree] R:=
 PF ⟨[],[],[],[]⟩ [.cell 2 26] 5 Tryz.func29 H
theorem zl9(gl:Fr)(n0:Int)(R:Tr->Prop)
  (H:PC Tp gl 110 [Arg.mk (.int .i64) n0] [.pair .bool (.pair .str (.int .i64))] (λa:Bool×Bt×Int=>PC Tp gl 26 [Arg.mk (.pair .bool (.pair .str (.int .i64))) (a.1,(a.2.1,a.2.2))] [.str] (λb:Bt=>R (Tr.mk 3 b [] [])))):
  PC Tp gl 58 [Arg.mk (.int .i64) n0] [.tree] R:=
 PF ⟨[],[],[],[]⟩ [.cell 2 26] 7 Tryz.func58 H
theorem zef(gl:Fr)(s0:Bt)(R:Bool->Prop)
  (H:PC Tp gl 80 [Arg.mk .str s0] [.int .i64,.bool] (λa:Int×Bool=>R a.2)):
  PC Tp gl 134 [Arg.mk .str s0] [.bool] R:=
 PF ⟨[],[],[],[]⟩ [.tmp 2] 11 Tryz.func134 H
theorem zb5(gl:Fr)(v0:Tr)(Z:Bt)(R:Int->Prop)
  (H:∀a:Prop,((PC Tp gl 137 [Arg.mk .str Z] [.int .i64,.bool] (λb:Int×Bool=>((bif (bif (v0.kind==5)then b.2 else false)then(decide (b.1<v0.items.length))else false)=true->R b.1)/\((bif (bif (v0.kind==5)then b.2 else false)then(decide (b.1<v0.items.length))else false)=false->R (-1))))->a)->((v0.kind==6)=true->∃(c:Int->Prop) (d:Int->Nat),c 0/\∀e:Int,c e->((decide (e<v0.keys.length)=true->∃f,(0<=e/\v0.keys[e.toNat]?=some f)/\((f.toList==Z.toList)=true->R e)/\((f.toList==Z.toList)=false->(c (Aa .i64 (e+1))/\d (Aa .i64 (e+1))<d e)))/\(decide (e<v0.keys.length)=false->a)))/\((v0.kind==6)=false->a)):
  PC Tp gl 74 [Arg.mk .tree v0,Arg.mk .str Z] [.int .i64] R:=
 PF ⟨[],[],[(3,⟨[(5,.one (.dat (.int .i64)))],[],[],[100320]⟩)],[(7,⟨[],[],[2],[]⟩)]⟩ [.tmp 4] 45 Tryz.func74 H
theorem zap(gl:Fr)(s0:Bt)(R:(Int×Bool)->Prop)
  (H:∃(a:Int->Prop) (b:Int->Nat),a 0/\∀c:Int,a c->((decide (c<s0.size)=true->PC Tp gl 206 [Arg.mk .str s0,Arg.mk (.int .i64) c] [.bool] (λd:Bool=>((!d)=true->R (c,false))/\((!d)=false->PC Tp gl 207 [Arg.mk .str s0,Arg.mk (.int .i64) c] [.int .i32,.int .i64] (λe:Int×Int=>(a (Aa .i64 (c+e.2))/\b (Aa .i64 (c+e.2))<b c)))))/\(decide (c<s0.size)=false->R ((s0.size:Int),true)))):
  PC Tp gl 136 [Arg.mk .str s0] [.int .i64,.bool] R:=
 PF ⟨[],[],[(2,⟨[(4,.one (.dat (.int .i64)))],[],[],[100256]⟩)],[]⟩ [.tmp 2,.tmp 3] 29 Tryz.func136 H
theorem zgz(gl:Fr)(n0:Bool×Bt×Int)(R:Bt->Prop)
  (H:PC Tp gl 78 [Arg.mk (.pair .bool (.pair .str (.int .i64))) (n0.1,(n0.2.1,n0.2.2))] [.bool] (λa:Bool=>((!a)=true->R (⟨#[]⟩:Bt))/\((!a)=false->((n0.2.1.toList==(⟨#[]⟩:Bt).toList)=true->R (⟨#[48]⟩:Bt))/\((n0.2.1.toList==(⟨#[]⟩:Bt).toList)=false->∀b:Bt->Prop,(∀c:Bt,(((n0.2.2 != 0)=true->PC Tp gl 79 [Arg.mk (.int .i64) n0.2.2] [.str] (λd:Bt=>js (((⟨#[101]⟩:Bt)).size+d.size)/\js (c.size+((⟨#[101]⟩:Bt)++d).size)/\R (c++((⟨#[101]⟩:Bt)++d))))/\((n0.2.2 != 0)=false->R c))->b c)->(n0.1=true->js (((⟨#[45]⟩:Bt)).size+n0.2.1.size)/\b ((⟨#[45]⟩:Bt)++n0.2.1))/\(n0.1=false->b n0.2.1))))):
  PC Tp gl 26 [Arg.mk (.pair .bool (.pair .str (.int .i64))) n0] [.str] R:=
 PF ⟨[],[],[],[(8,⟨[(3,.one (.dat .str))],[],[1],[100192]⟩)]⟩ [.tmp 2] 26 Tryz.func26 H
theorem zma(gl:Fr)(n0:Int)(R:(Bool×Bt×Int)->Prop)
  (H:PC Tp gl 79 [Arg.mk (.int .i64) n0] [.str] (λa:Bt=>PC Tp gl 25 [Arg.mk .str a] [.pair .bool (.pair .str (.int .i64)),.int .i64] (λb:(Bool×Bt×Int)×Int=>R (b.1.1,(b.1.2.1,b.1.2.2))))):
  PC Tp gl 110 [Arg.mk (.int .i64) n0] [.pair .bool (.pair .str (.int .i64))] R:=
 PF ⟨[],[],[],[]⟩ [.cell 2 46] 12 Tryz.func110 H
theorem zg0(gl:Fr)(s0:Bt)(R:(Int×Bool)->Prop)
  (H:PC Tp gl 150 [Arg.mk .str s0] [.bool] (λa:Bool=>(a=true->R ((s0.size:Int),true))/\(a=false->∃(b:(Bt×Nat)->Prop) (c:(Bt×Nat)->Nat),b (s0,0)/\∀Z:Bt×Nat,b Z->(((nxB Z.1 Z.2)=true->(nxB Z.1 Z.2)=true/\(nxB Z.1 Z.2)=true/\(((nxR Z.1 Z.2:Int) != 65533)=true->(b (Z.1,nxP Z.1 Z.2)/\c (Z.1,nxP Z.1 Z.2)<c Z))/\(((nxR Z.1 Z.2:Int) != 65533)=false->(0<=(Z.2:Int)/\(Z.2:Int)<=(s0.size:Int)/\(s0.size:Int)<=(s0.size:Int))/\PC Tp gl 151 [Arg.mk .str (s0.extract (Z.2:Int).toNat (s0.size:Int).toNat)] [.int .i32,.int .i64] (λd:Int×Int=>((d.2==1)=true->R ((Z.2:Int),false))/\((d.2==1)=false->(b (Z.1,nxP Z.1 Z.2)/\c (Z.1,nxP Z.1 Z.2)<c Z)))))/\((nxB Z.1 Z.2)=false->R ((s0.size:Int),true)))))):
  PC Tp gl 80 [Arg.mk .str s0] [.int .i64,.bool] R:=
 PF ⟨[],[],[(4,⟨[],[(13,[.dat .iter])],[],[1000832]⟩)],[]⟩ [.tmp 2,.tmp 3] 32 Tryz.func80 H
theorem zb6(gl:Fr)(s0:Bt)(Z:Int)(R:Bool->Prop)
  (H:PC Tp gl 207 [Arg.mk .str s0,Arg.mk (.int .i64) Z] [.int .i32,.int .i64] (λa:Int×Int=>R (bif (decide (a.2>0))then(!(bif (a.1==65533)then(a.2==1)else false))else false))):
  PC Tp gl 206 [Arg.mk .str s0,Arg.mk (.int .i64) Z] [.bool] R:=
 PF ⟨[],[],[],[]⟩ [.tmp 4] 24 Tryz.func206 H
theorem zb7(gl:Fr)(s0:Bt)(Z:Int)(R:(Int×Int)->Prop)
  (H:((bif (decide (Z<0))then true else(decide (Z>=s0.size)))=true->R (0,0))/\((bif (decide (Z<0))then true else(decide (Z>=s0.size)))=false->(0<=Z/\Z<s0.size)/\PC Tp gl 264 [Arg.mk (.int .i64) (Aa .i64 (za s0 Z.toNat))] [.int .i64] (λa:Int=>((bif (a==0)then true else(decide (a>(Aa .i64 ((s0.size:Int)-Z)))))=true->R (65533,1))/\((bif (a==0)then true else(decide (a>(Aa .i64 ((s0.size:Int)-Z)))))=false->(0<=Z/\Z<s0.size)/\∀b:Int->Prop,(∀c:Int,(∀d:Int->Prop,(∀e:Int,(∀f:Int->Prop,(∀g:Int,(∃(i:Int->Int->Prop) (j:Int->Int->Nat),i g 1/\∀k l:Int,i k l->((decide (l<a)=true->(0<=(Aa .i64 (Z+l))/\(Aa .i64 (Z+l))<(s0.size:Int))/\((bif (decide ((Aa .i64 (za s0 (Aa .i64 (Z+l):Int).toNat))<128))then true else(decide ((Aa .i64 (za s0 (Aa .i64 (Z+l):Int).toNat))>191)))=true->R (65533,1))/\((bif (decide ((Aa .i64 (za s0 (Aa .i64 (Z+l):Int).toNat))<128))then true else(decide ((Aa .i64 (za s0 (Aa .i64 (Z+l):Int).toNat))>191)))=false->(i (Aa .i64 ((Aa .i64 ((Aa .i64 (64*k))+(Aa .i64 (za s0 (Aa .i64 (Z+l)).toNat))))-128)) (Aa .i64 (l+1))/\j (Aa .i64 ((Aa .i64 ((Aa .i64 (64*k))+(Aa .i64 (za s0 (Aa .i64 (Z+l)).toNat))))-128)) (Aa .i64 (l+1))<j k l)))/\(decide (l<a)=false->((bif (bif (bif (bif (a==3)then(decide (k<2048))else false)then true else(bif (a==4)then(decide (k<65536))else false))then true else(decide (k>1114111)))then true else(bif (decide (k>=55296))then(decide (k<57344))else false))=true->R (65533,1))/\((bif (bif (bif (bif (a==3)then(decide (k<2048))else false)then true else(bif (a==4)then(decide (k<65536))else false))then true else(decide (k>1114111)))then true else(bif (decide (k>=55296))then(decide (k<57344))else false))=false->R (Aa .i32 k,a)))))->f g)->((a==4)=true->f (Aa .i64 (e-240)))/\((a==4)=false->f e))->d e)->((a==3)=true->d (Aa .i64 (c-224)))/\((a==3)=false->d c))->b c)->((a==2)=true->b (Aa .i64 ((Aa .i64 (za s0 Z.toNat))-192)))/\((a==2)=false->b (Aa .i64 (za s0 Z.toNat))))))):
  PC Tp gl 207 [Arg.mk .str s0,Arg.mk (.int .i64) Z] [.int .i32,.int .i64] R:=
 PF ⟨[],[],[(14,⟨[(7,.one (.dat (.int .i64))),(8,.one (.dat (.int .i64)))],[],[],[100448,100512]⟩)],[(9,⟨[(7,.one (.dat (.int .i64)))],[],[],[100448]⟩),(11,⟨[(7,.one (.dat (.int .i64)))],[],[],[100448]⟩),(13,⟨[(7,.one (.dat (.int .i64)))],[],[],[100448]⟩)]⟩ [.tmp 4,.tmp 5] 100 Tryz.func207 H
theorem zf7(gl:Fr)(n0:Bool×Bt×Int)(R:Bool->Prop)
  (H:(((n0.1==false)&&((n0.2.1.toList==(⟨#[]⟩:Bt).toList)&&((n0.2.2==0)&&true)))=true->R true)/\(((n0.1==false)&&((n0.2.1.toList==(⟨#[]⟩:Bt).toList)&&((n0.2.2==0)&&true)))=false->PC Tp gl 141 [Arg.mk .str n0.2.1] [.bool] (λa:Bool=>((!a)=true->((!a)=true->R false)/\((!a)=false->R (bif (decide (n0.2.2>=(-1000000)))then(decide (n0.2.2<=1000000))else false)))/\((!a)=false->(decide ((n0.2.1.size:Int)>1000)=true->(decide ((n0.2.1.size:Int)>1000)=true->R false)/\(decide ((n0.2.1.size:Int)>1000)=false->R (bif (decide (n0.2.2>=(-1000000)))then(decide (n0.2.2<=1000000))else false)))/\(decide ((n0.2.1.size:Int)>1000)=false->(0<=(0:Int)/\(0:Int)<(n0.2.1.size:Int))/\(((za n0.2.1 (0:Int).toNat:Int)==48)=true->(((za n0.2.1 (0:Int).toNat:Int)==48)=true->R false)/\(((za n0.2.1 (0:Int).toNat:Int)==48)=false->R (bif (decide (n0.2.2>=(-1000000)))then(decide (n0.2.2<=1000000))else false)))/\(((za n0.2.1 (0:Int).toNat:Int)==48)=false->(0<=(Aa .i64 ((n0.2.1.size:Int)-1))/\(Aa .i64 ((n0.2.1.size:Int)-1))<(n0.2.1.size:Int))/\(((za n0.2.1 (Aa .i64 ((n0.2.1.size:Int)-1)).toNat:Int)==48)=true->R false)/\(((za n0.2.1 (Aa .i64 ((n0.2.1.size:Int)-1)).toNat:Int)==48)=false->R (bif (decide (n0.2.2>=(-1000000)))then(decide (n0.2.2<=1000000))else false)))))))):
  PC Tp gl 78 [Arg.mk (.pair .bool (.pair .str (.int .i64))) n0] [.bool] R:=
 PF ⟨[],[],[],[]⟩ [.tmp 2] 34 Tryz.func78 H
theorem zf8(gl:Fr)(s0:Bt)(R:((Bool×Bt×Int)×Int)->Prop)
  (H:PC Tp gl 75 [Arg.mk .str s0] [.pair .bool (.pair .bool (.pair .str (.pair .str .str))),.bool] (λa:(Bool×Bool×Bt×Bt×Bt)×Bool=>PC Tp gl 76 [Arg.mk .str a.1.2.2.2.2,Arg.mk .str (⟨#[48]⟩:Bt)] [.str] (λb:Bt=>((!a.2)=true->R ((false,((⟨#[]⟩:Bt),0)),2))/\((!a.2)=false->((decide ((Aa .i64 ((a.1.2.2.1.size:Int)+(a.1.2.2.2.1.size:Int)))>1000))=true->R ((false,((⟨#[]⟩:Bt),0)),3))/\((decide ((Aa .i64 ((a.1.2.2.1.size:Int)+(a.1.2.2.2.1.size:Int)))>1000))=false->(decide ((b.size:Int)>9)=true->R ((false,((⟨#[]⟩:Bt),0)),4))/\(decide ((b.size:Int)>9)=false->∃(c:Int->Bool->Bt->Int->(Bt×Nat)->Prop) (d:Int->Bool->Bt->Int->(Bt×Nat)->Nat),c 0 false (⟨#[]⟩:Bt) 0 (b,0)/\∀e:Int,∀aa:Bool,∀ae:Bt,∀ab:Int,∀Z:Bt×Nat,c e aa ae ab Z->(((nxB Z.1 Z.2)=true->(nxB Z.1 Z.2)=true/\(c (Aa .i64 ((Aa .i64 (10*e))+(Aa .i64 (Aa .i32 ((nxR Z.1 Z.2)-48))))) aa ae ab (Z.1,nxP Z.1 Z.2)/\d (Aa .i64 ((Aa .i64 (10*e))+(Aa .i64 (Aa .i32 ((nxR Z.1 Z.2)-48))))) aa ae ab (Z.1,nxP Z.1 Z.2)<d e aa ae ab Z))/\((nxB Z.1 Z.2)=false->∀f:Int->Bool->Bt->Int->Prop,(∀g:Int,∀ah:Bool,∀ai:Bt,∀af:Int,(js (a.1.2.2.1.size+a.1.2.2.2.1.size)/\PC Tp gl 76 [Arg.mk .str (a.1.2.2.1++a.1.2.2.2.1),Arg.mk .str (⟨#[48]⟩:Bt)] [.str] (λi:Bt=>((i.toList==(⟨#[]⟩:Bt).toList)=true->R ((false,((⟨#[]⟩:Bt),0)),0))/\((i.toList==(⟨#[]⟩:Bt).toList)=false->PC Tp gl 77 [Arg.mk .str i,Arg.mk .str (⟨#[48]⟩:Bt)] [.str] (λj:Bt=>PC Tp gl 78 [Arg.mk (.pair .bool (.pair .str (.int .i64))) (a.1.1,(j,Aa .i64 ((Aa .i64 ((Aa .i64 (g-(a.1.2.2.2.1.size:Int)))+(i.size:Int)))-(j.size:Int))))] [.bool] (λk:Bool=>((!k)=true->R ((false,((⟨#[]⟩:Bt),0)),4))/\((!k)=false->R ((a.1.1,(j,Aa .i64 ((Aa .i64 ((Aa .i64 (g-(a.1.2.2.2.1.size:Int)))+(i.size:Int)))-(j.size:Int)))),0)))))))->f g ah ai af)->(a.1.2.1=true->f (Aa .i64 (0-e)) aa ae ab)/\(a.1.2.1=false->f e aa ae ab))))))))):
  PC Tp gl 25 [Arg.mk .str s0] [.pair .bool (.pair .str (.int .i64)),.int .i64] R:=
 PF ⟨[],[],[(11,⟨[(7,.one (.dat (.int .i64)))],[(2,[.dat .bool,.dat .str,.dat (.int .i64)]),(41,[.dat .iter])],[4],[100448,1000128,1000129,1000130,1002624]⟩)],[(16,⟨[(7,.one (.dat (.int .i64)))],[(2,[.dat .bool,.dat .str,.dat (.int .i64)])],[4],[100448,1000128,1000129,1000130]⟩)]⟩ [.cell 2 46,.tmp 3] 86 Tryz.func25 H
theorem Z8(gl:Fr)(s0:Bt)(R:Bool->Prop)
  (H:∃(a:Bt->Prop) (b:Bt->Nat),a s0/\∀c:Bt,a c->((decide ((c.size:Int)>0)=true->(0<=(0:Int)/\(0:Int)<(c.size:Int))/\(decide ((za c (0:Int).toNat:Int)<128)=true->(0<=(1:Int)/\(1:Int)<=(c.size:Int)/\(c.size:Int)<=(c.size:Int))/\∃d:Int->Prop,((decide ((((c.extract (1:Int).toNat (c.size:Int).toNat).size:Int):Int)>8))=true->PC Tp gl 217 [Arg.mk .str (c.extract (1:Int).toNat (c.size:Int).toNat)] [.int .u64] d)/\∀e:Int,((decide ((((c.extract (1:Int).toNat (c.size:Int).toNat).size:Int):Int)>8))=true->d e)->((bif (decide ((((c.extract (1:Int).toNat (c.size:Int).toNat).size:Int):Int)>8))then((Aa .u64 (((Ap (An .u64) e) &&& (Ap (An .u64) 9259542123273814144)).toNat:Int):Int)==0)else false)=true->(0<=(8:Int)/\(8:Int)<=((c.extract (1:Int).toNat (c.size:Int).toNat).size:Int)/\(((c.extract (1:Int).toNat (c.size:Int).toNat).size:Int):Int)<=((c.extract (1:Int).toNat (c.size:Int).toNat).size:Int))/\((decide (((((c.extract (1:Int).toNat (c.size:Int).toNat).extract (8:Int).toNat (((c.extract (1:Int).toNat (c.size:Int).toNat).size:Int):Int).toNat).size:Int):Int)>16))=true->(0<=(8:Int)/\(8:Int)<=(((c.extract (1:Int).toNat (c.size:Int).toNat).extract (8:Int).toNat (((c.extract (1:Int).toNat (c.size:Int).toNat).size:Int):Int).toNat).size:Int)/\((((c.extract (1:Int).toNat (c.size:Int).toNat).extract (8:Int).toNat (((c.extract (1:Int).toNat (c.size:Int).toNat).size:Int):Int).toNat).size:Int):Int)<=(((c.extract (1:Int).toNat (c.size:Int).toNat).extract (8:Int).toNat (((c.extract (1:Int).toNat (c.size:Int).toNat).size:Int):Int).toNat).size:Int)))/\∃f:Int->Prop,((decide (((((c.extract (1:Int).toNat (c.size:Int).toNat).extract (8:Int).toNat (((c.extract (1:Int).toNat (c.size:Int).toNat).size:Int):Int).toNat).size:Int):Int)>16))=true->PC Tp gl 217 [Arg.mk .str ((c.extract (1:Int).toNat (c.size:Int).toNat).extract (8:Int).toNat (((c.extract (1:Int).toNat (c.size:Int).toNat).size:Int):Int).toNat)] [.int .u64] f)/\∀g:Int,((decide (((((c.extract (1:Int).toNat (c.size:Int).toNat).extract (8:Int).toNat (((c.extract (1:Int).toNat (c.size:Int).toNat).size:Int):Int).toNat).size:Int):Int)>16))=true->f g)->∃i:Int->Prop,((decide (((((c.extract (1:Int).toNat (c.size:Int).toNat).extract (8:Int).toNat (((c.extract (1:Int).toNat (c.size:Int).toNat).size:Int):Int).toNat).size:Int):Int)>16))=true->PC Tp gl 217 [Arg.mk .str (((c.extract (1:Int).toNat (c.size:Int).toNat).extract (8:Int).toNat (((c.extract (1:Int).toNat (c.size:Int).toNat).size:Int):Int).toNat).extract (8:Int).toNat ((((c.extract (1:Int).toNat (c.size:Int).toNat).extract (8:Int).toNat (((c.extract (1:Int).toNat (c.size:Int).toNat).size:Int):Int).toNat).size:Int):Int).toNat)] [.int .u64] i)/\∀j:Int,((decide (((((c.extract (1:Int).toNat (c.size:Int).toNat).extract (8:Int).toNat (((c.extract (1:Int).toNat (c.size:Int).toNat).size:Int):Int).toNat).size:Int):Int)>16))=true->i j)->((bif (decide (((((c.extract (1:Int).toNat (c.size:Int).toNat).extract (8:Int).toNat (((c.extract (1:Int).toNat (c.size:Int).toNat).size:Int):Int).toNat).size:Int):Int)>16))then((Aa .u64 (((Ap (An .u64) (Aa .u64 (((Ap (An .u64) g) ||| (Ap (An .u64) j)).toNat:Int))) &&& (Ap (An .u64) 9259542123273814144)).toNat:Int):Int)==0)else false)=true->(0<=(16:Int)/\(16:Int)<=(((c.extract (1:Int).toNat (c.size:Int).toNat).extract (8:Int).toNat (((c.extract (1:Int).toNat (c.size:Int).toNat).size:Int):Int).toNat).size:Int)/\((((c.extract (1:Int).toNat (c.size:Int).toNat).extract (8:Int).toNat (((c.extract (1:Int).toNat (c.size:Int).toNat).size:Int):Int).toNat).size:Int):Int)<=(((c.extract (1:Int).toNat (c.size:Int).toNat).extract (8:Int).toNat (((c.extract (1:Int).toNat (c.size:Int).toNat).size:Int):Int).toNat).size:Int))/\∃(k:Bt->Prop) (l:Bt->Nat),k (((c.extract (1:Int).toNat (c.size:Int).toNat).extract (8:Int).toNat (((c.extract (1:Int).toNat (c.size:Int).toNat).size:Int):Int).toNat).extract (16:Int).toNat ((((c.extract (1:Int).toNat (c.size:Int).toNat).extract (8:Int).toNat (((c.extract (1:Int).toNat (c.size:Int).toNat).size:Int):Int).toNat).size:Int):Int).toNat)/\∀m:Bt,k m->((decide ((m.size:Int)>32)=true->(0<=(8:Int)/\(8:Int)<=(m.size:Int)/\(m.size:Int)<=(m.size:Int)))/\(decide ((m.size:Int)>32)=true->(0<=(16:Int)/\(16:Int)<=(m.size:Int)/\(m.size:Int)<=(m.size:Int)))/\(decide ((m.size:Int)>32)=true->(0<=(24:Int)/\(24:Int)<=(m.size:Int)/\(m.size:Int)<=(m.size:Int)))/\∃n:Int->Prop,(decide ((m.size:Int)>32)=true->PC Tp gl 217 [Arg.mk .str m] [.int .u64] n)/\∀o:Int,(decide ((m.size:Int)>32)=true->n o)->∃p:Int->Prop,(decide ((m.size:Int)>32)=true->PC Tp gl 217 [Arg.mk .str (m.extract (8:Int).toNat (m.size:Int).toNat)] [.int .u64] p)/\∀q:Int,(decide ((m.size:Int)>32)=true->p q)->∃r:Int->Prop,(decide ((m.size:Int)>32)=true->PC Tp gl 217 [Arg.mk .str (m.extract (16:Int).toNat (m.size:Int).toNat)] [.int .u64] r)/\∀s:Int,(decide ((m.size:Int)>32)=true->r s)->∃t:Int->Prop,(decide ((m.size:Int)>32)=true->PC Tp gl 217 [Arg.mk .str (m.extract (24:Int).toNat (m.size:Int).toNat)] [.int .u64] t)/\∀u:Int,(decide ((m.size:Int)>32)=true->t u)->((bif (decide ((m.size:Int)>32))then((Aa .u64 (((Ap (An .u64) (Aa .u64 (((Ap (An .u64) (Aa .u64 (((Ap (An .u64) o) ||| (Ap (An .u64) q)).toNat:Int))) ||| (Ap (An .u64) (Aa .u64 (((Ap (An .u64) s) ||| (Ap (An .u64) u)).toNat:Int)))).toNat:Int))) &&& (Ap (An .u64) 9259542123273814144)).toNat:Int):Int)==0)else false)=true->(0<=(32:Int)/\(32:Int)<=(m.size:Int)/\(m.size:Int)<=(m.size:Int))/\(k (m.extract (32:Int).toNat (m.size:Int).toNat)/\l (m.extract (32:Int).toNat (m.size:Int).toNat)<l m))/\((bif (decide ((m.size:Int)>32))then((Aa .u64 (((Ap (An .u64) (Aa .u64 (((Ap (An .u64) (Aa .u64 (((Ap (An .u64) o) ||| (Ap (An .u64) q)).toNat:Int))) ||| (Ap (An .u64) (Aa .u64 (((Ap (An .u64) s) ||| (Ap (An .u64) u)).toNat:Int)))).toNat:Int))) &&& (Ap (An .u64) 9259542123273814144)).toNat:Int):Int)==0)else false)=false->(a m/\b m<b c))))/\((bif (decide (((((c.extract (1:Int).toNat (c.size:Int).toNat).extract (8:Int).toNat (((c.extract (1:Int).toNat (c.size:Int).toNat).size:Int):Int).toNat).size:Int):Int)>16))then((Aa .u64 (((Ap (An .u64) (Aa .u64 (((Ap (An .u64) g) ||| (Ap (An .u64) j)).toNat:Int))) &&& (Ap (An .u64) 9259542123273814144)).toNat:Int):Int)==0)else false)=false->(a ((c.extract (1:Int).toNat (c.size:Int).toNat).extract (8:Int).toNat (((c.extract (1:Int).toNat (c.size:Int).toNat).size:Int):Int).toNat)/\b ((c.extract (1:Int).toNat (c.size:Int).toNat).extract (8:Int).toNat (((c.extract (1:Int).toNat (c.size:Int).toNat).size:Int):Int).toNat)<b c)))/\((bif (decide ((((c.extract (1:Int).toNat (c.size:Int).toNat).size:Int):Int)>8))then((Aa .u64 (((Ap (An .u64) e) &&& (Ap (An .u64) 9259542123273814144)).toNat:Int):Int)==0)else false)=false->(a (c.extract (1:Int).toNat (c.size:Int).toNat)/\b (c.extract (1:Int).toNat (c.size:Int).toNat)<b c)))/\(decide ((za c (0:Int).toNat:Int)<128)=false->(0<=(za c (0:Int).toNat:Int)/\(za c (0:Int).toNat:Int)<((256:Nat):Int))/\∃v,zfs gl 0 (0+(za c (0:Int).toNat:Int).toNat*1) (.int .u8 v)/\(0<=(v.fdiv (2 ^ 4):Int)/\(v.fdiv (2 ^ 4):Int)<((16:Nat):Int))/\∃w,zfs gl 1 (0+(v.fdiv (2 ^ 4):Int).toNat*2) (.int .u8 w)/\∃x,zfs gl 1 (0+(v.fdiv (2 ^ 4):Int).toNat*2+1) (.int .u8 x)/\(((Aa .i64 (Aa .u8 (((Ap (An .u8) v) &&& (Ap (An .u8) 7)).toNat:Int)):Int)==2)=true->((!(decide ((c.size:Int)<2)))=true->(0<=(1:Int)/\(1:Int)<(c.size:Int)))/\((!(bif (decide ((c.size:Int)<2))then true else(decide ((za c (1:Int).toNat:Int)<w))))=true->(0<=(1:Int)/\(1:Int)<(c.size:Int)))/\((bif (bif (decide ((c.size:Int)<2))then true else(decide ((za c (1:Int).toNat:Int)<w)))then true else(decide (x<(za c (1:Int).toNat))))=true->R false)/\((bif (bif (decide ((c.size:Int)<2))then true else(decide ((za c (1:Int).toNat:Int)<w)))then true else(decide (x<(za c (1:Int).toNat))))=false->(0<=(2:Int)/\(2:Int)<=(c.size:Int)/\(c.size:Int)<=(c.size:Int))/\(a (c.extract (2:Int).toNat (c.size:Int).toNat)/\b (c.extract (2:Int).toNat (c.size:Int).toNat)<b c)))/\(((Aa .i64 (Aa .u8 (((Ap (An .u8) v) &&& (Ap (An .u8) 7)).toNat:Int)):Int)==2)=false->(((Aa .i64 (Aa .u8 (((Ap (An .u8) v) &&& (Ap (An .u8) 7)).toNat:Int)):Int)==3)=true->((!(decide ((c.size:Int)<3)))=true->(0<=(1:Int)/\(1:Int)<(c.size:Int)))/\((!(bif (decide ((c.size:Int)<3))then true else(decide ((za c (1:Int).toNat:Int)<w))))=true->(0<=(1:Int)/\(1:Int)<(c.size:Int)))/\((!(bif (bif (decide ((c.size:Int)<3))then true else(decide ((za c (1:Int).toNat:Int)<w)))then true else(decide (x<(za c (1:Int).toNat)))))=true->(0<=(2:Int)/\(2:Int)<(c.size:Int)))/\((!(bif (bif (bif (decide ((c.size:Int)<3))then true else(decide ((za c (1:Int).toNat:Int)<w)))then true else(decide (x<(za c (1:Int).toNat))))then true else(decide ((za c (2:Int).toNat:Int)<128))))=true->(0<=(2:Int)/\(2:Int)<(c.size:Int)))/\((bif (bif (bif (bif (decide ((c.size:Int)<3))then true else(decide ((za c (1:Int).toNat:Int)<w)))then true else(decide (x<(za c (1:Int).toNat))))then true else(decide ((za c (2:Int).toNat:Int)<128)))then true else(decide ((191:Int)<(za c (2:Int).toNat))))=true->R false)/\((bif (bif (bif (bif (decide ((c.size:Int)<3))then true else(decide ((za c (1:Int).toNat:Int)<w)))then true else(decide (x<(za c (1:Int).toNat))))then true else(decide ((za c (2:Int).toNat:Int)<128)))then true else(decide ((191:Int)<(za c (2:Int).toNat))))=false->(0<=(3:Int)/\(3:Int)<=(c.size:Int)/\(c.size:Int)<=(c.size:Int))/\(a (c.extract (3:Int).toNat (c.size:Int).toNat)/\b (c.extract (3:Int).toNat (c.size:Int).toNat)<b c)))/\(((Aa .i64 (Aa .u8 (((Ap (An .u8) v) &&& (Ap (An .u8) 7)).toNat:Int)):Int)==3)=false->(((Aa .i64 (Aa .u8 (((Ap (An .u8) v) &&& (Ap (An .u8) 7)).toNat:Int)):Int)==4)=true->((!(decide ((c.size:Int)<4)))=true->(0<=(1:Int)/\(1:Int)<(c.size:Int)))/\((!(bif (decide ((c.size:Int)<4))then true else(decide ((za c (1:Int).toNat:Int)<w))))=true->(0<=(1:Int)/\(1:Int)<(c.size:Int)))/\((!(bif (bif (decide ((c.size:Int)<4))then true else(decide ((za c (1:Int).toNat:Int)<w)))then true else(decide (x<(za c (1:Int).toNat)))))=true->(0<=(2:Int)/\(2:Int)<(c.size:Int)))/\((!(bif (bif (bif (decide ((c.size:Int)<4))then true else(decide ((za c (1:Int).toNat:Int)<w)))then true else(decide (x<(za c (1:Int).toNat))))then true else(decide ((za c (2:Int).toNat:Int)<128))))=true->(0<=(2:Int)/\(2:Int)<(c.size:Int)))/\((!(bif (bif (bif (bif (decide ((c.size:Int)<4))then true else(decide ((za c (1:Int).toNat:Int)<w)))then true else(decide (x<(za c (1:Int).toNat))))then true else(decide ((za c (2:Int).toNat:Int)<128)))then true else(decide ((191:Int)<(za c (2:Int).toNat)))))=true->(0<=(3:Int)/\(3:Int)<(c.size:Int)))/\((!(bif (bif (bif (bif (bif (decide ((c.size:Int)<4))then true else(decide ((za c (1:Int).toNat:Int)<w)))then true else(decide (x<(za c (1:Int).toNat))))then true else(decide ((za c (2:Int).toNat:Int)<128)))then true else(decide ((191:Int)<(za c (2:Int).toNat))))then true else(decide ((za c (3:Int).toNat:Int)<128))))=true->(0<=(3:Int)/\(3:Int)<(c.size:Int)))/\((bif (bif (bif (bif (bif (bif (decide ((c.size:Int)<4))then true else(decide ((za c (1:Int).toNat:Int)<w)))then true else(decide (x<(za c (1:Int).toNat))))then true else(decide ((za c (2:Int).toNat:Int)<128)))then true else(decide ((191:Int)<(za c (2:Int).toNat))))then true else(decide ((za c (3:Int).toNat:Int)<128)))then true else(decide ((191:Int)<(za c (3:Int).toNat))))=true->R false)/\((bif (bif (bif (bif (bif (bif (decide ((c.size:Int)<4))then true else(decide ((za c (1:Int).toNat:Int)<w)))then true else(decide (x<(za c (1:Int).toNat))))then true else(decide ((za c (2:Int).toNat:Int)<128)))then true else(decide ((191:Int)<(za c (2:Int).toNat))))then true else(decide ((za c (3:Int).toNat:Int)<128)))then true else(decide ((191:Int)<(za c (3:Int).toNat))))=false->(0<=(4:Int)/\(4:Int)<=(c.size:Int)/\(c.size:Int)<=(c.size:Int))/\(a (c.extract (4:Int).toNat (c.size:Int).toNat)/\b (c.extract (4:Int).toNat (c.size:Int).toNat)<b c)))/\(((Aa .i64 (Aa .u8 (((Ap (An .u8) v) &&& (Ap (An .u8) 7)).toNat:Int)):Int)==4)=false->R false)))))/\(decide ((c.size:Int)>0)=false->R true))):
  PC Tp gl 150 [Arg.mk .str s0] [.bool] R:=
 PF ⟨[],[(7,8,[],[0,1,2,3,4,6,7,5],[]),(9,15,[],[0,1,2,3,4,6,7,10,11,13,14,5,8,9,12],[9])],[(1,⟨[(0,.one (.dat .str))],[],[],[100000]⟩),(9,⟨[(0,.one (.dat .str))],[],[],[100000]⟩)],[]⟩ [.tmp 2] 169 Tryz.func150 H
theorem zb8(gl:Fr)(c0:Int)(R:Int->Prop)
  (H:(decide (c0<128)=true->R 1)/\(decide (c0<128)=false->((bif (decide (c0>=194))then(decide (c0<=223))else false)=true->R 2)/\((bif (decide (c0>=194))then(decide (c0<=223))else false)=false->((bif (decide (c0>=224))then(decide (c0<=239))else false)=true->R 3)/\((bif (decide (c0>=224))then(decide (c0<=239))else false)=false->((bif (decide (c0>=240))then(decide (c0<=244))else false)=true->R 4)/\((bif (decide (c0>=240))then(decide (c0<=244))else false)=false->R 0))))):
  PC Tp gl 264 [Arg.mk (.int .i64) c0] [.int .i64] R:=
 PF ⟨[],[],[],[]⟩ [.tmp 2] 23 Tryz.func264 H
theorem zeg(gl:Fr)(s0:Bt)(R:Bool->Prop)
  (H:∃(a:(Bt×Nat)->Prop) (b:(Bt×Nat)->Nat),a (s0,0)/\∀Z:Bt×Nat,a Z->(((nxB Z.1 Z.2)=true->(nxB Z.1 Z.2)=true/\((bif (decide ((nxR Z.1 Z.2:Int)<48))then true else(decide ((nxR Z.1 Z.2:Int)>57)))=true->R false)/\((bif (decide ((nxR Z.1 Z.2:Int)<48))then true else(decide ((nxR Z.1 Z.2:Int)>57)))=false->(a (Z.1,nxP Z.1 Z.2)/\b (Z.1,nxP Z.1 Z.2)<b Z)))/\((nxB Z.1 Z.2)=false->R (!(s0.toList==(⟨#[]⟩:Bt).toList))))):
  PC Tp gl 141 [Arg.mk .str s0] [.bool] R:=
 PF ⟨[],[],[(2,⟨[],[(6,[.dat .iter])],[],[1000384]⟩)],[]⟩ [.tmp 2] 18 Tryz.func141 H
theorem zg1(gl:Fr)(s0:Bt)(R:((Bool×Bool×Bt×Bt×Bt)×Bool)->Prop)
  (H:PC Tp gl 138 [Arg.mk .str s0,Arg.mk .str (⟨#[45]⟩:Bt)] [.str,.bool] (λa:Bt×Bool=>PC Tp gl 139 [Arg.mk .str a.1,Arg.mk .str (⟨#[101,69]⟩:Bt)] [.str,.str,.bool] (λb:Bt×Bt×Bool=>∀c:Bt->Bool->Bool->Bt->Bt->Bt->Prop,(∀d:Bt,∀ai ah:Bool,∀aj ak am:Bt,(PC Tp gl 139 [Arg.mk .str b.1,Arg.mk .str (⟨#[46]⟩:Bt)] [.str,.str,.bool] (λe:Bt×Bt×Bool=>PC Tp gl 141 [Arg.mk .str e.1] [.bool] (λf:Bool=>∃g:Bool->Prop,(((!(!f))&&e.2.2)=true->PC Tp gl 141 [Arg.mk .str e.2.1] [.bool] g)/\∀i:Bool,(((!(!f))&&e.2.2)=true->g i)->((bif (!f)then true else(bif e.2.2 then(!i)else false))=true->R ((ai,(ah,(e.1,(e.2.1,d)))),false))/\((bif (!f)then true else(bif e.2.2 then(!i)else false))=false->((!(e.1.toList==(⟨#[48]⟩:Bt).toList))=true->(0<=(0:Int)/\(0:Int)<(e.1.size:Int)))/\R ((ai,(ah,(e.1,(e.2.1,d)))),bif (e.1.toList==(⟨#[48]⟩:Bt).toList)then true else((za e.1 (0:Int).toNat:Int) != 48))))))->c d ai ah aj ak am)->(b.2.2=true->PC Tp gl 138 [Arg.mk .str b.2.1,Arg.mk .str (⟨#[45]⟩:Bt)] [.str,.bool] (λj:Bt×Bool=>∀k:Bt->Bool->Bool->Bt->Bt->Bt->Prop,(∀l:Bt,∀af Z:Bool,∀ae aa ab:Bt,(PC Tp gl 141 [Arg.mk .str l] [.bool] (λm:Bool=>((!m)=true->R ((af,(Z,(ae,(aa,ab)))),false))/\((!m)=false->c l af Z ae aa ab)))->k l af Z ae aa ab)->((!j.2)=true->PC Tp gl 140 [Arg.mk .str j.1,Arg.mk .str (⟨#[43]⟩:Bt)] [.str] (λn:Bt=>k n a.2 j.2 (⟨#[]⟩:Bt) (⟨#[]⟩:Bt) (⟨#[]⟩:Bt)))/\((!j.2)=false->k j.1 a.2 j.2 (⟨#[]⟩:Bt) (⟨#[]⟩:Bt) (⟨#[]⟩:Bt))))/\(b.2.2=false->c b.2.1 a.2 false (⟨#[]⟩:Bt) (⟨#[]⟩:Bt) (⟨#[]⟩:Bt))))):
  PC Tp gl 75 [Arg.mk .str s0] [.pair .bool (.pair .bool (.pair .str (.pair .str .str))),.bool] R:=
 PF ⟨[],[(14,8,[],[0,1,2,3,4,5,6,7],[4,5,6,7])],[],[(9,⟨[(4,.one (.dat .str))],[(2,[.dat .bool,.dat .bool,.dat .str,.dat .str,.dat .str])],[],[100256,1000128,1000129,1000130,1000131,1000132]⟩),(7,⟨[(4,.one (.dat .str))],[(2,[.dat .bool,.dat .bool,.dat .str,.dat .str,.dat .str])],[],[100256,1000128,1000129,1000130,1000131,1000132]⟩)]⟩ [.cell 2 102,.tmp 3] 69 Tryz.func75 H
theorem Z9(gl:Fr)(s0:Bt)(R:Int->Prop)
  (H:(false=true->(0<=(0:Int)/\(0:Int)<(s0.size:Int))/\(0<=(1:Int)/\(1:Int)<(s0.size:Int))/\(0<=(2:Int)/\(2:Int)<(s0.size:Int))/\(0<=(3:Int)/\(3:Int)<(s0.size:Int))/\R (Aa .u64 (((Ap (An .u64) (Aa .u64 (((Ap (An .u64) (Aa .u64 (((Ap (An .u64) (Aa .u64 (za s0 (0:Int).toNat))) ||| (Ap (An .u64) (Aa .u64 ((Aa .u64 (za s0 (1:Int).toNat))*2 ^ 8)))).toNat:Int))) ||| (Ap (An .u64) (Aa .u64 ((Aa .u64 (za s0 (2:Int).toNat))*2 ^ 16)))).toNat:Int))) ||| (Ap (An .u64) (Aa .u64 ((Aa .u64 (za s0 (3:Int).toNat))*2 ^ 24)))).toNat:Int)))/\(false=false->(0<=(0:Int)/\(0:Int)<(s0.size:Int))/\(0<=(1:Int)/\(1:Int)<(s0.size:Int))/\(0<=(2:Int)/\(2:Int)<(s0.size:Int))/\(0<=(3:Int)/\(3:Int)<(s0.size:Int))/\(0<=(4:Int)/\(4:Int)<(s0.size:Int))/\(0<=(5:Int)/\(5:Int)<(s0.size:Int))/\(0<=(6:Int)/\(6:Int)<(s0.size:Int))/\(0<=(7:Int)/\(7:Int)<(s0.size:Int))/\R (Aa .u64 (((Ap (An .u64) (Aa .u64 (((Ap (An .u64) (Aa .u64 (((Ap (An .u64) (Aa .u64 (((Ap (An .u64) (Aa .u64 (((Ap (An .u64) (Aa .u64 (((Ap (An .u64) (Aa .u64 (((Ap (An .u64) (Aa .u64 (za s0 (0:Int).toNat))) ||| (Ap (An .u64) (Aa .u64 ((Aa .u64 (za s0 (1:Int).toNat))*2 ^ 8)))).toNat:Int))) ||| (Ap (An .u64) (Aa .u64 ((Aa .u64 (za s0 (2:Int).toNat))*2 ^ 16)))).toNat:Int))) ||| (Ap (An .u64) (Aa .u64 ((Aa .u64 (za s0 (3:Int).toNat))*2 ^ 24)))).toNat:Int))) ||| (Ap (An .u64) (Aa .u64 ((Aa .u64 (za s0 (4:Int).toNat))*2 ^ 32)))).toNat:Int))) ||| (Ap (An .u64) (Aa .u64 ((Aa .u64 (za s0 (5:Int).toNat))*2 ^ 40)))).toNat:Int))) ||| (Ap (An .u64) (Aa .u64 ((Aa .u64 (za s0 (6:Int).toNat))*2 ^ 48)))).toNat:Int))) ||| (Ap (An .u64) (Aa .u64 ((Aa .u64 (za s0 (7:Int).toNat))*2 ^ 56)))).toNat:Int)))):
  PC Tp gl 217 [Arg.mk .str s0] [.int .u64] R:=
 PF ⟨[],[],[],[]⟩ [.tmp 2] 59 Tryz.func217 H
theorem zjn(gl:Fr)(s0:Bt)(Z:Bt)(R:(Bt×Bt×Bool)->Prop)
  (H:∃(a:Int->Prop) (b:Int->Nat),a 0/\∀c:Int,a c->((decide (c<s0.size)=true->(0<=c/\c<s0.size)/\PC Tp gl 212 [Arg.mk .str Z,Arg.mk (.int .u8) (za s0 c.toNat)] [.int .i64] (λd:Int=>(decide (d>=0)=true->(0<=(0:Int)/\(0:Int)<=c/\c<=s0.size)/\(0<=(Aa .i64 (c+1))/\(Aa .i64 (c+1))<=(s0.size:Int)/\(s0.size:Int)<=(s0.size:Int))/\R (s0.extract (0:Int).toNat c.toNat,s0.extract (Aa .i64 (c+1)).toNat (s0.size:Int).toNat,true))/\(decide (d>=0)=false->(a (Aa .i64 (c+1))/\b (Aa .i64 (c+1))<b c))))/\(decide (c<s0.size)=false->R (s0,(⟨#[]⟩:Bt),false)))):
  PC Tp gl 139 [Arg.mk .str s0,Arg.mk .str Z] [.str,.str,.bool] R:=
 PF ⟨[],[],[(2,⟨[(10,.one (.dat (.int .i64)))],[],[],[100640]⟩)],[]⟩ [.tmp 4,.tmp 5,.tmp 6] 28 Tryz.func139 H
theorem zaq(gl:Fr)(s0:Bt)(R:((Bool×Bt×Int)×Int)->Prop)
  (H:PC Tp gl 127 [Arg.mk .str s0] [.bool,.str,.str,.bool,.str,.bool] (λa:Bool×Bt×Bt×Bool×Bt×Bool=>((!a.2.2.2.2.2)=true->R ((false,((⟨#[]⟩:Bt),0)),2))/\((!a.2.2.2.2.2)=false->((decide ((Aa .i64 ((a.2.1.size:Int)+(a.2.2.1.size:Int)))>1000))=true->R ((false,((⟨#[]⟩:Bt),0)),3))/\((decide ((Aa .i64 ((a.2.1.size:Int)+(a.2.2.1.size:Int)))>1000))=false->∃(b:Bt->Bool->Bt->Int->Prop) (c:Bt->Bool->Bt->Int->Nat),b a.2.2.2.2.1 false (⟨#[]⟩:Bt) 0/\∀d:Bt,∀an:Bool,∀ap:Bt,∀am:Int,b d an ap am->((decide ((d.size:Int)>1)=true->(0<=(0:Int)/\(0:Int)<(d.size:Int)))/\((bif (decide ((d.size:Int)>1))then((za d (0:Int).toNat:Int)==48)else false)=true->(0<=(1:Int)/\(1:Int)<=(d.size:Int)/\(d.size:Int)<=(d.size:Int))/\(b (d.extract (1:Int).toNat (d.size:Int).toNat) an ap am/\c (d.extract (1:Int).toNat (d.size:Int).toNat) an ap am<c d an ap am))/\((bif (decide ((d.size:Int)>1))then((za d (0:Int).toNat:Int)==48)else false)=false->(decide ((d.size:Int)>9)=true->R ((false,((⟨#[]⟩:Bt),0)),4))/\(decide ((d.size:Int)>9)=false->∃(e:Int->Int->Bool->Bt->Int->Prop) (f:Int->Int->Bool->Bt->Int->Nat),e 0 0 an ap am/\∀g i:Int,∀ab:Bool,∀af:Bt,∀Z:Int,e g i ab af Z->((decide (i<d.size)=true->(0<=i/\i<d.size)/\(e (Aa .i64 ((Aa .i64 (10*g))+(Aa .i64 (Aa .u8 ((za d i.toNat)-48))))) (Aa .i64 (i+1)) ab af Z/\f (Aa .i64 ((Aa .i64 (10*g))+(Aa .i64 (Aa .u8 ((za d i.toNat)-48))))) (Aa .i64 (i+1)) ab af Z<f g i ab af Z))/\(decide (i<d.size)=false->∀j:Int->Bool->Bt->Int->Prop,(∀k:Int,∀ax:Bool,∀au:Bt,∀ar:Int,(js (a.2.1.size+a.2.2.1.size)/\∃(l:Bt->Bool->Bt->Int->Prop) (m:Bt->Bool->Bt->Int->Nat),l (a.2.1++a.2.2.1) ax au ar/\∀n:Bt,∀aa:Bool,∀ah:Bt,∀ae:Int,l n aa ah ae->((decide ((n.size:Int)>0)=true->(0<=(0:Int)/\(0:Int)<(n.size:Int)))/\((bif (decide ((n.size:Int)>0))then((za n (0:Int).toNat:Int)==48)else false)=true->(0<=(1:Int)/\(1:Int)<=(n.size:Int)/\(n.size:Int)<=(n.size:Int))/\(l (n.extract (1:Int).toNat (n.size:Int).toNat) aa ah ae/\m (n.extract (1:Int).toNat (n.size:Int).toNat) aa ah ae<m n aa ah ae))/\((bif (decide ((n.size:Int)>0))then((za n (0:Int).toNat:Int)==48)else false)=false->((n.toList==(⟨#[]⟩:Bt).toList)=true->R ((false,((⟨#[]⟩:Bt),0)),0))/\((n.toList==(⟨#[]⟩:Bt).toList)=false->∃(o:Int->Bt->Bool->Bt->Int->Prop) (p:Int->Bt->Bool->Bt->Int->Nat),o (Aa .i64 (k-(a.2.2.1.size:Int))) n aa ah ae/\∀q:Int,∀r:Bt,∀aj:Bool,∀ai:Bt,∀ak:Int,o q r aj ai ak->((0<=(Aa .i64 ((r.size:Int)-1))/\(Aa .i64 ((r.size:Int)-1))<(r.size:Int))/\(((za r (Aa .i64 ((r.size:Int)-1)).toNat:Int)==48)=true->(0<=(0:Int)/\(0:Int)<=(Aa .i64 ((r.size:Int)-1))/\(Aa .i64 ((r.size:Int)-1))<=(r.size:Int))/\(o (Aa .i64 (q+1)) (r.extract (0:Int).toNat (Aa .i64 ((r.size:Int)-1)).toNat) aj ai ak/\p (Aa .i64 (q+1)) (r.extract (0:Int).toNat (Aa .i64 ((r.size:Int)-1)).toNat) aj ai ak<p q r aj ai ak))/\(((za r (Aa .i64 ((r.size:Int)-1)).toNat:Int)==48)=false->((bif (decide (q<(-1000000)))then true else(decide (q>1000000)))=true->R ((false,((⟨#[]⟩:Bt),0)),4))/\((bif (decide (q<(-1000000)))then true else(decide (q>1000000)))=false->R ((a.1,(r,q)),0))))))))->j k ax au ar)->(a.2.2.2.1=true->j (Aa .i64 (0-g)) ab af Z)/\(a.2.2.2.1=false->j g ab af Z)))))))))):
  PC Tp gl 67 [Arg.mk .str s0] [.pair .bool (.pair .str (.int .i64)),.int .i64] R:=
 PF ⟨[],[],[(6,⟨[(8,.one (.dat .str))],[(2,[.dat .bool,.dat .str,.dat (.int .i64)])],[],[100512,1000128,1000129,1000130]⟩),(12,⟨[(10,.one (.dat (.int .i64))),(11,.one (.dat (.int .i64)))],[(2,[.dat .bool,.dat .str,.dat (.int .i64)])],[],[100640,100704,1000128,1000129,1000130]⟩),(19,⟨[(12,.one (.dat .str))],[(2,[.dat .bool,.dat .str,.dat (.int .i64)])],[],[100768,1000128,1000129,1000130]⟩),(23,⟨[(10,.one (.dat (.int .i64))),(12,.one (.dat .str))],[(2,[.dat .bool,.dat .str,.dat (.int .i64)])],[],[100640,100768,1000128,1000129,1000130]⟩)],[(17,⟨[(10,.one (.dat (.int .i64)))],[(2,[.dat .bool,.dat .str,.dat (.int .i64)])],[],[100640,1000128,1000129,1000130]⟩)]⟩ [.cell 2 46,.tmp 3] 107 Tryz.func67 H
theorem zb9(gl:Fr)(n0:Bool×Bt×Int)(R:Bt->Prop)
  (H:PC Tp gl 128 [Arg.mk (.pair .bool (.pair .str (.int .i64))) (n0.1,(n0.2.1,n0.2.2))] [.bool] (λa:Bool=>((!a)=true->R (⟨#[]⟩:Bt))/\((!a)=false->PC Tp gl 129 [Arg.mk (.pair .bool (.pair .str (.int .i64))) (n0.1,(n0.2.1,n0.2.2))] [.bool] (λb:Bool=>(b=true->R (⟨#[48]⟩:Bt))/\(b=false->∀c:Bt->Prop,(∀d:Bt,(((n0.2.2 != 0)=true->js (d.size+((⟨#[101]⟩:Bt)).size)/\PC Tp gl 130 [Arg.mk (.int .i64) n0.2.2] [.str] (λe:Bt=>js ((d++(⟨#[101]⟩:Bt)).size+e.size)/\R ((d++(⟨#[101]⟩:Bt))++e)))/\((n0.2.2 != 0)=false->R d))->c d)->(n0.1=true->js (((⟨#[45]⟩:Bt)).size+n0.2.1.size)/\c ((⟨#[45]⟩:Bt)++n0.2.1))/\(n0.1=false->c n0.2.1)))))):
  PC Tp gl 68 [Arg.mk (.pair .bool (.pair .str (.int .i64))) n0] [.str] R:=
 PF ⟨[],[],[],[(9,⟨[(4,.one (.dat .str))],[],[1],[100256]⟩)]⟩ [.tmp 2] 27 Tryz.func68 H
theorem zar(gl:Fr)(n0:Bool×Bt×Int)(R:Bool->Prop)
  (H:PC Tp gl 129 [Arg.mk (.pair .bool (.pair .str (.int .i64))) (n0.1,(n0.2.1,n0.2.2))] [.bool] (λa:Bool=>(a=true->R true)/\(a=false->PC Tp gl 204 [Arg.mk .str n0.2.1] [.bool] (λb:Bool=>((bif b then(decide ((n0.2.1.size:Int)<=1000))else false)=true->(0<=(0:Int)/\(0:Int)<(n0.2.1.size:Int)))/\((bif (bif b then(decide ((n0.2.1.size:Int)<=1000))else false)then((za n0.2.1 (0:Int).toNat:Int) != 48)else false)=true->(0<=(Aa .i64 ((n0.2.1.size:Int)-1))/\(Aa .i64 ((n0.2.1.size:Int)-1))<(n0.2.1.size:Int)))/\R (bif (bif (bif (bif (bif b then(decide ((n0.2.1.size:Int)<=1000))else false)then((za n0.2.1 (0:Int).toNat:Int) != 48)else false)then((za n0.2.1 (Aa .i64 ((n0.2.1.size:Int)-1)).toNat:Int) != 48)else false)then(decide (n0.2.2>=(-1000000)))else false)then(decide (n0.2.2<=1000000))else false))))):
  PC Tp gl 128 [Arg.mk (.pair .bool (.pair .str (.int .i64))) n0] [.bool] R:=
 PF ⟨[],[],[],[]⟩ [.tmp 2] 42 Tryz.func128 H
theorem zas(gl:Fr)(s0:Bt)(R:(Bool×Bt×Bt×Bool×Bt×Bool)->Prop)
  (H:(decide ((s0.size:Int)>0)=true->(0<=(0:Int)/\(0:Int)<(s0.size:Int)))/\∀a:Bt->Prop,(∀b:Bt,(∃(c:Int->Prop) (d:Int->Nat),c 0/\∀e:Int,c e->((decide (e<b.size)=true->(0<=e/\e<b.size))/\((bif (decide (e<b.size))then((za b e.toNat:Int) != 101)else false)=true->(0<=e/\e<b.size))/\((bif (bif (decide (e<b.size))then((za b e.toNat:Int) != 101)else false)then((za b e.toNat:Int) != 69)else false)=true->(c (Aa .i64 (e+1))/\d (Aa .i64 (e+1))<d e))/\((bif (bif (decide (e<b.size))then((za b e.toNat:Int) != 101)else false)then((za b e.toNat:Int) != 69)else false)=false->∀f:Bt->Bool->Prop,(∀g:Bt,∀i:Bool,((0<=(0:Int)/\(0:Int)<=e/\e<=b.size)/\∃(j:Int->Prop) (k:Int->Nat),j 0/\∀l:Int,j l->(((decide (l<((b.extract (0:Int).toNat e.toNat).size:Int)))=true->(0<=l/\l<((b.extract (0:Int).toNat e.toNat).size:Int)))/\((bif (decide (l<((b.extract (0:Int).toNat e.toNat).size:Int)))then((za (b.extract (0:Int).toNat e.toNat) l.toNat:Int) != 46)else false)=true->(j (Aa .i64 (l+1))/\k (Aa .i64 (l+1))<k l))/\((bif (decide (l<((b.extract (0:Int).toNat e.toNat).size:Int)))then((za (b.extract (0:Int).toNat e.toNat) l.toNat:Int) != 46)else false)=false->(0<=(0:Int)/\(0:Int)<=l/\l<=((b.extract (0:Int).toNat e.toNat).size:Int))/\∀m:Bt->Prop,(∀n:Bt,(PC Tp gl 204 [Arg.mk .str ((b.extract (0:Int).toNat e.toNat).extract (0:Int).toNat l.toNat)] [.bool] (λo:Bool=>∃p:Bool->Prop,(o=true->PC Tp gl 204 [Arg.mk .str n] [.bool] p)/\∀q:Bool,(o=true->p q)->∃r:Bool->Prop,((bif o then q else false)=true->PC Tp gl 204 [Arg.mk .str g] [.bool] r)/\∀s:Bool,((bif o then q else false)=true->r s)->(((bif (bif o then q else false)then s else false)&&(!(((b.extract (0:Int).toNat e.toNat).extract (0:Int).toNat l.toNat:Bt).toList==(⟨#[48]⟩:Bt).toList)))=true->(0<=(0:Int)/\(0:Int)<(((b.extract (0:Int).toNat e.toNat).extract (0:Int).toNat l.toNat).size:Int)))/\∀t:Bt->Prop,(∀u:Bt,(R (bif (decide ((s0.size:Int)>0))then((za s0 (0:Int).toNat:Int)==45)else false,(b.extract (0:Int).toNat e.toNat).extract (0:Int).toNat l.toNat,u,i,g,bif (bif (bif o then q else false)then s else false)then(bif (((b.extract (0:Int).toNat e.toNat).extract (0:Int).toNat l.toNat:Bt).toList==(⟨#[48]⟩:Bt).toList)then true else((za ((b.extract (0:Int).toNat e.toNat).extract (0:Int).toNat l.toNat) (0:Int).toNat:Int) != 48))else false))->t u)->((l==((b.extract (0:Int).toNat e.toNat).size:Int))=true->t (⟨#[]⟩:Bt))/\((l==((b.extract (0:Int).toNat e.toNat).size:Int))=false->t n)))->m n)->((decide (l<((b.extract (0:Int).toNat e.toNat).size:Int)))=true->(0<=(Aa .i64 (l+1))/\(Aa .i64 (l+1))<=((b.extract (0:Int).toNat e.toNat).size:Int)/\(((b.extract (0:Int).toNat e.toNat).size:Int):Int)<=((b.extract (0:Int).toNat e.toNat).size:Int))/\m ((b.extract (0:Int).toNat e.toNat).extract (Aa .i64 (l+1)).toNat (((b.extract (0:Int).toNat e.toNat).size:Int):Int).toNat))/\((decide (l<((b.extract (0:Int).toNat e.toNat).size:Int)))=false->m (⟨#[48]⟩:Bt)))))->f g i)->(decide (e<b.size)=true->(0<=(Aa .i64 (e+1))/\(Aa .i64 (e+1))<=(b.size:Int)/\(b.size:Int)<=(b.size:Int))/\((decide ((((b.extract (Aa .i64 (e+1)).toNat (b.size:Int).toNat).size:Int):Int)>0))=true->(0<=(0:Int)/\(0:Int)<((b.extract (Aa .i64 (e+1)).toNat (b.size:Int).toNat).size:Int)))/\(((!(bif (decide ((((b.extract (Aa .i64 (e+1)).toNat (b.size:Int).toNat).size:Int):Int)>0))then((za (b.extract (Aa .i64 (e+1)).toNat (b.size:Int).toNat) (0:Int).toNat:Int)==45)else false))&&(decide ((((b.extract (Aa .i64 (e+1)).toNat (b.size:Int).toNat).size:Int):Int)>0)))=true->(0<=(0:Int)/\(0:Int)<((b.extract (Aa .i64 (e+1)).toNat (b.size:Int).toNat).size:Int)))/\((bif (bif (decide ((((b.extract (Aa .i64 (e+1)).toNat (b.size:Int).toNat).size:Int):Int)>0))then((za (b.extract (Aa .i64 (e+1)).toNat (b.size:Int).toNat) (0:Int).toNat:Int)==45)else false)then true else(bif (decide ((((b.extract (Aa .i64 (e+1)).toNat (b.size:Int).toNat).size:Int):Int)>0))then((za (b.extract (Aa .i64 (e+1)).toNat (b.size:Int).toNat) (0:Int).toNat:Int)==43)else false))=true->(0<=(1:Int)/\(1:Int)<=((b.extract (Aa .i64 (e+1)).toNat (b.size:Int).toNat).size:Int)/\(((b.extract (Aa .i64 (e+1)).toNat (b.size:Int).toNat).size:Int):Int)<=((b.extract (Aa .i64 (e+1)).toNat (b.size:Int).toNat).size:Int))/\f ((b.extract (Aa .i64 (e+1)).toNat (b.size:Int).toNat).extract (1:Int).toNat (((b.extract (Aa .i64 (e+1)).toNat (b.size:Int).toNat).size:Int):Int).toNat) (bif (decide ((((b.extract (Aa .i64 (e+1)).toNat (b.size:Int).toNat).size:Int):Int)>0))then((za (b.extract (Aa .i64 (e+1)).toNat (b.size:Int).toNat) (0:Int).toNat:Int)==45)else false))/\((bif (bif (decide ((((b.extract (Aa .i64 (e+1)).toNat (b.size:Int).toNat).size:Int):Int)>0))then((za (b.extract (Aa .i64 (e+1)).toNat (b.size:Int).toNat) (0:Int).toNat:Int)==45)else false)then true else(bif (decide ((((b.extract (Aa .i64 (e+1)).toNat (b.size:Int).toNat).size:Int):Int)>0))then((za (b.extract (Aa .i64 (e+1)).toNat (b.size:Int).toNat) (0:Int).toNat:Int)==43)else false))=false->f (b.extract (Aa .i64 (e+1)).toNat (b.size:Int).toNat) (bif (decide ((((b.extract (Aa .i64 (e+1)).toNat (b.size:Int).toNat).size:Int):Int)>0))then((za (b.extract (Aa .i64 (e+1)).toNat (b.size:Int).toNat) (0:Int).toNat:Int)==45)else false)))/\(decide (e<b.size)=false->f (⟨#[48]⟩:Bt) false))))->a b)->((bif (decide ((s0.size:Int)>0))then((za s0 (0:Int).toNat:Int)==45)else false)=true->(0<=(1:Int)/\(1:Int)<=(s0.size:Int)/\(s0.size:Int)<=(s0.size:Int))/\a (s0.extract (1:Int).toNat (s0.size:Int).toNat))/\((bif (decide ((s0.size:Int)>0))then((za s0 (0:Int).toNat:Int)==45)else false)=false->a s0)):
  PC Tp gl 127 [Arg.mk .str s0] [.bool,.str,.str,.bool,.str,.bool] R:=
 PF ⟨[],[],[(5,⟨[(9,.one (.dat (.int .i64)))],[],[],[100576]⟩),(16,⟨[(9,.one (.dat (.int .i64)))],[],[],[100576]⟩)],[(4,⟨[(0,.one (.dat .str))],[],[],[100000]⟩),(14,⟨[(10,.one (.dat .str)),(11,.one (.dat .bool))],[],[],[100640,100704]⟩),(22,⟨[(13,.one (.dat .str))],[],[],[100832]⟩),(25,⟨[(13,.one (.dat .str))],[],[],[100832]⟩)]⟩ [.tmp 2,.tmp 3,.tmp 4,.tmp 5,.tmp 6,.tmp 7] 128 Tryz.func127 H
theorem Xi(gl:Fr)(n0:Bool×Bt×Int)(R:Bool->Prop)
  (H:R ((n0.1==false)&&((n0.2.1.toList==(⟨#[]⟩:Bt).toList)&&((n0.2.2==0)&&true)))):
  PC Tp gl 129 [Arg.mk (.pair .bool (.pair .str (.int .i64))) n0] [.bool] R:=
 PF ⟨[],[],[],[]⟩ [.tmp 2] 6 Tryz.func129 H
theorem Wk(gl:Fr)(n0:Int)(R:Bt->Prop)
  (H:((bif (decide (n0>=0))then(decide (n0<10))else false)=true->(0<=n0/\n0<=(Aa .i64 (n0+1))/\(Aa .i64 (n0+1))<=(((⟨#[48,49,50,51,52,53,54,55,56,57]⟩:Bt)).size:Int))/\R (((⟨#[48,49,50,51,52,53,54,55,56,57]⟩:Bt)).extract n0.toNat (Aa .i64 (n0+1)).toNat))/\((bif (decide (n0>=0))then(decide (n0<10))else false)=false->(decide (n0>0)=true->CL=CL/\(10:Int)≠0/\CL=CL/\(10:Int)≠0/\CL=CL/\(10:Int)≠0/\(0<=(n0.tmod 10:Int)/\(n0.tmod 10:Int)<=(Aa .i64 ((n0.tmod 10)+1))/\(Aa .i64 ((n0.tmod 10)+1))<=(((⟨#[48,49,50,51,52,53,54,55,56,57]⟩:Bt)).size:Int))/\PC Tp gl 130 [Arg.mk (.int .i64) (Aa .i64 (n0.tdiv 10))] [.str] (λa:Bt=>js (a.size+(((⟨#[48,49,50,51,52,53,54,55,56,57]⟩:Bt)).extract (n0.tmod 10:Int).toNat (Aa .i64 ((n0.tmod 10)+1)).toNat).size)/\R (a++(((⟨#[48,49,50,51,52,53,54,55,56,57]⟩:Bt)).extract (n0.tmod 10:Int).toNat (Aa .i64 ((n0.tmod 10)+1)).toNat))))/\(decide (n0>0)=false->(decide (n0>(-10))=true->(0<=(Aa .i64 (0-n0))/\(Aa .i64 (0-n0))<=(Aa .i64 ((Aa .i64 (0-n0))+1))/\(Aa .i64 ((Aa .i64 (0-n0))+1))<=(((⟨#[48,49,50,51,52,53,54,55,56,57]⟩:Bt)).size:Int))/\js (((⟨#[45]⟩:Bt)).size+(((⟨#[48,49,50,51,52,53,54,55,56,57]⟩:Bt)).extract (Aa .i64 (0-n0)).toNat (Aa .i64 ((Aa .i64 (0-n0))+1)).toNat).size)/\R ((⟨#[45]⟩:Bt)++(((⟨#[48,49,50,51,52,53,54,55,56,57]⟩:Bt)).extract (Aa .i64 (0-n0)).toNat (Aa .i64 ((Aa .i64 (0-n0))+1)).toNat)))/\(decide (n0>(-10))=false->CL=CL/\(10:Int)≠0/\CL=CL/\(10:Int)≠0/\CL=CL/\(10:Int)≠0/\(0<=(Aa .i64 (0-(n0.tmod 10)))/\(Aa .i64 (0-(n0.tmod 10)))<=(Aa .i64 ((Aa .i64 (0-(n0.tmod 10)))+1))/\(Aa .i64 ((Aa .i64 (0-(n0.tmod 10)))+1):Int)<=(((⟨#[48,49,50,51,52,53,54,55,56,57]⟩:Bt)).size:Int))/\PC Tp gl 130 [Arg.mk (.int .i64) (Aa .i64 (n0.tdiv 10))] [.str] (λb:Bt=>js (b.size+(((⟨#[48,49,50,51,52,53,54,55,56,57]⟩:Bt)).extract (Aa .i64 (0-(n0.tmod 10))).toNat (Aa .i64 ((Aa .i64 (0-(n0.tmod 10)))+1):Int).toNat).size)/\R (b++(((⟨#[48,49,50,51,52,53,54,55,56,57]⟩:Bt)).extract (Aa .i64 (0-(n0.tmod 10))).toNat (Aa .i64 ((Aa .i64 (0-(n0.tmod 10)))+1):Int).toNat))))))):
  PC Tp gl 130 [Arg.mk (.int .i64) n0] [.str] R:=
 PF ⟨[],[(5,10,[],[0,1,3,4,5,6,7,8,9,2],[]),(8,12,[],[0,1,3,4,5,6,7,8,9,10,11,2],[])],[],[]⟩ [.tmp 2] 51 Tryz.func130 H
theorem Xj(gl:Fr)(s0:Bt)(R:Bool->Prop)
  (H:∃(a:Int->Prop) (b:Int->Nat),a 0/\∀c:Int,a c->((decide (c<s0.size)=true->(0<=c/\c<s0.size)/\((!(decide ((za s0 c.toNat:Int)<48)))=true->(0<=c/\c<s0.size))/\((bif (decide ((za s0 c.toNat:Int)<48))then true else(decide ((za s0 c.toNat:Int)>57)))=true->R false)/\((bif (decide ((za s0 c.toNat:Int)<48))then true else(decide ((za s0 c.toNat:Int)>57)))=false->(a (Aa .i64 (c+1))/\b (Aa .i64 (c+1))<b c)))/\(decide (c<s0.size)=false->R (decide ((s0.size:Int)>0))))):
  PC Tp gl 204 [Arg.mk .str s0] [.bool] R:=
 PF ⟨[],[],[(2,⟨[(3,.one (.dat (.int .i64)))],[],[],[100192]⟩)],[]⟩ [.tmp 2] 23 Tryz.func204 H
end
section
abbrev bl(l:List UInt8):Bt:=⟨l.toArray⟩
abbrev lb(s:Bt):List UInt8:=s.data.toList
@[simp] theorem jd(l:List UInt8):lb (bl l)=l:=by simp[lb]
@[simp] theorem zjo(s:Bt):bl (lb s)=s:=by cases s;simp[lb,bl]
theorem zid{s t:Bt}:lb s=lb t↔s=t:=⟨λh=>by rw[<-zjo s,h,zjo],λh=>by rw[h]⟩
theorem Wl(s:Bt):(lb s).length=s.size:=by cases s;simp[lb,ByteArray.size]
theorem zvp(s t:Bt):lb (s++t)=lb s++lb t:=by
 cases s;cases t
 simp[lb]
theorem zsx(s:Bt)(a b:Nat):lb (s.extract a b)=((lb s).drop a).take (b-a):=by
 cases s
 simp[lb,ByteArray.data_extract,List.extract_eq_take_drop]
theorem zf9(s:Bt)(i:Nat):za s i=((((lb s)[i]?).getD 0).toNat:Int):=by
 cases s;simp[lb,za]
theorem z2j(s:Bt)(i:Nat):s.get! i=((lb s)[i]?).getD 0:=by
 cases s with
 |mk d=>simp[lb,ByteArray.get!,Array.getElem!_eq_getD];rfl
theorem yo(s:Bt)(i:Nat):0<=za s i/\za s i<256:=by
 rw[zf9]
 have:=(((lb s)[i]?).getD 0).toNat_lt
 omega
def dec(l:List UInt8):Nat×Nat:=Go.Lib.decodeN l.length (l.getD 0 0).toNat (l.getD 1 0).toNat (l.getD 2 0).toNat (l.getD 3 0).toNat
theorem zqp(s:Bt)(i:Nat):Utf8.decode s i=dec ((lb s).drop i):=by
 rw[Go.Lib.decode_at,dec]
 simp only[z2j,Cp,AE,As,Wl,CQ]
theorem ww(l:List UInt8):1<=(dec l).2/\(dec l).2<=4:=by
 unfold dec Go.Lib.decodeN
 repeat' split
 all_goals simp
theorem zmb{l:List UInt8}(h:l≠[]):(dec l).2<=l.length:=by
 have:0<l.length:=Bj.2 h
 unfold dec Go.Lib.decodeN
 repeat' split
 all_goals simp only
 all_goals omega
def zca(d:Nat×Nat):Bool:=d.1==65533&&d.2==1
def xy(l:List UInt8):Bool:=if h:l=[]then true else if zca (dec l)then false else xy (l.drop (dec l).2)
termination_by l.length
decreasing_by
 have h1:=ww l
 have h2:0<l.length:=Bj.2 h
 simp only[As];omega
theorem zjp:xy []=true:=by unfold xy;simp
theorem xz{l:List UInt8}(h:l≠[]):xy l=if zca (dec l)then false else xy (l.drop (dec l).2):=by
 rw[xy];simp[h]
theorem Yi{c:UInt8}{l:List UInt8}(h:c.toNat<128):dec (c::l)=(c.toNat,1):=by
 simp[dec,Go.Lib.decodeN,h]
theorem zie{c:UInt8}{l:List UInt8}(h:c.toNat<128):zca (dec (c::l))=false:=by
 rw[Yi h,zca]
 have:(c.toNat==65533)=false:=by simp;omega
 simp[this]
theorem zif{c:UInt8}{l:List UInt8}(h:c.toNat<128):xy (c::l)=xy l:=by
 rw[xz (by simp),zie h,Yi h];simp
end
end Go.X
end
section
namespace Go.X
open Go Go.Lib
section
abbrev Bs:=List UInt8
end
end Go.X
end
section
namespace Go.X
section
variable {n b0 b1 b2 b3:Nat} {gl:Fr} {s:Bt}
theorem z2k{α:Type}{B:α->Prop}{c:Bool}{a b:α}(h:B (bif c then a else b)):∀K:α->Prop,(∀v,B v->K v)->(c=true->K a)/\(c=false->K b):=
 λK hK=>⟨λhc=>hK _ (by subst hc;exact h),λhc=>hK _ (by subst hc;exact h)⟩
theorem z9s(s:Bt)(i:Nat):Aa .i64 (za s i)=za s i:=by
 have:=yo s i
 exact wrap64 (by omega) (by omega)
theorem xj{n:Int}(h1:-2147483648<=n)(h2:n<=2147483647):Aa .i32 n=n:=by
 unfold Aa
 have e:(2:Int) ^ An .i32=4294967296:=by decide
 have e':(2:Int) ^ (An .i32-1)=2147483648:=by decide
 simp only[e,e']
 have hs:C9 .i32=true:=rfl
 simp only[hs,Cf,decide_eq_true_eq]
 split <;> omega
theorem zvq(s:Bt)(a:Nat):dec ((lb s).drop a)=Lib.decodeN (s.size-a) (za s a).toNat (za s (a+1)).toNat (za s (a+2)).toNat (za s (a+3)).toNat:=by
 simp only[dec,zf9,Cp,AE,As,Wl,CQ,Ae]
def zy9(c:Int):Int:=if c<128 then 1 else if 194<=c/\c<=223 then 2 else if 224<=c/\c<=239 then 3 else if 240<=c/\c<=244 then 4 else 0
theorem z2l{c:Int}{R:Int->Prop}(h:R (zy9 c)):PC Tp gl 264 [Arg.mk (.int .i64) c] [.int .i64] R:=by
 apply zb8
 unfold zy9 at h
 grind
theorem qbf(h:b0<128):Lib.decodeN n b0 b1 b2 b3=(b0,1):=by
 unfold Lib.decodeN;rw[if_pos h]
theorem qbg(h:128<=b0/\b0<194\/245<=b0/\b0<256):Lib.decodeN n b0 b1 b2 b3=(65533,1):=by
 refine Lib.bad_eq _ _ _ _ _ (by omega) ?_
 unfold Lib.firstT
 repeat' split
 all_goals first|rfl|(exfalso;omega)
theorem z9t(h:194<=b0/\b0<224)(h1:b1<256):Lib.decodeN n b0 b1 b2 b3=if 2<=n/\128<=b1/\b1<=191 then((b0-192)*64+(b1-128),2)else(65533,1):=by
 unfold Lib.decodeN
 rw[if_neg (by omega)]
 by_cases hc:2<=n/\128<=b1/\b1<=191
 ·have e:b0 % 32*64+b1 % 64=(b0-192)*64+(b1-128):=by omega
  rw[if_pos (by omega),if_pos (by omega),if_pos hc,e]
 ·rw[if_neg (by omega),if_neg (by omega),if_neg (by omega),if_neg hc]
theorem z9u(h:224<=b0/\b0<240)(h1:b1<256)(h2:b2<256):Lib.decodeN n b0 b1 b2 b3=
  if 3<=n/\(128<=b1/\b1<=191)/\(128<=b2/\b2<=191)/\2048<=((b0-224)*64+(b1-128))*64+(b2-128)/\(((b0-224)*64+(b1-128))*64+(b2-128)<55296\/57344<=((b0-224)*64+(b1-128))*64+(b2-128))
  then(((b0-224)*64+(b1-128))*64+(b2-128),3)else(65533,1):=by
 unfold Lib.decodeN
 rw[if_neg (by omega),if_neg (by omega)]
 by_cases hc:3<=n/\(128<=b1/\b1<=191)/\(128<=b2/\b2<=191)
 ·rw[if_pos (by omega)]
  have e:b0 % 16*4096+b1 % 64*64+b2 % 64=((b0-224)*64+(b1-128))*64+(b2-128):=by omega
  rw[e]
  split <;> rename_i hx
  ·rw[if_pos (by omega)]
  ·rw[if_neg (by omega)]
 ·rw[if_neg (by omega),if_neg (by omega),if_neg (by omega)]
theorem z9v(h:240<=b0/\b0<245)(h1:b1<256)(h2:b2<256)(h3:b3<256):Lib.decodeN n b0 b1 b2 b3=
  if 4<=n/\(128<=b1/\b1<=191)/\(128<=b2/\b2<=191)/\(128<=b3/\b3<=191)/\65536<=(((b0-240)*64+(b1-128))*64+(b2-128))*64+(b3-128)/\(((b0-240)*64+(b1-128))*64+(b2-128))*64+(b3-128)<=1114111
  then((((b0-240)*64+(b1-128))*64+(b2-128))*64+(b3-128),4)else(65533,1):=by
 unfold Lib.decodeN
 rw[if_neg (by omega),if_neg (by omega),if_neg (by omega)]
 by_cases hc:4<=n/\(128<=b1/\b1<=191)/\(128<=b2/\b2<=191)/\(128<=b3/\b3<=191)
 ·rw[if_pos (by omega)]
  have e:b0 % 8*262144+b1 % 64*4096+b2 % 64*64+b3 % 64=(((b0-240)*64+(b1-128))*64+(b2-128))*64+(b3-128):=by omega
  rw[e]
  split <;> rename_i hx
  ·rw[if_pos (by omega)]
  ·rw[if_neg (by omega)]
 ·rw[if_neg (by omega),if_neg (by omega)]
def zol(s:Bt)(Z:Int):Int×Int:=if Z<0\/Z>=s.size then(0,0)else(((dec ((lb s).drop Z.toNat)).1:Int),((dec ((lb s).drop Z.toNat)).2:Int))
set_option maxHeartbeats 1000000 in
theorem zom{aa:Int}{R:Int×Int->Prop}(hs:(s.size:Int)<=4611686018427387904)(h:R (zol s aa)):PC Tp gl 207 [Arg.mk .str s,Arg.mk (.int .i64) aa] [.int .i32,.int .i64] R:=by
 apply zb7
 unfold zol at h
 refine⟨λhc=>?_,λhc=>?_⟩
 ·rw[if_pos (by grind)]at h;exact h
 ·have hb:0<=aa/\aa<(s.size:Int):=by grind
  rw[if_neg (by omega),zvq]at h
  refine⟨hb,z2l ?_⟩
  obtain⟨a,rfl⟩:∃a:Nat,aa=(a:Int):=⟨aa.toNat,by omega⟩
  simp only[Ae,z9s]at h ⊢
  have r0:=yo s a;have r1:=yo s (a+1);have r2:=yo s (a+2);have r3:=yo s (a+3)
  have ix:∀i:Int,1<=i->i<=4->(Aa .i64 ((a:Int)+i))=(a:Int)+i:=λi h1 h2=>wrap64 (by omega) (by omega)
  have e1:((a:Int)+1).toNat=a+1:=by omega
  have e2:((a:Int)+2).toNat=a+2:=by omega
  have e3:((a:Int)+3).toNat=a+3:=by omega
  have au:Aa .i64 ((s.size:Int)-(a:Int))=(s.size:Int)-(a:Int):=wrap64 (by omega) (by omega)
  rw[au]
  generalize hn:zy9 (za s a)=n
  unfold zy9 at hn
  generalize aG:za s a=b0 at *
  refine⟨λam=>?_,λam=>⟨hb,?_⟩⟩
  ·have:Lib.decodeN (s.size-a) b0.toNat (za s (a+1)).toNat (za s (a+2)).toNat (za s (a+3)).toNat=(65533,1):=by
    have ar:n=0\/n>(s.size:Int)-a:=by grind
    unfold Lib.decodeN
    repeat' split
    all_goals first|rfl|(exfalso;split at hn <;> first|omega|(split at hn <;> first|omega|(split at hn <;> first|omega|(split at hn <;> omega))))
   rw[this]at h;exact h
  ·have ar:n≠0/\n<=(s.size:Int)-a:=by grind
   apply z2k;apply z2k;apply z2k
   have hv:(bif n==4 then Aa .i64 ((bif n==3 then Aa .i64 ((bif n==2 then Aa .i64 (b0-192)else b0)-224)else bif n==2 then Aa .i64 (b0-192)else b0)-240)else bif n==3 then Aa .i64 ((bif n==2 then Aa .i64 (b0-192)else b0)-224)else bif n==2 then Aa .i64 (b0-192)else b0)
     = (if n=4 then b0-240 else if n=3 then b0-224 else if n=2 then b0-192 else b0):=by
    have w1:Aa .i64 (b0-192)=b0-192:=wrap64 (by omega) (by omega)
    have w2:Aa .i64 (b0-224)=b0-224:=wrap64 (by omega) (by omega)
    have w3:Aa .i64 (b0-240)=b0-240:=wrap64 (by omega) (by omega)
    grind
   rw[hv]
   generalize aF:(if n=4 then b0-240 else if n=3 then b0-224 else if n=2 then b0-192 else b0)=v1
   have aA:0<=v1/\v1<128:=by grind
   have aB:n=4->v1<=4:=by grind
   generalize ap:za s (a+1)=b1 at *
   generalize an:za s (a+2)=b2 at *
   generalize ai:za s (a+3)=b3 at *
   have q1:=yo s (a+1);have q2:=yo s (a+2);have q3:=yo s (a+3)
   rw[ap]at q1;rw[an]at q2;rw[ai]at q3
   obtain⟨N,hN⟩:∃N:Nat,s.size-a=N:=⟨_,rfl⟩
   have aE:(N:Int)=s.size-a:=by omega
   rw[hN]at h
   have aj:n=1\/n=2\/n=3\/n=4:=by grind
   have ak:∀v:Int,(n=1->v=v1)->(n=2->(128<=b1/\b1<=191)/\v=64*v1+b1-128)->(n=3->(128<=b1/\b1<=191)/\(128<=b2/\b2<=191)/\v=64*(64*v1+b1-128)+b2-128) ->
     (n=4->(128<=b1/\b1<=191)/\(128<=b2/\b2<=191)/\(128<=b3/\b3<=191)/\v=64*(64*(64*v1+b1-128)+b2-128)+b3-128) ->
     (((n=3/\v<2048)\/(n=4/\v<65536)\/v>1114111\/(v>=55296/\v<57344))->R (65533,1))/\(¬((n=3/\v<2048)\/(n=4/\v<65536)\/v>1114111\/(v>=55296/\v<57344))->R (Aa .i32 v,n)):=by
    intro v k1 k2 k3 k4
    rcases aj with rfl|rfl|rfl|rfl
    ·have Z:b0<128:=by grind
     have:=k1 rfl
     have af:v1=b0:=by grind
     rw[qbf (by omega)]at h
     refine⟨λhx=>by omega,λ_=>?_⟩
     rw[xj (by omega) (by omega)]
     have e:((b0.toNat:Nat):Int)=v:=by omega
     simp only[e]at h
     exact h
    ·have Z:194<=b0/\b0<224:=by grind
     obtain⟨c1,hv⟩:=k2 rfl
     have af:v1=b0-192:=by grind
     rw[z9t (by omega) (by omega),if_pos (by omega)]at h
     refine⟨λhx=>by omega,λ_=>?_⟩
     rw[xj (by omega) (by omega)]
     have e:(((b0.toNat-192)*64+(b1.toNat-128):Nat):Int)=v:=by omega
     simp only[e]at h
     exact h
    ·have Z:224<=b0/\b0<240:=by grind
     obtain⟨c1,c2,hv⟩:=k3 rfl
     have af:v1=b0-224:=by grind
     have e:((((b0.toNat-224)*64+(b1.toNat-128))*64+(b2.toNat-128):Nat):Int)=v:=by omega
     rw[z9u (by omega) (by omega) (by omega)]at h
     refine⟨λhx=>?_,λhx=>?_⟩
     ·rw[if_neg (by omega)]at h;exact h
     ·rw[if_pos (by omega)]at h
      rw[xj (by omega) (by omega)]
      simp only[e]at h
      exact h
    ·have Z:240<=b0/\b0<245:=by grind
     obtain⟨c1,c2,c3,hv⟩:=k4 rfl
     have af:v1=b0-240:=by grind
     have e:(((((b0.toNat-240)*64+(b1.toNat-128))*64+(b2.toNat-128))*64+(b3.toNat-128):Nat):Int)=v:=by omega
     rw[z9v (by omega) (by omega) (by omega) (by omega)]at h
     refine⟨λhx=>?_,λhx=>?_⟩
     ·rw[if_neg (by omega)]at h;exact h
     ·rw[if_pos (by omega)]at h
      rw[xj (by omega) (by omega)]
      simp only[e]at h
      exact h
   have az:∀i:Int,1<=i->i<n->((i=1/\¬(128<=b1/\b1<=191))\/(i=2/\¬(128<=b2/\b2<=191))\/(i=3/\¬(128<=b3/\b3<=191)))->R (65533,1):=by
    intro i i1 i2 hx
    rcases aj with rfl|rfl|rfl|rfl
    ·omega
    ·have Z:194<=b0/\b0<224:=by grind
     rw[z9t (by omega) (by omega),if_neg (by omega)]at h;exact h
    ·have Z:224<=b0/\b0<240:=by grind
     rw[z9u (by omega) (by omega) (by omega),if_neg (by omega)]at h;exact h
    ·have Z:240<=b0/\b0<245:=by grind
     rw[z9v (by omega) (by omega) (by omega) (by omega),if_neg (by omega)]at h;exact h
   clear h hn hv hc am
   refine⟨λv i=>1<=i/\i<=n/\(0<=v/\v<2097152)/\(i=1->v=v1)/\(i=2->(128<=b1/\b1<=191)/\v=64*v1+b1-128)/\(i=3->(128<=b1/\b1<=191)/\(128<=b2/\b2<=191)/\v=64*(64*v1+b1-128)+b2-128)
    /\ (i=4->(128<=b1/\b1<=191)/\(128<=b2/\b2<=191)/\(128<=b3/\b3<=191)/\v=64*(64*(64*v1+b1-128)+b2-128)+b3-128),λv i=>(n-i).toNat,by omega,λv i hi=>⟨λhl=>?_,λhl=>?_⟩⟩
   ·have ah:i<n:=by simpa using hl
    obtain⟨i1,i2,j0,j1,j2,j3,j4⟩:=hi
    rw[ix i i1 (by omega)]
    obtain⟨b,ae⟩:∃b,za s ((a:Int)+i).toNat=b:=⟨_,rfl⟩
    have ab:(i=1->b=b1)/\(i=2->b=b2)/\(i=3->b=b3):=by
     refine⟨λe=>?_,λe=>?_,λe=>?_⟩ <;> subst e
     ·rw[<-ae,e1,ap]
     ·rw[<-ae,e2,an]
     ·rw[<-ae,e3,ai]
    rw[ae]
    have ax:=yo s ((a:Int)+i).toNat
    rw[ae]at ax
    refine⟨by omega,λhq=>az i i1 ah ?_,λhq=>?_⟩
    ·have:b<128\/b>191:=by grind
     omega
    ·have aC:¬(b<128\/b>191):=by grind
     have w1:Aa .i64 (64*v)=64*v:=wrap64 (by omega) (by omega)
     have w2:Aa .i64 (64*v+b)=64*v+b:=wrap64 (by omega) (by omega)
     have w3:Aa .i64 (64*v+b-128)=64*v+b-128:=wrap64 (by omega) (by omega)
     have w4:Aa .i64 (i+1)=i+1:=wrap64 (by omega) (by omega)
     rw[w1,w2,w3,w4]
     have ay:i=1\/i=2\/i=3:=by omega
     dsimp only
     refine⟨⟨by omega,by omega,?_,by omega,?_,?_,?_⟩,by omega⟩
     ·rcases ay with rfl|rfl|rfl
      ·have:=j1 rfl;have:=ab.1 rfl;omega
      ·have:=j2 rfl;have:=ab.2.1 rfl;omega
      ·have:=j3 rfl;have:=ab.2.2 rfl;omega
     ·intro e
      have e':i=1:=by omega
      have:=j1 e';have:=ab.1 e';omega
     ·intro e
      have e':i=2:=by omega
      have:=j2 e';have:=ab.2.1 e';omega
     ·intro e
      have e':i=3:=by omega
      have:=j3 e';have:=ab.2.2 e';omega
   ·have ah:i=n:=by(have:¬i<n:=by simpa using hl);omega
    subst ah
    obtain⟨i1,i2,j0,j1,j2,j3,j4⟩:=hi
    obtain⟨g1,g2⟩:=ak v j1 j2 j3 j4
    refine⟨λhx=>g1 ?_,λhx=>g2 ?_⟩
    ·grind
    ·grind
def zsy(s:Bt)(a:Nat):Bool:=!zca (dec ((lb s).drop a))
theorem zvr{a:Nat}{R:Bool->Prop}(ha:a<s.size)(hs:(s.size:Int)<=4611686018427387904)(h:R (zsy s a)):PC Tp gl 206 [Arg.mk .str s,Arg.mk (.int .i64) a] [.bool] R:=by
 apply zb6
 refine zom hs ?_
 have hw:=ww ((lb s).drop a)
 unfold zsy zca at h
 have e:zol s (a:Int)=(((dec ((lb s).drop a)).1:Int),((dec ((lb s).drop a)).2:Int)):=by
  unfold zol
  rw[if_neg (by omega)];rfl
 rw[e]
 obtain⟨d,hd⟩:∃d,dec ((lb s).drop a)=d:=⟨_,rfl⟩
 rw[hd]at h hw ⊢
 have e1:decide (((d.2:Nat):Int)>0)=true:=by simp;omega
 have e2:((((d.1:Nat):Int))==65533)=(d.1==65533):=by rw[Az];simp;omega
 have e3:((((d.2:Nat):Int))==1)=(d.2==1):=by rw[Az];simp;omega
 show R (bif decide (((d.2:Nat):Int)>0)then !bif (((d.1:Nat):Int))==65533 then(((d.2:Nat):Int))==1 else false else false)
 rw[e1,e2,e3]
 simpa only[cond_true,Cb]using h
theorem zon{R:Int×Bool->Prop}(hs:(s.size:Int)<=4611686018427387904)(h:∀k,R (k,xy (lb s))):PC Tp gl 136 [Arg.mk .str s] [.int .i64,.bool] R:=by
 apply zap
 refine⟨λa=>0<=a/\a<=(s.size:Int)/\xy (lb s)=xy ((lb s).drop a.toNat),λa=>((s.size:Int)-a).toNat,⟨by omega,by omega,by simp⟩,λa ⟨h0,h1,h2⟩=>⟨λhc=>?_,λhc=>?_⟩⟩
 ·have aa:a<(s.size:Int):=by simpa using hc
  obtain⟨k,rfl⟩:∃k:Nat,a=(k:Int):=⟨a.toNat,by omega⟩
  simp only[Ae]at h2
  have Z:(lb s).drop k≠[]:=by
   intro e
   have:=congrArg Cd e
   simp only[As,Wl,Cv]at this;omega
  rw[xz Z]at h2
  refine zvr (by omega) hs ⟨λhg=>?_,λhg=>?_⟩
  ·have:zca (dec ((lb s).drop k))=true:=by simpa[zsy]using hg
   rw[this]at h2
   have:=h k
   rw[h2]at this;exact this
  ·have hb:zca (dec ((lb s).drop k))=false:=by simpa[zsy]using hg
   rw[hb]at h2
   simp only[A9,if_false,BD]at h2
   refine zom hs ?_
   unfold zol
   rw[if_neg (by omega)]
   simp only[Ae]
   have hw:=ww ((lb s).drop k)
   have hl:=zmb Z
   simp only[As,Wl]at hl
   have w:Aa .i64 ((k:Int)+((dec ((lb s).drop k)).2:Int))=((k+(dec ((lb s).drop k)).2:Nat):Int):=by rw[wrap64 (by omega) (by omega)];omega
   rw[w]
   refine⟨⟨by omega,by omega,?_⟩,by omega⟩
   rw[Ae];exact h2
 ·have aa:¬a<(s.size:Int):=by simpa using hc
  have:(lb s).drop a.toNat=[]:=AU (by rw[Wl];omega)
  rw[this,zjp]at h2
  rw[<-h2];exact h _
end
end Go.X
end
section
namespace Go.X
open Go Go.Proofs Go.Shelf Go.RowKit
section
theorem LF{α : Type}{x y : α}{o : Option α}(h : o = some x)(e : x = y := by kernel_rfl): o = some y := h.trans (congrArg some e)
def zjq:Go.Shelf.Ren:=⟨fun|161=>76|231=>142|227=>143|233=>144|235=>145|228=>214|197=>151|151=>215|260=>218|152=>269|137=>212|119=>300|224=>301|225=>302|217=>268|266=>299|n=>n,fun|9=>9|4=>4|3=>3|5=>5|117=>170|116=>169|0=>0|124=>173|105=>174|21=>21|119=>230|46=>177|139=>233|138=>232|n=>n,fun|3=>0|4=>1|n=>n⟩
theorem zvs:Go.Proofs.Lays.n161 Tp zjq:={
 mixed:=by kernel_rfl
 f119:=LF Tryz.func300
 f137:=LF DX
 f151:=LF Tryz.func215
 f152:=LF Tryz.func269
 f161:=LF Tryz.func76
 f197:=LF Tryz.func151
 f217:=LF Tryz.func268
 f224:=LF Tryz.func301
 f225:=LF Tryz.func302
 f227:=LF Tryz.func143
 f228:=LF Tryz.func214
 f231:=LF Tryz.func142
 f233:=LF Tryz.func144
 f235:=LF Tryz.func145
 f260:=LF Tryz.func218
 f266:=LF Tryz.func299
 t0:=Cm
 a0:=De
 z0:=C4
 v0:=Cw
 t3:=BL
 a3:=Cy
 z3:=Cg
 v3:=BS
 t4:=BP
 a4:=CM
 z4:=Cq
 v4:=BW
 t5:=BV
 a5:=CN
 z5:=Cr
 v5:=BX
 t9:=BH
 a9:=Cz
 z9:=Ci
 v9:=BU
 t21:=CO
 a21:=DF
 z21:=Dm
 v21:=CX
 t46:=Tryz.underlying177
 a46:=Tryz.isAgg177
 z46:=Tryz.sizeOf177
 v46:=Tryz.zeroValue177
 t105:=Tryz.underlying174
 a105:=Tryz.isAgg174
 z105:=Tryz.sizeOf174
 v105:=Tryz.zeroValue174
 t116:=Tryz.underlying169
 a116:=Tryz.isAgg169
 z116:=Tryz.sizeOf169
 t117:=Tryz.underlying170
 a117:=Tryz.isAgg170
 z117:=Tryz.sizeOf170
 v117:=Tryz.zeroValue170
 t119:=Tryz.underlying230
 a119:=Tryz.isAgg230
 z119:=Tryz.sizeOf230
 t124:=Tryz.underlying173
 a124:=Tryz.isAgg173
 z124:=Tryz.sizeOf173
 v124:=Tryz.zeroValue173
 t138:=Tryz.underlying232
 a138:=Tryz.isAgg232
 z138:=Tryz.sizeOf232
 v138:=Tryz.zeroValue232
 t139:=Tryz.underlying233
 a139:=Tryz.isAgg233
 z139:=Tryz.sizeOf233
 v139:=Tryz.zeroValue233
 g3:=by kernel_rfl
 g4:=by kernel_rfl }
theorem Ju(s:Bt)(c:UInt8)(hc:c.toNat<128)(w:World):
  Calls Tp 76 #[.string s,.string ⟨#[c]⟩] w λe w'=>e=.returned (.string ⟨(Lib.trimLeftB s.data.toList c).toArray⟩)/\w'=w:=Any.strings_TrimLeft_one zvs s c hc w
def zjr:Go.Shelf.Ren:=⟨fun|162=>77|232=>146|227=>143|234=>147|236=>148|228=>214|271=>216|151=>215|120=>270|197=>151|152=>269|260=>218|137=>212|119=>300|224=>301|225=>302|217=>268|266=>299|n=>n,fun|9=>9|4=>4|3=>3|5=>5|117=>170|116=>169|0=>0|124=>173|21=>21|105=>174|46=>177|119=>230|139=>233|138=>232|n=>n,fun|3=>0|4=>1|n=>n⟩
theorem zvt:Go.Proofs.Lays.n162 Tp zjr:={
 mixed:=by kernel_rfl
 f119:=LF Tryz.func300
 f120:=LF Tryz.func270
 f137:=LF DX
 f151:=LF Tryz.func215
 f152:=LF Tryz.func269
 f162:=LF Tryz.func77
 f197:=LF Tryz.func151
 f217:=LF Tryz.func268
 f224:=LF Tryz.func301
 f225:=LF Tryz.func302
 f227:=LF Tryz.func143
 f228:=LF Tryz.func214
 f232:=LF Tryz.func146
 f234:=LF Tryz.func147
 f236:=LF Tryz.func148
 f260:=LF Tryz.func218
 f266:=LF Tryz.func299
 f271:=LF Tryz.func216
 t0:=Cm
 a0:=De
 z0:=C4
 v0:=Cw
 t3:=BL
 a3:=Cy
 z3:=Cg
 v3:=BS
 t4:=BP
 a4:=CM
 z4:=Cq
 v4:=BW
 t5:=BV
 a5:=CN
 z5:=Cr
 v5:=BX
 t9:=BH
 a9:=Cz
 z9:=Ci
 v9:=BU
 t21:=CO
 a21:=DF
 z21:=Dm
 v21:=CX
 t46:=Tryz.underlying177
 a46:=Tryz.isAgg177
 z46:=Tryz.sizeOf177
 v46:=Tryz.zeroValue177
 t105:=Tryz.underlying174
 a105:=Tryz.isAgg174
 z105:=Tryz.sizeOf174
 v105:=Tryz.zeroValue174
 t116:=Tryz.underlying169
 a116:=Tryz.isAgg169
 z116:=Tryz.sizeOf169
 t117:=Tryz.underlying170
 a117:=Tryz.isAgg170
 z117:=Tryz.sizeOf170
 v117:=Tryz.zeroValue170
 t119:=Tryz.underlying230
 a119:=Tryz.isAgg230
 z119:=Tryz.sizeOf230
 t124:=Tryz.underlying173
 a124:=Tryz.isAgg173
 z124:=Tryz.sizeOf173
 v124:=Tryz.zeroValue173
 t138:=Tryz.underlying232
 a138:=Tryz.isAgg232
 z138:=Tryz.sizeOf232
 v138:=Tryz.zeroValue232
 t139:=Tryz.underlying233
 a139:=Tryz.isAgg233
 z139:=Tryz.sizeOf233
 v139:=Tryz.zeroValue233
 g3:=by kernel_rfl
 g4:=by kernel_rfl }
theorem Jf(s:Bt)(c:UInt8)(hc:c.toNat<128)(w:World)(hs:s.size<=9223372036854775807):
  Calls Tp 77 #[.string s,.string ⟨#[c]⟩] w λe w'=>e=.returned (.string ⟨(Lib.trimRightB s.data.toList c).toArray⟩)/\w'=w:=Any.strings_TrimRight_one zvt s c hc w hs
def zjs:Go.Shelf.Ren:=⟨fun|137=>212|217=>268|266=>299|n=>n,fun|9=>9|5=>5|3=>3|n=>n,fun|n=>n⟩
theorem zvu:Go.Proofs.Lays.n137 Tp zjs:={
 mixed:=by kernel_rfl
 f137:=LF DX
 f217:=LF Tryz.func268
 f266:=LF Tryz.func299
 t3:=BL
 a3:=Cy
 z3:=Cg
 v3:=BS
 t5:=BV
 a5:=CN
 z5:=Cr
 v5:=BX
 t9:=BH
 a9:=Cz
 z9:=Ci
 v9:=BU }
theorem jb(s:Bt)(c:Int)(w:World):
  Calls Tp 212 #[.string s,.int .u8 c] w λe w'=>e=.returned (.int .i64 (Lib.indexByte s.data.toList c.toNat.toUInt8))/\w'=w:=Any.strings_IndexByte zvu s c w
def zjt:Go.Shelf.Ren:=⟨fun|103=>138|210=>211|206=>227|n=>n,fun|9=>9|4=>4|24=>163|3=>3|n=>n,fun|n=>n⟩
theorem zvv:Go.Proofs.Lays.n103 Tp zjt:={
 mixed:=by kernel_rfl
 f103:=LF Tryz.func138
 f206:=LF Tryz.func227
 f210:=LF Tryz.func211
 t3:=BL
 a3:=Cy
 z3:=Cg
 v3:=BS
 t4:=BP
 a4:=CM
 z4:=Cq
 v4:=BW
 t9:=BH
 a9:=Cz
 z9:=Ci
 v9:=BU
 t24:=Tryz.underlying163
 a24:=Tryz.isAgg163
 z24:=Tryz.sizeOf163
 v24:=Tryz.zeroValue163 }
theorem zat(s p:Bt)(w:World):
  Calls Tp 138 #[.string s,.string p] w λe w'=>e=.returned (.tuple #[.string ⟨(Lib.trimPrefix s.data.toList p.data.toList).toArray⟩,.bool (Lib.hasPrefix s.data.toList p.data.toList)])/\w'=w:=Any.strings_CutPrefix zvv s p w
def zju:Go.Shelf.Ren:=⟨fun|242=>153|278=>220|n=>n,fun|37=>110|21=>21|51=>236|4=>4|5=>5|46=>177|n=>n,fun|n=>n⟩
theorem zvw:Go.Proofs.Lays.n242 Tp zju:={
 mixed:=by kernel_rfl
 f242:=LF Tryz.func153
 f278:=LF Tryz.func220
 t4:=BP
 a4:=CM
 z4:=Cq
 v4:=BW
 t5:=BV
 a5:=CN
 z5:=Cr
 v5:=BX
 t21:=CO
 a21:=DF
 z21:=Dm
 v21:=CX
 t37:=Tryz.underlying110
 a37:=Tryz.isAgg110
 z37:=Tryz.sizeOf110
 v37:=Tryz.zeroValue110
 t46:=Tryz.underlying177
 a46:=Tryz.isAgg177
 z46:=Tryz.sizeOf177
 v46:=Tryz.zeroValue177
 t51:=Tryz.underlying236
 a51:=Tryz.isAgg236
 z51:=Tryz.sizeOf236
 v51:=Tryz.zeroValue236 }
theorem Jg(B:Nat)(v:Value)(n:Nat)(xs:List Value)(r:Int)(af:-2147483648<=r)(ab:r<=2147483647)(w:World)(aa:w.ownsRow B 5 1 v n xs)(Z:n+4<=140737488355328)(ae:B<=w.heap.size):
  Calls Tp 153 #[v,.int .i32 r] w λe w'=>∃v',e=.returned v'/\w'.ownsRow B 5 1 v' (n+(Lib.runeCells r).length) (xs++Lib.runeCells r)/\∃o,(w.alloc o).grownBy w' v.ownBlock:=Any.utf8_AppendRune_plain zvw (by kernel_rfl) B v n xs r af ab w aa Z ae
def zg2:Go.Shelf.Ren:=⟨fun|171=>79|243=>149|246=>154|283=>221|284=>222|285=>223|286=>224|129=>252|317=>271|318=>272|319=>273|320=>274|337=>303|338=>304|n=>n,fun|3=>3|9=>9|2=>2|4=>4|171=>237|0=>0|53=>238|37=>110|5=>5|173=>241|212=>273|51=>236|20=>20|213=>274|46=>177|232=>306|233=>307|n=>n,fun|17=>2|18=>6|19=>7|n=>n⟩
theorem zsz:Go.Proofs.LaysM.n171 Tp zg2:={
 mixed:=by kernel_rfl
 f129:=LF Tryz.func252
 f171:=LF Tryz.func79
 f243:=LF Tryz.func149
 f246:=LF Tryz.func154
 f283:=LF Tryz.func221
 f284:=LF Tryz.func222
 f285:=LF Tryz.func223
 f286:=LF Tryz.func224
 f317:=LF Tryz.func271
 f318:=LF Tryz.func272
 f319:=LF Tryz.func273
 f320:=LF Tryz.func274
 f337:=LF Tryz.func303
 f338:=LF Tryz.func304
 t0:=Cm
 a0:=De
 z0:=C4
 v0:=Cw
 t2:=Tryz.underlying2
 a2:=Tryz.isAgg2
 z2:=Tryz.sizeOf2
 v2:=Tryz.zeroValue2
 t3:=BL
 a3:=Cy
 z3:=Cg
 v3:=BS
 t4:=BP
 a4:=CM
 z4:=Cq
 v4:=BW
 t5:=BV
 a5:=CN
 z5:=Cr
 v5:=BX
 t9:=BH
 a9:=Cz
 z9:=Ci
 v9:=BU
 t20:=Tryz.underlying20
 a20:=Tryz.isAgg20
 z20:=Tryz.sizeOf20
 v20:=Tryz.zeroValue20
 t37:=Tryz.underlying110
 a37:=Tryz.isAgg110
 z37:=Tryz.sizeOf110
 v37:=Tryz.zeroValue110
 t46:=Tryz.underlying177
 a46:=Tryz.isAgg177
 z46:=Tryz.sizeOf177
 v46:=Tryz.zeroValue177
 t51:=Tryz.underlying236
 a51:=Tryz.isAgg236
 z51:=Tryz.sizeOf236
 v51:=Tryz.zeroValue236
 t53:=Tryz.underlying238
 a53:=Tryz.isAgg238
 z53:=Tryz.sizeOf238
 v53:=Tryz.zeroValue238
 t171:=Tryz.underlying237
 a171:=Tryz.isAgg237
 z171:=Tryz.sizeOf237
 v171:=Tryz.zeroValue237
 t173:=Tryz.underlying241
 a173:=Tryz.isAgg241
 z173:=Tryz.sizeOf241
 v173:=Tryz.zeroValue241
 t212:=Tryz.underlying273
 a212:=Tryz.isAgg273
 z212:=Tryz.sizeOf273
 v212:=Tryz.zeroValue273
 t213:=Tryz.underlying274
 a213:=Tryz.isAgg274
 z213:=Tryz.sizeOf274
 t232:=Tryz.underlying306
 a232:=Tryz.isAgg306
 z232:=Tryz.sizeOf306
 v232:=Tryz.zeroValue306
 t233:=Tryz.underlying307
 a233:=Tryz.isAgg307
 z233:=Tryz.sizeOf307
 v233:=Tryz.zeroValue307
 g17:=by kernel_rfl
 g18:=by kernel_rfl
 g19:=by kernel_rfl
 i0:=by kernel_rfl
 i2:=by kernel_rfl
 i3:=by kernel_rfl
 i4:=by kernel_rfl
 i5:=by kernel_rfl
 i9:=by kernel_rfl
 i20:=by kernel_rfl
 i37:=by kernel_rfl
 i46:=by kernel_rfl
 i51:=by kernel_rfl
 i53:=by kernel_rfl
 i171:=by kernel_rfl
 i173:=by kernel_rfl
 i212:=by kernel_rfl
 i232:=by kernel_rfl
 i233:=by kernel_rfl
 m17:=by kernel_rfl
 m18:=by kernel_rfl
 m19:=by kernel_rfl }
open Go.RowKit Go.Sort Go.Lib in
theorem zg3(n : Int)(h0 : -9223372036854775808 ≤ n)(h1 : n ≤ 9223372036854775807)(w : World)(htab : Lib.TabIs Tp w "internal/strconv.uint64pow10" .u64 Lib.pow10Tab):
  Calls Tp 79 #[.int .i64 n] w λe w'=>e=.returned (.string ⟨(Lib.itoa n).toArray⟩)/\∃k os,w'=grow (w.drewN k) os:=Any.strconv_Itoa zsz n h0 h1 w htab
def zg4:Go.Shelf.Ren:=⟨fun|245=>267|279=>295|280=>296|281=>297|282=>298|316=>317|171=>79|205=>318|243=>149|246=>154|283=>221|284=>222|285=>223|286=>224|129=>252|317=>271|318=>272|319=>273|320=>274|337=>303|338=>304|n=>n,fun|9=>9|3=>3|75=>114|167=>287|4=>4|168=>288|210=>304|37=>110|0=>0|127=>181|145=>315|143=>313|2=>2|171=>237|53=>238|5=>5|173=>241|212=>273|51=>236|20=>20|213=>274|46=>177|232=>306|233=>307|80=>122|n=>n,fun|15=>4|16=>5|17=>2|18=>6|19=>7|n=>n⟩
theorem zs0:Go.Proofs.LaysC.n245 Tp zg4:={
 mixed:=by kernel_rfl
 f129:=LF Tryz.func252
 f171:=LF Tryz.func79
 f205:=LF Tryz.func318
 f243:=LF Tryz.func149
 f245:=LF Tryz.func267
 f246:=LF Tryz.func154
 f279:=LF Tryz.func295
 f280:=LF Tryz.func296
 f281:=LF Tryz.func297
 f282:=LF Tryz.func298
 f283:=LF Tryz.func221
 f284:=LF Tryz.func222
 f285:=LF Tryz.func223
 f286:=LF Tryz.func224
 f316:=LF Tryz.func317
 f317:=LF Tryz.func271
 f318:=LF Tryz.func272
 f319:=LF Tryz.func273
 f320:=LF Tryz.func274
 f337:=LF Tryz.func303
 f338:=LF Tryz.func304
 t0:=Cm
 a0:=De
 z0:=C4
 v0:=Cw
 t2:=Tryz.underlying2
 a2:=Tryz.isAgg2
 z2:=Tryz.sizeOf2
 v2:=Tryz.zeroValue2
 t3:=BL
 a3:=Cy
 z3:=Cg
 v3:=BS
 t4:=BP
 a4:=CM
 z4:=Cq
 v4:=BW
 t5:=BV
 a5:=CN
 z5:=Cr
 v5:=BX
 t9:=BH
 a9:=Cz
 z9:=Ci
 v9:=BU
 t20:=Tryz.underlying20
 a20:=Tryz.isAgg20
 z20:=Tryz.sizeOf20
 v20:=Tryz.zeroValue20
 t37:=Tryz.underlying110
 a37:=Tryz.isAgg110
 z37:=Tryz.sizeOf110
 v37:=Tryz.zeroValue110
 t46:=Tryz.underlying177
 a46:=Tryz.isAgg177
 z46:=Tryz.sizeOf177
 v46:=Tryz.zeroValue177
 t51:=Tryz.underlying236
 a51:=Tryz.isAgg236
 z51:=Tryz.sizeOf236
 v51:=Tryz.zeroValue236
 t53:=Tryz.underlying238
 a53:=Tryz.isAgg238
 z53:=Tryz.sizeOf238
 v53:=Tryz.zeroValue238
 t75:=Tryz.underlying114
 a75:=Tryz.isAgg114
 z75:=Tryz.sizeOf114
 v75:=Tryz.zeroValue114
 t127:=Tryz.underlying181
 a127:=Tryz.isAgg181
 z127:=Tryz.sizeOf181
 v127:=Tryz.zeroValue181
 t143:=Tryz.underlying313
 a143:=Tryz.isAgg313
 z143:=Tryz.sizeOf313
 v143:=Tryz.zeroValue313
 t145:=Tryz.underlying315
 a145:=Tryz.isAgg315
 z145:=Tryz.sizeOf315
 v145:=Tryz.zeroValue315
 t167:=Tryz.underlying287
 a167:=Tryz.isAgg287
 z167:=Tryz.sizeOf287
 v167:=Tryz.zeroValue287
 t168:=Tryz.underlying288
 a168:=Tryz.isAgg288
 z168:=Tryz.sizeOf288
 v168:=Tryz.zeroValue288
 t171:=Tryz.underlying237
 a171:=Tryz.isAgg237
 z171:=Tryz.sizeOf237
 v171:=Tryz.zeroValue237
 t173:=Tryz.underlying241
 a173:=Tryz.isAgg241
 z173:=Tryz.sizeOf241
 v173:=Tryz.zeroValue241
 t210:=Tryz.underlying304
 a210:=Tryz.isAgg304
 z210:=Tryz.sizeOf304
 v210:=Tryz.zeroValue304
 t212:=Tryz.underlying273
 a212:=Tryz.isAgg273
 z212:=Tryz.sizeOf273
 v212:=Tryz.zeroValue273
 t213:=Tryz.underlying274
 a213:=Tryz.isAgg274
 z213:=Tryz.sizeOf274
 t232:=Tryz.underlying306
 a232:=Tryz.isAgg306
 z232:=Tryz.sizeOf306
 v232:=Tryz.zeroValue306
 t233:=Tryz.underlying307
 a233:=Tryz.isAgg307
 z233:=Tryz.sizeOf307
 v233:=Tryz.zeroValue307
 g15:=by kernel_rfl
 g16:=by kernel_rfl
 g17:=by kernel_rfl
 g18:=by kernel_rfl
 g19:=by kernel_rfl
 t80:=Tryz.underlying122
 a80:=Tryz.isAgg122
 z80:=Tryz.sizeOf122
 v80:=Tryz.zeroValue122
 i0:=by kernel_rfl
 i2:=by kernel_rfl
 i3:=by kernel_rfl
 i4:=by kernel_rfl
 i5:=by kernel_rfl
 i9:=by kernel_rfl
 i20:=by kernel_rfl
 i37:=by kernel_rfl
 i46:=by kernel_rfl
 i51:=by kernel_rfl
 i53:=by kernel_rfl
 i75:=by kernel_rfl
 i80:=by kernel_rfl
 i127:=by kernel_rfl
 i143:=by kernel_rfl
 i145:=by kernel_rfl
 i167:=by kernel_rfl
 i168:=by kernel_rfl
 i171:=by kernel_rfl
 i173:=by kernel_rfl
 i210:=by kernel_rfl
 i212:=by kernel_rfl
 i232:=by kernel_rfl
 i233:=by kernel_rfl
 m15:=by kernel_rfl
 m16:=by kernel_rfl
 m17:=by kernel_rfl
 m18:=by kernel_rfl
 m19:=by kernel_rfl
 c0:=by kernel_rfl
 c2:=by kernel_rfl
 c3:=by kernel_rfl
 c4:=by kernel_rfl
 c5:=by kernel_rfl
 c9:=by kernel_rfl
 c20:=by kernel_rfl
 c37:=by kernel_rfl
 c46:=by kernel_rfl
 c51:=by kernel_rfl
 c53:=by kernel_rfl
 c75:=by kernel_rfl
 c80:=by kernel_rfl
 c127:=by kernel_rfl
 c143:=by kernel_rfl
 c145:=by kernel_rfl
 c167:=by kernel_rfl
 c168:=by kernel_rfl
 c171:=by kernel_rfl
 c173:=by kernel_rfl
 c210:=by kernel_rfl
 c212:=by kernel_rfl
 c213:=by kernel_rfl
 c232:=by kernel_rfl
 c233:=by kernel_rfl }
theorem Yj(fn s:Bt)(base Z:Int)(ev:Value)(w:World)(aa:s.size<=281474976710656)(hv:w.cell? ⟨4,0,none⟩=some ev)(ab:ev=.nilIface\/∃te pe,ev=.iface te pe):
  Calls Tp 267 #[.string fn,.string s,.int .i64 base,.int .i64 Z,.iface 287 (.int .i64 2)] w λe w'=>∃N,e=.returned (.iface 288 (.pointer (some ⟨N,0,none⟩)))/\w.heap.size<=N/\w'.heap[N]?=some (.cells #[.string fn,.string s,ev] 304 (0,0))/\Below w.heap.size w w':=Any.strconv_toError_syntax zs0 fn s base Z ev w aa hv ab
def zg5:Go.Shelf.Ren:=⟨fun|172=>210|244=>266|245=>267|247=>294|279=>295|280=>296|281=>297|282=>298|287=>316|316=>317|171=>79|205=>318|321=>325|322=>326|243=>149|246=>154|283=>221|284=>222|285=>223|286=>224|129=>252|317=>271|318=>272|319=>273|320=>274|337=>303|338=>304|n=>n,fun|9=>9|3=>3|75=>114|76=>117|4=>4|5=>5|167=>287|37=>110|0=>0|85=>277|2=>2|168=>288|53=>238|175=>300|46=>177|210=>304|127=>181|145=>315|143=>313|21=>21|171=>237|173=>241|212=>273|51=>236|20=>20|213=>274|232=>306|233=>307|80=>122|n=>n,fun|15=>4|16=>5|17=>2|18=>6|19=>7|n=>n⟩
theorem zdb:Go.Proofs.LaysC.n172 Tp zg5:={
 mixed:=by kernel_rfl
 f129:=LF Tryz.func252
 f171:=LF Tryz.func79
 f172:=LF Tryz.func210
 f205:=LF Tryz.func318
 f243:=LF Tryz.func149
 f244:=LF Tryz.func266
 f245:=LF Tryz.func267
 f246:=LF Tryz.func154
 f247:=LF Tryz.func294
 f279:=LF Tryz.func295
 f280:=LF Tryz.func296
 f281:=LF Tryz.func297
 f282:=LF Tryz.func298
 f283:=LF Tryz.func221
 f284:=LF Tryz.func222
 f285:=LF Tryz.func223
 f286:=LF Tryz.func224
 f287:=LF Tryz.func316
 f316:=LF Tryz.func317
 f317:=LF Tryz.func271
 f318:=LF Tryz.func272
 f319:=LF Tryz.func273
 f320:=LF Tryz.func274
 f321:=LF Tryz.func325
 f322:=LF Tryz.func326
 f337:=LF Tryz.func303
 f338:=LF Tryz.func304
 t0:=Cm
 a0:=De
 z0:=C4
 v0:=Cw
 t2:=Tryz.underlying2
 a2:=Tryz.isAgg2
 z2:=Tryz.sizeOf2
 v2:=Tryz.zeroValue2
 t3:=BL
 a3:=Cy
 z3:=Cg
 v3:=BS
 t4:=BP
 a4:=CM
 z4:=Cq
 v4:=BW
 t5:=BV
 a5:=CN
 z5:=Cr
 v5:=BX
 t9:=BH
 a9:=Cz
 z9:=Ci
 v9:=BU
 t20:=Tryz.underlying20
 a20:=Tryz.isAgg20
 z20:=Tryz.sizeOf20
 v20:=Tryz.zeroValue20
 t21:=CO
 a21:=DF
 z21:=Dm
 v21:=CX
 t37:=Tryz.underlying110
 a37:=Tryz.isAgg110
 z37:=Tryz.sizeOf110
 v37:=Tryz.zeroValue110
 t46:=Tryz.underlying177
 a46:=Tryz.isAgg177
 z46:=Tryz.sizeOf177
 v46:=Tryz.zeroValue177
 t51:=Tryz.underlying236
 a51:=Tryz.isAgg236
 z51:=Tryz.sizeOf236
 v51:=Tryz.zeroValue236
 t53:=Tryz.underlying238
 a53:=Tryz.isAgg238
 z53:=Tryz.sizeOf238
 v53:=Tryz.zeroValue238
 t75:=Tryz.underlying114
 a75:=Tryz.isAgg114
 z75:=Tryz.sizeOf114
 v75:=Tryz.zeroValue114
 t76:=Tryz.underlying117
 a76:=Tryz.isAgg117
 z76:=Tryz.sizeOf117
 v76:=Tryz.zeroValue117
 t85:=Tryz.underlying277
 a85:=Tryz.isAgg277
 z85:=Tryz.sizeOf277
 v85:=Tryz.zeroValue277
 t127:=Tryz.underlying181
 a127:=Tryz.isAgg181
 z127:=Tryz.sizeOf181
 v127:=Tryz.zeroValue181
 t143:=Tryz.underlying313
 a143:=Tryz.isAgg313
 z143:=Tryz.sizeOf313
 v143:=Tryz.zeroValue313
 t145:=Tryz.underlying315
 a145:=Tryz.isAgg315
 z145:=Tryz.sizeOf315
 v145:=Tryz.zeroValue315
 t167:=Tryz.underlying287
 a167:=Tryz.isAgg287
 z167:=Tryz.sizeOf287
 v167:=Tryz.zeroValue287
 t168:=Tryz.underlying288
 a168:=Tryz.isAgg288
 z168:=Tryz.sizeOf288
 v168:=Tryz.zeroValue288
 t171:=Tryz.underlying237
 a171:=Tryz.isAgg237
 z171:=Tryz.sizeOf237
 v171:=Tryz.zeroValue237
 t173:=Tryz.underlying241
 a173:=Tryz.isAgg241
 z173:=Tryz.sizeOf241
 v173:=Tryz.zeroValue241
 t175:=Tryz.underlying300
 a175:=Tryz.isAgg300
 z175:=Tryz.sizeOf300
 v175:=Tryz.zeroValue300
 t210:=Tryz.underlying304
 a210:=Tryz.isAgg304
 z210:=Tryz.sizeOf304
 v210:=Tryz.zeroValue304
 t212:=Tryz.underlying273
 a212:=Tryz.isAgg273
 z212:=Tryz.sizeOf273
 v212:=Tryz.zeroValue273
 t213:=Tryz.underlying274
 a213:=Tryz.isAgg274
 z213:=Tryz.sizeOf274
 t232:=Tryz.underlying306
 a232:=Tryz.isAgg306
 z232:=Tryz.sizeOf306
 v232:=Tryz.zeroValue306
 t233:=Tryz.underlying307
 a233:=Tryz.isAgg307
 z233:=Tryz.sizeOf307
 v233:=Tryz.zeroValue307
 g15:=by kernel_rfl
 g16:=by kernel_rfl
 g17:=by kernel_rfl
 g18:=by kernel_rfl
 g19:=by kernel_rfl
 t80:=Tryz.underlying122
 a80:=Tryz.isAgg122
 z80:=Tryz.sizeOf122
 v80:=Tryz.zeroValue122
 i0:=by kernel_rfl
 i2:=by kernel_rfl
 i3:=by kernel_rfl
 i4:=by kernel_rfl
 i5:=by kernel_rfl
 i9:=by kernel_rfl
 i20:=by kernel_rfl
 i21:=by kernel_rfl
 i37:=by kernel_rfl
 i46:=by kernel_rfl
 i51:=by kernel_rfl
 i53:=by kernel_rfl
 i75:=by kernel_rfl
 i76:=by kernel_rfl
 i80:=by kernel_rfl
 i85:=by kernel_rfl
 i127:=by kernel_rfl
 i143:=by kernel_rfl
 i145:=by kernel_rfl
 i167:=by kernel_rfl
 i168:=by kernel_rfl
 i171:=by kernel_rfl
 i173:=by kernel_rfl
 i175:=by kernel_rfl
 i210:=by kernel_rfl
 i212:=by kernel_rfl
 i232:=by kernel_rfl
 i233:=by kernel_rfl
 m15:=by kernel_rfl
 m16:=by kernel_rfl
 m17:=by kernel_rfl
 m18:=by kernel_rfl
 m19:=by kernel_rfl
 c0:=by kernel_rfl
 c2:=by kernel_rfl
 c3:=by kernel_rfl
 c4:=by kernel_rfl
 c5:=by kernel_rfl
 c9:=by kernel_rfl
 c20:=by kernel_rfl
 c21:=by kernel_rfl
 c37:=by kernel_rfl
 c46:=by kernel_rfl
 c51:=by kernel_rfl
 c53:=by kernel_rfl
 c75:=by kernel_rfl
 c76:=by kernel_rfl
 c80:=by kernel_rfl
 c85:=by kernel_rfl
 c127:=by kernel_rfl
 c143:=by kernel_rfl
 c145:=by kernel_rfl
 c167:=by kernel_rfl
 c168:=by kernel_rfl
 c171:=by kernel_rfl
 c173:=by kernel_rfl
 c175:=by kernel_rfl
 c210:=by kernel_rfl
 c212:=by kernel_rfl
 c213:=by kernel_rfl
 c232:=by kernel_rfl
 c233:=by kernel_rfl }
def zjv:Go.Shelf.Ren:=⟨fun|321=>325|n=>n,fun|5=>5|n=>n,fun|n=>n⟩
theorem zvx:Go.Proofs.Lays.n321 Tp zjv:={
 mixed:=by kernel_rfl
 f321:=LF Tryz.func325
 t5:=BV
 a5:=CN
 z5:=Cr
 v5:=BX }
theorem Yk(c:Int)(w:World):
  Calls Tp 325 #[.int .u8 c] w λe w'=>e=.returned (.int .u8 (bits .or .u8 c 32))/\w'=w:=Any.internal_strconv_lower zvx c w
theorem zdc(s:Bt)(Z:s.size<=9223372036854775806)(v:Int)(h:Lib.atoiAll s.data.toList=.ok v)(w:World):
  Calls Tp 210 #[.string s] w λe w'=>e=.returned (.tuple #[.int .i64 v,.nilIface])/\(w'=w\/∃t,w'=Lib.bytesWorld w 5 t):=Any.strconv_Atoi_ok zdb s Z v h w
theorem Wm(s:Bt)(Z:s.size<=281474976710656)(h:Lib.atoiAll s.data.toList=Lib.atoiAll [])(ev:Value)(w:World)(hv:w.cell? ⟨4,0,none⟩=some ev)(aa:ev=.nilIface\/∃te pe,ev=.iface te pe):
  Calls Tp 210 #[.string s] w λe w'=>∃N,e=.returned (.tuple #[.int .i64 (0),.iface 288 (.pointer (some ⟨N,0,none⟩))])/\w.heap.size<=N/\w'.heap[N]?=some (.cells #[.string ⟨#[65,116,111,105]⟩,.string s,ev] 304 (0,0))/\Below w.heap.size w w':=Any.strconv_Atoi_syntax zdb s Z h ev w hv aa
theorem Xk(s:Bt)(Z:s.size<=281474976710656)(h:Lib.atoiAll s.data.toList=.range)(ev:Value)(w:World)(hv:w.cell? ⟨5,0,none⟩=some ev)(aa:ev=.nilIface\/∃te pe,ev=.iface te pe):
  Calls Tp 210 #[.string s] w λe w'=>∃N,e=.returned (.tuple #[.int .i64 (Lib.atoiSat s.data.toList),.iface 288 (.pointer (some ⟨N,0,none⟩))])/\w.heap.size<=N/\w'.heap[N]?=some (.cells #[.string ⟨#[65,116,111,105]⟩,.string s,ev] 304 (0,0))/\Below w.heap.size w w':=Any.strconv_Atoi_range zdb s Z h ev w hv aa
def zmc:Go.Shelf.Ren:=⟨fun|99=>156|206=>227|n=>n,fun|9=>9|4=>4|3=>3|n=>n,fun|n=>n⟩
theorem zza:Go.Proofs.Lays.n99 Tp zmc:={
 mixed:=by kernel_rfl
 f99:=LF Tryz.func156
 f206:=LF Tryz.func227
 t3:=BL
 a3:=Cy
 z3:=Cg
 v3:=BS
 t4:=BP
 a4:=CM
 z4:=Cq
 v4:=BW
 t9:=BH
 a9:=Cz
 z9:=Ci
 v9:=BU }
open Go.RowKit Go.Lib in
theorem zau(s p:Bt)(w:World):
  Calls Tp 156 #[.string s,.string p] w λe w'=>e=.returned (.bool (Lib.hasPrefix s.data.toList p.data.toList))/\w'=w:=Any.strings_HasPrefix zza s p w
def zjw:Go.Shelf.Ren:=⟨fun|101=>140|208=>213|206=>227|n=>n,fun|9=>9|4=>4|3=>3|n=>n,fun|n=>n⟩
theorem zvy:Go.Proofs.Lays.n101 Tp zjw:={
 mixed:=by kernel_rfl
 f101:=LF Tryz.func140
 f206:=LF Tryz.func227
 f208:=LF Tryz.func213
 t3:=BL
 a3:=Cy
 z3:=Cg
 v3:=BS
 t4:=BP
 a4:=CM
 z4:=Cq
 v4:=BW
 t9:=BH
 a9:=Cz
 z9:=Ci
 v9:=BU }
open Go.RowKit Go.Lib in
theorem Xl(s p:Bt)(w:World):
  Calls Tp 140 #[.string s,.string p] w λe w'=>e=.returned (.string ⟨(Lib.trimPrefix s.data.toList p.data.toList).toArray⟩)/\w'=w:=Any.strings_TrimPrefix zvy s p w
def zjx:Go.Shelf.Ren:=⟨fun|197=>151|260=>218|n=>n,fun|9=>9|21=>21|3=>3|4=>4|5=>5|105=>174|119=>230|0=>0|46=>177|139=>233|138=>232|n=>n,fun|3=>0|4=>1|n=>n⟩
theorem zvz:Go.Proofs.Lays.n197 Tp zjx:={
 mixed:=by kernel_rfl
 f197:=LF Tryz.func151
 f260:=LF Tryz.func218
 t0:=Cm
 a0:=De
 z0:=C4
 v0:=Cw
 t3:=BL
 a3:=Cy
 z3:=Cg
 v3:=BS
 t4:=BP
 a4:=CM
 z4:=Cq
 v4:=BW
 t5:=BV
 a5:=CN
 z5:=Cr
 v5:=BX
 t9:=BH
 a9:=Cz
 z9:=Ci
 v9:=BU
 t21:=CO
 a21:=DF
 z21:=Dm
 v21:=CX
 t46:=Tryz.underlying177
 a46:=Tryz.isAgg177
 z46:=Tryz.sizeOf177
 v46:=Tryz.zeroValue177
 t105:=Tryz.underlying174
 a105:=Tryz.isAgg174
 z105:=Tryz.sizeOf174
 v105:=Tryz.zeroValue174
 t119:=Tryz.underlying230
 a119:=Tryz.isAgg230
 z119:=Tryz.sizeOf230
 t138:=Tryz.underlying232
 a138:=Tryz.isAgg232
 z138:=Tryz.sizeOf232
 v138:=Tryz.zeroValue232
 t139:=Tryz.underlying233
 a139:=Tryz.isAgg233
 z139:=Tryz.sizeOf233
 v139:=Tryz.zeroValue233
 g3:=by kernel_rfl
 g4:=by kernel_rfl }
def zjy:Go.Shelf.Ren:=⟨fun|150=>209|153=>265|152=>269|226=>293|227=>143|228=>214|137=>212|119=>300|224=>301|225=>302|217=>268|266=>299|n=>n,fun|9=>9|4=>4|3=>3|5=>5|21=>21|117=>170|116=>169|0=>0|46=>177|124=>173|n=>n,fun|n=>n⟩
theorem zv0:Go.Proofs.Lays.n150 Tp zjy:={
 mixed:=by kernel_rfl
 f119:=LF Tryz.func300
 f137:=LF DX
 f150:=LF Tryz.func209
 f152:=LF Tryz.func269
 f153:=LF Tryz.func265
 f217:=LF Tryz.func268
 f224:=LF Tryz.func301
 f225:=LF Tryz.func302
 f226:=LF Tryz.func293
 f227:=LF Tryz.func143
 f228:=LF Tryz.func214
 f266:=LF Tryz.func299
 t0:=Cm
 a0:=De
 z0:=C4
 v0:=Cw
 t3:=BL
 a3:=Cy
 z3:=Cg
 v3:=BS
 t4:=BP
 a4:=CM
 z4:=Cq
 v4:=BW
 t5:=BV
 a5:=CN
 z5:=Cr
 v5:=BX
 t9:=BH
 a9:=Cz
 z9:=Ci
 v9:=BU
 t21:=CO
 a21:=DF
 z21:=Dm
 v21:=CX
 t46:=Tryz.underlying177
 a46:=Tryz.isAgg177
 z46:=Tryz.sizeOf177
 v46:=Tryz.zeroValue177
 t116:=Tryz.underlying169
 a116:=Tryz.isAgg169
 z116:=Tryz.sizeOf169
 t117:=Tryz.underlying170
 a117:=Tryz.isAgg170
 z117:=Tryz.sizeOf170
 v117:=Tryz.zeroValue170
 t124:=Tryz.underlying173
 a124:=Tryz.isAgg173
 z124:=Tryz.sizeOf173
 v124:=Tryz.zeroValue173 }
open Go.RowKit Go.Lib in
theorem Qf(s Z:Bt)(w:World)(hs:s.size<4294967281)(aa:Z.size<4294967281)(ae:∀(j:Nat) b,s.data.toList[j]?=some b->b.toNat<128)(ab:∀(j:Nat) b,Z.data.toList[j]?=some b->b.toNat<128):
  Calls Tp 209 #[.string s,.string Z] w λe w'=>e=.returned (.bool (Lib.containsAny s.data.toList Z.data.toList))/\Below w.heap.size w w':=Any.strings_ContainsAny_laid zv0 (by kernel_rfl) s Z w hs aa ae ab
open Go.RowKit Go.Lib in
theorem Qy(s:Bt)(w:World)(hT:Lib.Utf8Tabs 0 1 w):
  Calls Tp 151 #[.string s] w λe w'=>e=.returned (.tuple #[.int .i32 (Lib.decodeGo s).1,.int .i64 (Lib.decodeGo s).2])/\Below w.heap.size w w':=Any.utf8_DecodeRuneInString zvz s w hT
end
end Go.X
end
section
namespace Go.X
open Go Go.X Go.Proofs Go.RowKit
section
variable {gl M:Fr} {s:Bt}
theorem Wn{c:Int}{R:Int->Prop}(h:R (Lib.indexByte (lb s) c.toNat.toUInt8)):PC Tp gl 212 [Arg.mk .str s,Arg.mk (.int .u8) c] [.int .i64] R:=
 PC.of_same rfl (λ_=>zvm _ _) h λw _=>jb s c w
theorem zmd{s p:Bt}{R:Bt×Bool->Prop}(h:R (bl (Lib.trimPrefix (lb s) (lb p)),Lib.hasPrefix (lb s) (lb p))):PC Tp gl 138 [Arg.mk .str s,Arg.mk .str p] [.str,.bool] R:=
 PC.of_same rfl (λM=>⟨[_,_],⟨_,_,rfl,rfl,_,rfl,rfl⟩,rfl⟩) h λw _=>zat s p w
theorem zjz{s p:Bt}{R:Bt->Prop}(h:R (bl (Lib.trimPrefix (lb s) (lb p)))):PC Tp gl 140 [Arg.mk .str s,Arg.mk .str p] [.str] R:=
 PC.of_same rfl (λ_=>zjm _) h λw _=>Xl s p w
theorem zoo{c:UInt8}(hc:c.toNat<128){R:Bt->Prop}(h:R (bl (Lib.trimLeftB (lb s) c))):PC Tp gl 76 [Arg.mk .str s,Arg.mk .str ⟨#[c]⟩] [.str] R:=
 PC.of_same rfl (λ_=>zjm _) h λw _=>Ju s c hc w
theorem zme{c:UInt8}(hc:c.toNat<128)(hs:s.size<=9223372036854775807){R:Bt->Prop}(h:R (bl (Lib.trimRightB (lb s) c))):PC Tp gl 77 [Arg.mk .str s,Arg.mk .str ⟨#[c]⟩] [.str] R:=
 PC.of_same rfl (λ_=>zjm _) h λw _=>Jf s c hc w hs
def z0p(gl:Fr):Prop:=∃(cs:Array Value) (m:Int),gl 3=some cs/\cs[0]?=some (.int .i64 m)
theorem zga(w:World)(n:Nat):Below w.heap.size w (w.drewN n):=⟨rfl,rfl,rfl,Ad _,λ_ _=>rfl⟩
def Tabs(gl:Fr):Prop:=(∃cs:Array Value,gl 0=some cs/\∀c,c<256->cs[c]?=some (.int .u8 (Lib.firstT c)))/\∃cs:Array Value,gl 1=some cs/\∀i,i<16->cs[2*i]?=some (.int .u8 (Lib.accLo i))/\cs[2*i+1]?=some (.int .u8 (Lib.accHi i))
theorem Tabs.at(h:Tabs gl){w:World}(hw:AgM gl w.heap):Lib.Utf8Tabs 0 1 w:=by
 obtain⟨⟨c1,a1,b1⟩,c2,a2,b2⟩:=h
 exact⟨λc hc=>hw.glob a1 (b1 c hc),λi hi=>⟨hw.glob a2 (b2 i hi).1,hw.glob a2 (b2 i hi).2⟩⟩
theorem zmf(hg:Tabs gl){R:Int×Int->Prop}(h:R ((Lib.decodeGo s).1,(Lib.decodeGo s).2)):PC Tp gl 151 [Arg.mk .str s] [.int .i32,.int .i64] R:=
 PC.of_scal rfl (λM=>⟨[_,_],⟨_,_,rfl,rfl,_,rfl,rfl⟩,rfl⟩) h λw hw=>Qy s w (hg.at hw)
theorem zs1(w:World)(k:Nat)(os:Array Obj):Below w.heap.size w (Go.Sort.grow (w.drewN k) os):=⟨rfl,rfl,rfl,by simp[Go.Sort.grow,World.drewN],λi hi=>by
 show((w.drewN k).heap++os)[i]?=_
 exact Cn hi⟩
def Pow(gl : Fr): Prop := ∃ b cs, Tryz.prog.globalNamed "internal/strconv.uint64pow10" = some b ∧ gl b = some cs ∧ cs = (Lib.pow10Tab.map λz => Value.int .u64 z).toArray
theorem zv1(hg:Pow gl){n:Int}(h0:-9223372036854775808<=n)(h1:n<=9223372036854775807){R:Bt->Prop}(h:R (bl (Lib.itoa n))):PC Tp gl 79 [Arg.mk (.int .i64) n] [.str] R:=by
 obtain⟨b,cs,e1,e2,e3⟩:=hg
 refine PC.of_scal rfl (λ_=>zjm _) h λw hw=>(zg3 n h0 h1 w ?_).mono λe w' ⟨he,k,os,Z⟩=>⟨he,Z ▸ zs1 w k os⟩
 obtain⟨T,m,e4⟩:=hw b cs e2
 unfold Lib.TabIs World.var?
 rw[e1]
 simp only[CF,e4,e3]
def z2m(l:List UInt8):Int×Bool:=match Lib.atoiAll l with
 |.ok v=>(v,true)
 |.range=>(Lib.atoiSat l,false)
 |_=>(0,false)
def zop(gl:Fr):Prop:=(∃(cs:Array Value) (e:Value),gl 4=some cs/\cs[0]?=some e/\(e=.nilIface\/∃te pe,e=.iface te pe))/\∃(cs:Array Value) (e:Value),gl 5=some cs/\cs[0]?=some e/\(e=.nilIface\/∃te pe,e=.iface te pe)
theorem zoq(k:IntKind)(i:Int)(t:TypeId)(u:Value):zc1 M [.int k,.err] (i,false) (.tuple #[.int k i,.iface t u]):=⟨[_,_],⟨_,_,rfl,rfl,.iface t u,rfl,⟨_,rfl,.inr ⟨rfl,_,_,rfl⟩⟩⟩,rfl⟩
theorem zmg(k:IntKind)(i:Int):zc1 M [.int k,.err] (i,true) (.tuple #[.int k i,.nilIface]):=⟨[_,_],⟨_,_,rfl,rfl,.nilIface,rfl,⟨_,rfl,.inl ⟨rfl,rfl⟩⟩⟩,rfl⟩
theorem z2n(hg:zop gl)(hs:s.size<=281474976710656){R:Int×Bool->Prop}(h:R (z2m (lb s))):PC Tp gl 210 [Arg.mk .str s] [.int .i64,.err] R:=by
 unfold z2m at h
 cases hx:Lib.atoiAll (lb s)with
 |ok v=>
  rw[hx]at h
  refine PC.of_ex rfl λw hw=>(zdc s (by omega) v hx w).mono λe w' ⟨he,aa⟩=>⟨_,(v,true),he,λM=>zmg _ _,h,?_⟩
  rcases aa with rfl|⟨t,rfl⟩
  ·exact Below.refl _ _
  ·exact Lib.bytesWorld_below _ _ _
 |range=>
  rw[hx]at h
  obtain⟨_,⟨cs,ev,e1,e2,e3⟩⟩:=hg
  exact PC.of_ex rfl λw hw=>(Xk s hs hx ev w (hw.glob e1 e2) e3).mono λe w' ⟨N,he,_,_,Z⟩=>⟨_,(Lib.atoiSat (lb s),false),he,λM=>zoq _ _ _ _,h,Z⟩
 |_=>
  rw[hx]at h
  obtain⟨⟨cs,ev,e1,e2,e3⟩,_⟩:=hg
  exact PC.of_ex rfl λw hw=>(Wm s hs hx ev w (hw.glob e1 e2) e3).mono λe w' ⟨N,he,_,_,Z⟩=>⟨_,(0,false),he,λM=>zoq _ _ _ _,h,Z⟩
theorem zg6{s c:Bt}(hs:s.size<4294967281)(hc:c.size<4294967281)(aa:∀(j:Nat) b,(lb s)[j]?=some b->b.toNat<128)(Z:∀(j:Nat) b,(lb c)[j]?=some b->b.toNat<128){R:Bool->Prop}(h:R (Lib.containsAny (lb s) (lb c))):
  PC Tp gl 209 [Arg.mk .str s,Arg.mk .str c] [.bool] R:=
 PC.of_scal rfl (λ_=>zqo _) h λw hw=>Qf s c w hs hc aa Z
end
end Go.X
end
section
namespace Go.X
open Go Go.Lib
section
theorem zd(l:Bs):(bl l).size=l.length:=by rw[<-Wl,jd]
theorem zt(l:Bs)(a b:Nat):(bl l).extract a b=bl ((l.drop a).take (b-a)):=by rw[<-zid,zsx,jd,jd]
theorem y0(a b:Bs):bl a++bl b=bl (a++b):=by rw[<-zid,zvp,jd,jd,jd]
theorem zo(l:Bs)(i:Nat):za (bl l) i=((l[i]?.getD 0).toNat:Int):=by rw[zf9,jd]
theorem x6(s:Bt):s.toList=lb s:=by
 cases s with
 |mk d=>exact Go.Lib.toList_data ⟨d⟩
theorem zcb(a b:Bs):((bl a).toList==(bl b).toList)=decide (a=b):=by
 rw[x6,x6,jd,jd]
 rw[Az];simp
theorem z6k{a b:Bs}:bl a=bl b↔a=b:=by rw[<-zid,jd,jd]
theorem zmh(l:Bs)(p:Nat):nxB (bl l) p=decide (p<l.length):=by
 rw[Az];simp[nxB,zd]
theorem zqq(l:Bs)(p:Nat):nxR (bl l) p=((dec (l.drop p)).1:Int):=by rw[nxR,zqp,jd]
theorem zig(l:Bs)(p:Nat)(h:p<l.length):nxP (bl l) p=p+(dec (l.drop p)).2:=by
 rw[nxP,zqp,jd]
 have:Nat.blt p (bl l).size=true:=by simp[zd,h]
 rw[this];rfl
theorem Zh{l:Bs}{i:Nat}(h:i<l.length):l[i]?.getD 0=l[i]:=by rw[Ak h];rfl
theorem qbh(c:UInt8):(c.toNat:Int)<256:=by have:=c.toNat_lt;omega
def qs(c:UInt8):Bool:=decide (48<=c.toNat)&&decide (c.toNat<=57)
def xp(l:Bs):Bool:=l.all qs && !l.isEmpty
abbrev Nm:=Bool×Bs×Int
abbrev nmB(n:Nm):Bool×Bt×Int:=(n.1,(bl n.2.1,n.2.2))
def Xw(n:Nm):Bool:=!n.1&&(n.2.1.isEmpty&&n.2.2==0)
def y5(n:Nm):Bool:=Xw n||(xp n.2.1&&decide (n.2.1.length<=1000)&&n.2.1.head? != some 48&&n.2.1.getLast? != some 48&&decide (-1000000<=n.2.2)&&decide (n.2.2<=1000000))
def Yl(n:Nm):Bs:=if y5 n then(if n.2.1=[]then [48]else(if n.1 then [45]else [])++n.2.1++(if n.2.2=0 then []else 101::Go.Lib.itoa n.2.2))else []
theorem zor{n:Nm}(h:y5 n=true)(e:n.2.1=[]):Xw n=true:=by
 unfold y5 at h
 rcases Bh _ _ ▸ h with h|h
 ·exact h
 ·simp[xp,e]at h
theorem zgb{n:Nm}(h:y5 n=true):n.2.1.length<=1000/\-1000000<=n.2.2/\n.2.2<=1000000:=by
 unfold y5 Xw at h
 obtain⟨a,d,e⟩:=n
 simp at h
 rcases h with⟨_,h,h'⟩|h
 ·subst h;subst h';simp
 ·simp only;omega
def cutAt(p:UInt8->Bool):Bs->Bs×Bs×Bool
 |[]=>([],[],false)
 |c::l=>if p c then([],l,true)else(c::(cutAt p l).1,(cutAt p l).2)
theorem Xc{p:UInt8->Bool}:∀{l},(∀c∈l,p c=false)->cutAt p l=(l,[],false)
 |[],_=>rfl
 |c::l,h=>by
  unfold cutAt
  rw[if_neg (by simp[h c (by simp)]),Xc λc hc=>h c (by simp[hc])]
theorem zev{p:UInt8->Bool}:∀{l:Bs} {k:Nat} (hk:k<l.length),(∀i (hi:i<k),p (l[i]'(by omega))=false)->p l[k]=true->cutAt p l=(l.take k,l.drop (k+1),true)
 |c::l,0,_,_,h=>by
  unfold cutAt
  rw[if_pos (by simpa using h)];simp
 |c::l,k+1,hk,h0,h=>by
  unfold cutAt
  have h1:p c=false:=h0 0 (by omega)
  rw[if_neg (by simp[h1]),zev (k:=k) (by simpa using hk) (λi hi=>by simpa using h0 (i+1) (by omega)) (by simpa using h)]
  simp
structure Lit where
 neg:Bool
 whole:Bs
 rest:Bs
 low:Bool
 exp:Bs
def zqr(s:Bs):Bs:=if s.head?==some 45 then s.tail else s
def isE(c:UInt8):Bool:=c==101||c==69
def zmi(c:UInt8):Bool:=c==46
def wn(s:Bs):Bs×Bs×Bool:=cutAt isE (zqr s)
def Qa(s:Bs):Bool:=(wn s).2.2&&(wn s).2.1.head?==some 45
def zgc(s:Bs):Bs:=if Qa s then(wn s).2.1.tail else if(wn s).2.1.head?==some 43 then(wn s).2.1.tail else(wn s).2.1
def je(s:Bs):Bs×Bs×Bool:=cutAt zmi (wn s).1
def zcc(s:Bs):Bool:=(!(wn s).2.2||xp (zgc s))&&xp (je s).1&&(!(je s).2.2||xp (je s).2.1)&&((je s).1==[48]||(je s).1.head? != some 48)
def Qz(s:Bs):Lit:=⟨s.head?==some 45,(je s).1,(je s).2.1,Qa s,if(wn s).2.2 then zgc s else []⟩
def Ym(s:Bs):Option Lit:=if zcc s then some (Qz s)else none
theorem zgd{s:Bs}{x:Lit}(h:Ym s=some x):zcc s=true/\x=Qz s:=by
 unfold Ym at h
 split at h
 ·rename_i e;exact⟨e,(Aq h).symm⟩
 ·exact absurd h (by simp)
theorem Xd{p:UInt8->Bool}:∀{l:Bs},(cutAt p l).2.2=false->(cutAt p l).1=l/\(cutAt p l).2.1=[]
 |[],_=>⟨rfl,rfl⟩
 |c::l,h=>by
  unfold cutAt at h ⊢
  split
  ·rename_i e;rw[if_pos e]at h;exact absurd h (by simp)
  ·rename_i e
   rw[if_neg e]at h
   have:=Xd h
   exact⟨by simp[this.1],this.2⟩
def yr(l:Bs):Bs:=((l.dropWhile (· == 48)).reverse.dropWhile (· == 48)).reverse
def zq(l:Bs):Nat:=l.foldl (λn c=>10*n+(c.toNat-48)) 0
def zp(s:Bs):Nm×Int:=match Ym s with
 |none=>((false,[],0),2)
 |some x=>
  if x.whole.length+x.rest.length>1000 then((false,[],0),3)
  else if(x.exp.dropWhile (· == 48)).length>9 then((false,[],0),4)
  else
   let e:Int:=if x.low then-(zq (x.exp.dropWhile (· == 48)):Int)else zq (x.exp.dropWhile (· == 48))
   let d:=(x.whole++x.rest).dropWhile (· == 48)
   let Z:=yr (x.whole++x.rest)
   if d=[]then((false,[],0),0)
   else if -1000000<=e-x.rest.length+d.length-Z.length/\e-x.rest.length+d.length-Z.length<=1000000 then((x.neg,Z,e-x.rest.length+d.length-Z.length),0)
   else((false,[],0),4)
end
end Go.X
end
