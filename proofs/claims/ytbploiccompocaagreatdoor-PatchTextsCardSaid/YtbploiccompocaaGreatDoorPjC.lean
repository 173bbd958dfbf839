/- A part of the proof: nothing is stated here for its own sake. -/
import Derived.Test.YtbploiccompocaaGreatDoorPjB
import Derived.Deep.LoopGhost
import Derived.ProofKit
import Derived.OpenShut
import Derived.ShutString
import Derived.SizedLaws
import Derived.LaidSub
import Derived.Lib.LaidU8
import Derived.Test.YtbploiccompocaaGreatDoorProg
import Derived.Lib.Replace
open _root_.Go.Addr renaming add->Aj
open _root_.Array renaming getD_eq_getD_getElem?->Bq,getElem?_append_left->CN,getElem?_eq_getElem->AN,getElem?_eq_some_iff->Ac,getElem?_push->BM,getElem?_toList->A0,range->E4,replicate->Bm,toList->Dk,toList_map->Dd
open _root_.BitVec renaming ofInt->Aw
open _root_.Bool renaming and_true->CL,cond_false_right->Bg,eq_iff_iff->AB,false_eq_true->AW,or_eq_true->Cr,true_and->Bi
open _root_.Go.Builtin renaming append_->Au
open _root_.Go.Code renaming cond->EK,region->Db
open _root_.Go.Instr renaming fill->E8
open _root_.Int renaming toNat_natCast->Ad
open _root_.Go.IntKind renaming bits->Ap,i64->CH,signed->Ec,wrap->Aa
open _root_.List renaming all_eq_true->AQ,append_assoc->AP,append_nil->Bf,cons_append->A5,drop_drop->Cd,drop_eq_getElem_cons->AE,drop_eq_nil_of_le->A6,drop_zero->A2,eq_nil_of_length_eq_zero->Av,ext_getElem?->A7,flatMap_cons->D2,getD_eq_getElem?_getD->Bl,getElem?_append_left->Bo,getElem?_drop->AJ,getElem?_eq_getElem->Am,getElem?_eq_none->Bu,getElem?_eq_some_iff->Az,getElem?_map->B5,getElem?_take->AF,getElem_mem->As,isPrefixOf->BD,length->Bb,length_append->Ao,length_cons->Ay,length_drop->AY,length_eq_zero_iff->Ck,length_erase_of_mem->CW,length_map->Ba,length_nil->Dh,length_pos_iff->A3,length_range->DY,length_singleton->Cj,mapM_cons->Ev,mem_append->An,mem_append_left->Aq,mem_append_right->AC,mem_cons->Af,mem_cons_of_mem->Ah,mem_cons_self->Ar,mem_map->BN,mem_range->Cc,mem_singleton->Be,nil_append->BP,nodup_range->Dw,pairwise_cons->BR,range->BJ,take_append_drop->Br,take_length->AD,take_of_length_le->AX,take_succ_cons->BV
open _root_.List.cons renaming injEq->Cq
open _root_.Nat renaming add_zero->C8,blt_eq->CM,eq_of_beq_eq_true->Al,le_mul_of_pos_right->Dz,le_of_ble_eq_true->BS,le_refl->Ae,lt_or_ge->AZ,mul_one->Cg,zero_add->AH,zero_le->CY,zero_mul->Di
open _root_.Go.Next renaming value->Ea
open _root_.Go.Op renaming bytesLess->Da
open _root_.Option.some renaming inj->Ax,injEq->Ab
open _root_.Pure renaming pure->Dv
open _root_.Go.Proofs.Tryz renaming prog->AK
open _root_.Go.Value.slice renaming injEq->AO
open _root_.Go.Value renaming string->AU
set_option linter.unusedVariables false
set_option maxRecDepth 100000
namespace Go.X
end Go.X
namespace Go.Proofs
end Go.Proofs
open Go Go.X Go.Proofs
section
namespace Go.X
section
variable {P:Program} {t tr:TypeId} {n d m i id:Nat} {cs R C:CS} {γ:Gh} {h:zb} {o:Oper} {gl:Fr} {c:qf} {ops:Array Oper} {pu ord:List Nat} {listed pl:Array Bool} {a:Act}
variable {h0 : zb} {W : Nat -> Prop} {M0 : Fr}
structure It where
 k:Nat
 dst:Option Nat
 ch:qf
 av:AV
 nb:Option (Nat×Ch)
def itE:List It->ye
 |[]=>[]
 |i::l=>match i.dst with
  |some s=>(s,i.ch,i.av)::itE l
  |none=>itE l
def itC:List It->CS
 |[]=>[]
 |i::l=>match i.nb with
  |some b=>b::itC l
  |none=>itC l
theorem Xx{x:Nat×qf×AV}:∀{l:List It},x∈itE l↔∃i∈l,i.dst=some x.1/\i.ch=x.2.1/\i.av=x.2.2
 |[]=>by simp[itE]
 |i::l=>by
  simp only[itE]
  split
  ·rename_i s hs
   rw[Af,Xx (l:=l)]
   constructor
   ·rintro(rfl|⟨j,hj,h⟩)
    ·exact⟨i,Ar,hs,rfl,rfl⟩
    ·exact⟨j,Ah _ hj,h⟩
   ·rintro⟨j,hj,h1,h2,h3⟩
    rcases Af.1 hj with rfl|hj
    ·left;rw[hs]at h1;cases h1;rw[h2,h3]
    ·exact .inr ⟨j,hj,h1,h2,h3⟩
  ·rename_i hs
   rw[Xx (l:=l)]
   constructor
   ·rintro⟨j,hj,h⟩;exact⟨j,Ah _ hj,h⟩
   ·rintro⟨j,hj,h1,h2,h3⟩
    rcases Af.1 hj with rfl|hj
    ·rw[hs]at h1;cases h1
    ·exact⟨j,hj,h1,h2,h3⟩
def Xy(S:List Nat):ye->ye
 |[]=>[]
 |(i,c,v)::e=>bif memN S i then(i,c,v)::Xy S e else Xy S e
theorem Jz{S:List Nat}{x:Nat×qf×AV}:∀{e:ye},x∈Xy S e->x∈e/\x.1∈S
 |[],h=>by cases h
 |(i,c,v)::e,h=>by
  simp only[Xy]at h
  cases hm:memN S i with
  |true=>
   rw[hm]at h
   rcases Af.1 h with rfl|h
   ·exact⟨Ar,zqh hm⟩
   ·exact⟨Ah _ (Jz h).1,(Jz h).2⟩
  |false=>rw[hm]at h;exact⟨Ah _ (Jz h).1,(Jz h).2⟩
def qfd(P:Program)(tr:TypeId)(t:TypeId)(n:Nat)(ps:List (Nat×AV))(cs:CS)(K:AV->Prop):Prop:=
 match z8z P t with
 |some el=>match qcb P tr 8 el,zig P el (n*ja P el)with
  |some ty,some zs=>bif Nat.beq (ja P el) (sz ty)then(bif Nat.ble (n*ja P el) 16777216 then(bif Nat.blt 0 (ja P el)then(match zsf (λi=>some (i*ja P el,ja P el)) (zs.map .v) ps with
   |some r=>match zaw cs ty n r with
    |some (ys,[])=>K (.g (.a (.dc ty ys)))
    |_=>False
   |none=>False)else False)else False)else False
  |_,_=>False
 |none=>False
theorem zkq{t el:TypeId}(hu:P.underlying t=some (.slice el))(ae:jb P el=true)(af:n*ja P el<=16777216){zs:List Value}(O:zig P el (n*ja P el)=some zs){ps:Array (Nat×Value)}{c1:List Value}
  (e6:E8 (λi=>some (i*ja P el,ja P el)) zs.toArray ps.toList=some c1.toArray) (B:World) (e:Nat) (h:zb):
  (Instr.buildSlice t n ps).run P (mk B e h)=.ok (.slice (some ⟨h.size,0,none⟩) n n) (mk B e (h.push (.cells c1.toArray el))):=by
 have hq:=QExec.underlying (h:=h) hu B e
 have hs:=QExec.sizeOf (P:=P) (h:=h) (j7 ae).choose_spec B e
 unfold Instr.buildSlice
 rw[Sem.run_bind,hq]
 simp only[Result.andThen_ok]
 rw[Sem.run_bind,hs]
 simp only[Result.andThen_ok]
 rw[if_neg (by omega)]
 unfold zig at O
 by_cases Z:n*ja P el=0
 ·rw[if_pos Z]
  rw[Z]at O ⊢
  simp at O
  subst O
  simp only[Sem.run_bind,Sem.run_pure,Result.andThen_ok]
  have e7:Array.map (λx=>(#[]:Array Value)[x % (#[]:Array Value).size]!) (E4 0)=([]:List Value).toArray:=by simp
  rw[e7,e6]
  rfl
 ·rw[if_neg Z]
  have hb:Nat.beq (n*ja P el) 0=false:=by
   cases hh:Nat.beq (n*ja P el) 0 with
   |false=>rfl
   |true=>exact absurd (Al hh) Z
  rw[hb]at O
  simp only[cond_false]at O
  split at O
  ·rename_i z ac
   have aa:=Jy ac h B e
   simp only[Ab]at O
   rw[Sem.run_bind,aa]
   simp only[Result.andThen_ok,Sem.run_bind,Sem.run_pure]
   have e7:Array.map (λx=>z.cells[x % z.cells.size]!) (E4 (n*ja P el))=zs.toArray:=by
    rw[<-O]
   rw[e7,e6]
   rfl
  ·cases O
theorem Inv.newFrozen(I:Inv h0 W M0 cs γ h)(O:Array Value)(el:TypeId):Inv h0 W M0 cs (zgc γ h.size O) (h.push (.cells O el))/\Gx none γ (zgc γ h.size O)/\(zgc γ h.size O).M h.size=some O:=by
 have aa:γ.M h.size=none:=I.ag.none (Ae _)
 have hM:Fr.le γ.M (zgc γ h.size O).M:=by
  intro b cc eM
  have:Nat.beq b h.size=false:=by
   cases hb:Nat.beq b h.size with
   |false=>rfl
   |true=>rw[Al hb,aa]at eM;cases eM
  simp[zgc,this,eM]
 have Z:AgM (zgc γ h.size O).M (h.push (.cells O el)):=by
  intro b cc eM
  by_cases hb:b=h.size
  ·subst hb
   have:cc=O:=by simp[zgc]at eM;exact eM.symm
   subst this
   exact⟨_,_,ww _ _⟩
  ·have:Nat.beq b h.size=false:=by
    cases hb':Nat.beq b h.size with
    |false=>rfl
    |true=>exact absurd (Al hb') hb
   simp only[zgc,this,cond_false]at eM
   obtain⟨T',m,e'⟩:=I.ag b cc eM
   exact⟨T',m,by rw[BM,if_neg hb];exact e'⟩
 refine⟨I.call (Keep.push h _ (Ae _)) hM (λb hb=>?_) Z,⟨hM,λ_ _=>⟨rfl,rfl⟩⟩,by simp[zgc]⟩
 have:Nat.beq b h.size=false:=by
  cases hb':Nat.beq b h.size with
  |false=>rfl
  |true=>have:=Al hb';omega
 simp[this]
def zio(h0:zb)(W:Nat->Prop)(M0:Fr)(P:Program)(o:Oper)(a:Act)(γ:Gh)(h:zb)(cs:CS)(nb:Option (Nat×Ch))(Ka:AV->Prop):Prop:=
 ExA P (execOp a.eval o) h λv h'=>∃av γ',Ka av/\DenV γ' av v/\Inv h0 W M0 (nb.toList++cs) γ' h'/\Gx (nb.map (·.1)) γ γ'
theorem z9k{parts:Array (Nat×Operand)}(ho:o.op=.buildSlice t n parts){ps:List (Nat×AV)}{ρ:Operand->Option AV}(ah:zdl ρ parts.toList=some ps){K:AV->Prop}(H:qfd P tr t n ps cs K):
  ∃av,K av/\∀(γ:Gh) (h:zb) (a:Act) (Y:CS),Inv h0 W M0 (Y++cs) γ h->(∀x av,ρ x=some av->DenV γ av (a.eval x))->zio h0 W M0 P o a γ h (Y++cs) none (· = av):=by
 unfold qfd at H
 split at H
 ·rename_i el ac
  obtain⟨hu,ak⟩:=Jw ac
  split at H
  ·rename_i ty zs al af
   cases hz:Nat.beq (ja P el) (sz ty)with
   |false=>rw[hz]at H;exact H.elim
   |true=>
   rw[hz]at H
   cases hb1:Nat.ble (n*ja P el) 16777216 with
   |false=>rw[hb1]at H;exact H.elim
   |true=>
   rw[hb1]at H
   cases hb2:Nat.blt 0 (ja P el)with
   |false=>rw[hb2]at H;exact H.elim
   |true=>
   rw[hb2]at H
   simp only[cond_true]at H
   split at H
   ·rename_i r hr
    split at H
    ·rename_i ys ai
     refine⟨_,H,λγ h a Y I hρ=>?_⟩
     have I1:Inv h0 W M0 cs γ h:=I.sub (by simp)
     obtain⟨ws,e1,e2⟩:=Wp hr (Qh γ zs) (zat hρ ah)
     obtain⟨c1,c2,rfl,r3,r4,r5⟩:=zby I1.fz ai e2
     cases c2 with
     |cons _ _=>exact r5.elim
     |nil=>
     rw[Bf]at *
     have Z:=Al hz
     have O:0<ja P el:=by simpa[CM]using hb2
     have aj:n*ja P el<=16777216:=BS hb1
     have hn:n<=n*ja P el:=Dz _ O
     have am:c1.length=n*ja P el:=by rw[r3.1,r4,Z]
     obtain⟨I2,g2,ae⟩:=I.newFrozen c1.toArray el
     intro B e
     refine .inl ⟨.slice (some ⟨h.size,0,none⟩) n n,e,_,?_,_,_,rfl,?_,I2,g2⟩
     ·have e5:(parts.map λx=>(x.1,a.eval x.2)).toList=parts.toList.map λx=>(x.1,a.eval x.2):=by rw[Dd]
      simp only[execOp,ho]
      refine Jm ?_
      exact zkq hu ak aj af (by
       show E8 _ _ (parts.map λx=>(x.1,a.eval x.2)).toList=_
       rw[e5];exact e1) B e h
     ·have aa:=(r3.mono g2.1).rd (b:=h.size) (o:=0) (c:=n) (cs:=c1.toArray) ae (by rw[A2,AX (by rw[r4,<-Z];simp;omega)]) ⟨by omega,by omega⟩
      rw[r4]at aa
      exact⟨⟨some ⟨h.size,0,none⟩,n,n⟩,rfl,rfl,aa⟩
    ·exact H.elim
   ·exact H.elim
  ·exact H.elim
 ·exact H.elim
def qfe:AV->Bool
 |.g (.a (.dc _ _))=>true
 |_=>false
theorem z9l{tr t tx:TypeId}{bv sv:AV}{c:Call}(ho:o.op=.call c)(hc:c.callee=.builtin .append){s x:Operand}(ai:c.args.toList=[s,x])(am:c.argTypes.toList=[t,tx]){K:AV->Prop}(ar:qfe bv=true)
  (H:zfb P tr t tx bv sv 0 [] cs (λav _ _=>K av)) {ρ:Operand->Option AV} (hs:ρ s=some bv) (hx:ρ x=some sv):
  ∀(γ:Gh) (h:zb) (a:Act) (Y:CS),Inv h0 W M0 (Y++cs) γ h->(∀x av,ρ x=some av->DenV γ av (a.eval x))->zio h0 W M0 P o a γ h (Y++cs) none K:=by
 intro γ h a Y I hρ
 have aD:=hρ _ _ hs
 have ay:=hρ _ _ hx
 have I1:Inv h0 W M0 ([]++cs) γ h:=I.sub (by simp)
 have key:∀{K':Value->zb->Prop},XRun P (Au #[t,tx] o.type #[a.eval s,a.eval x]) h K'->ExA P (execOp a.eval o) h K':=by
  intro K' az B e
  obtain⟨v,d',h',r,hp⟩:=az B e
  refine .inl ⟨v,d',h',?_,hp⟩
  have ee:execOp a.eval o=(Au c.argTypes o.type (c.args.map a.eval) >>= λx=>(Dv (Ea x):Sem Next)):=by
   simp only[execOp,ho,resolve,hc]
   rfl
  rw[ee,toList_eq ai,toList_eq am]
  refine Jm ?_
  simpa using r
 refine key ?_
 clear key
 unfold zfb at H
 split at H
 ·rename_i el aB
  obtain⟨hu,aI⟩:=Jw aB
  split at H
  ·rename_i ty aL
   split at H
   ·rename_i b ys hb aE
    obtain⟨⟨z,T⟩,an⟩:=zly hu hb
    obtain⟨news,ae,aa⟩:=zuk I1 aE T.pos ay
    split at H
    ·cases ar
    ·cases ar
    ·rename_i t' aN
     split at H
     ·rename_i xs ah
      obtain⟨ak,hK⟩:=H
      have ap:=zdp an ak
      obtain⟨e1,e2⟩:=Yl ah
      subst e1
      simp only at e2
      subst e2
      generalize a.eval s=u at *
      generalize a.eval x=v at *
      obtain⟨s2,e,aH,al⟩:=(show ∃s:Sl,u=slV s/\s.cap=s.len/\Rd γ.M (.row t') xs [u]from aD)
      subst e
      obtain⟨s3,e,O,aO,cells,Z,au⟩:=al.rowC I.ag
      have e':s2=s3:=by cases s2;cases s3;simp only[slV,AO]at e;simp[e]
      subst e'
      have ac:cells.length=s2.len*sz t':=by rw[O];exact Z.1
      intro B dr
      by_cases hm:ys.length=0
      ·have ax:ys=[]:=Av hm
       subst ax
       have aF:news=[]:=Av (by rw[ae.1];simp)
       subst aF
       have hr:=Qa (P:=P) (ty:=o.type) T (s:=s2) (h':=h) (aa B dr) (by simp;omega) (λp hp=>by simp[storeCells]) (λ_=>rfl)
       refine⟨_,dr,h,hr,_,γ,hK,?_,I,Gx.refl _ _⟩
       rw[Bf]
       exact al
      ·obtain⟨cp,af,hr,aG,aJ,aM,aA⟩:=Wr (P:=P) (ty:=o.type) (base:=0) T ac (λB d=>Qj au ac T.pos B d) aa (by rw[O];exact ak) (by rw[O];exact ap) (CY _) (by omega) B dr
       obtain⟨I2,g2,aC⟩:=I.newFrozen af el
       refine⟨_,dr+1,_,hr,_,_,hK,?_,I2,g2⟩
       have aj:=((Z.append ae).mono g2.1).rd (b:=h.size) (o:=0) (c:=cp) (cs:=af) aC (by rw[A2,Ao,<-O];exact aA) (by rw[Ao,<-O];exact⟨by rw[O];exact ap,aG⟩)
       rw[Ao,<-O]at aj
       exact aj
     ·exact H.elim
    ·exact H.elim
   ·exact H.elim
  ·exact H.elim
 ·exact H.elim
def z9m(P:Program)(gl:Fr)(tr:TypeId)(o:Oper)(ρ:Operand->Option AV)(cs:CS)(K:AV->Prop):Prop:=
 match o.op with
 |.call c=>match c.callee with
  |.value x=>match qcy x with
   |some f=>bif qp P f then(match z9c P tr f,zsh ρ c.args.toList with
    |some (ts,rt),some vs=>match we cs ts vs with
     |some args=>PC P gl f args rt λr=>K (qca rt r)
     |none=>False
    |_,_=>False)else False
   |none=>False
  |_=>False
 |_=>False
theorem z4v(Z:Fr.le gl M0){ρ:Operand->Option AV}{K:AV->Prop}(H:z9m P gl tr o ρ cs K):
  ∀(γ:Gh) (h:zb) (a:Act) (Y:CS),Inv h0 W M0 (Y++cs) γ h->(∀x av,ρ x=some av->DenV γ av (a.eval x))->zio h0 W M0 P o a γ h (Y++cs) none K:=by
 intro γ h a Y I hρ
 unfold z9m at H
 split at H
 ·rename_i c ho
  split at H
  ·rename_i x hx
   split at H
   ·rename_i f hf
    cases hcal:qp P f with
    |false=>rw[hcal]at H;exact H.elim
    |true=>
     rw[hcal]at H
     simp only[cond_true]at H
     split at H
     ·rename_i ts rt vs hs aa
      split at H
      ·rename_i args O
       intro B d
       have e:=znb hf
       subst e
       have I1:Inv h0 W M0 cs γ h:=I.sub (by simp)
       have ha:=xn I1.fz O (Xw hρ aa)
       refine .inr (.inr ⟨f,c.args.map a.eval,zdo ho hx hcal rfl _,?_⟩)
       have e2:c.args.map a.eval=(c.args.toList.map a.eval).toArray:=by rw[<-Dd]
       rw[e2]
       refine(znc Z H I ha).mono ?_
       rintro v h' ⟨r,γ',h1,h2,h3,h4,_⟩
       exact⟨_,γ',h1,h2,h3,h4⟩
      ·exact H.elim
     ·exact H.elim
   ·exact H.elim
  ·exact H.elim
 ·exact H.elim
theorem zw8(Z:Fr.le gl M0){ρ:Operand->Option AV}{b:Bool}{K:AV->Prop}(H:zwy P gl tr o ρ b cs K)(hb:b=true):
  ∀(γ:Gh) (h:zb) (a:Act) (Y:CS),Inv h0 W M0 (Y++cs) γ h->(∀x av,ρ x=some av->DenV γ av (a.eval x))->zio h0 W M0 P o a γ h (Y++cs) none K:=by
 intro γ h a Y I hρ
 unfold zwy at H
 split at H
 ·rename_i c ho
  split at H
  ·rename_i x hx
   split at H
   ·rename_i f hf
    cases hcal:qp P f with
    |false=>rw[hcal]at H;exact H.elim
    |true=>
     rw[hcal]at H
     simp only[cond_true]at H
     split at H
     ·rename_i ts rt vs hs aa
      split at H
      ·rename_i args O
       obtain⟨J,h1,h2⟩:=H
       intro B d
       have e:=znb hf
       subst e
       have I1:Inv h0 W M0 cs γ h:=I.sub (by simp)
       have ha:=xn I1.fz O (Xw hρ aa)
       refine .inr (.inr ⟨f,c.args.map a.eval,zdo ho hx hcal rfl _,?_⟩)
       have e2:c.args.map a.eval=(c.args.toList.map a.eval).toArray:=by rw[<-Dd]
       rw[e2]
       refine(znc Z (h1 hb) I ha).mono ?_
       rintro v h' ⟨r,γ',g1,g2,g3,g4,_⟩
       exact⟨_,γ',h2 r (λ_=>g1),g2,g3,g4⟩
      ·exact H.elim
     ·exact H.elim
   ·exact H.elim
  ·exact H.elim
 ·exact H.elim
theorem zzu(ho:o.op=.alloc t){z:Value}(hz:zeroOf P t=some z)(O:itB (z.cells.toList.map .v)=false):
  ∀(γ:Gh) (h:zb) (a:Act) (Y:CS),Inv h0 W M0 (Y++cs) γ h->wu d (Y++cs)=true->zio h0 W M0 P o a γ h (Y++cs) (some (d,.box (z.cells.toList.map .v))) (· = .g (.a (.box d 0))):=by
 intro γ h a Y I hR B e
 refine .inl ⟨.pointer (some ⟨h.size,0,none⟩),e,h.push (.cells z.cells t),?_,_,zyg γ d h.size,rfl,?_,?_,Xq _ _ _⟩
 ·have Z:=Jy hz h B e
  simp only[execOp,ho]
  refine Jm ?_
  unfold Instr.alloc
  rw[Sem.run_bind,Z]
  simp only[Result.andThen_ok]
  rw[Sem.run_bind,zau]
  rfl
 ·simp only[DenV,DenG,DenA,Qf]
 ·have:=Inv.newBox (C:=[]) (R:=Y++cs) (by simpa using I) (c:=d) hR (Qh γ z.cells.toList) (ze9 d _) O t
  simpa[jc]using this
theorem z9n{x:Operand}(ho:o.op=.box t x){l:List AA}(hm:zpg d l=false)(O:itB l=false):
  ∀(γ:Gh) (h:zb) (a:Act) (Y:CS),Inv h0 W M0 (Y++cs) γ h->wu d (Y++cs)=true->All2 (DenA γ) l (a.eval x).cells.toList->zio h0 W M0 P o a γ h (Y++cs) (some (d,.box l)) (· = .g (.a (.box d 0))):=by
 intro γ h a Y I hR hl B e
 refine .inl ⟨.pointer (some ⟨h.size,0,none⟩),e,h.push (.cells (a.eval x).cells t),?_,_,zyg γ d h.size,rfl,?_,?_,Xq _ _ _⟩
 ·simp only[execOp,ho]
  refine Jm ?_
  unfold Instr.box
  rw[Sem.run_bind,zau]
  rfl
 ·simp only[DenV,DenG,DenA,Qf]
 ·have:=Inv.newBox (C:=[]) (R:=Y++cs) (by simpa using I) (c:=d) hR hl hm O t
  simpa[jc]using this
def y9(o:Oper):Bool:=match o.op with
 |.call c=>match c.callee with
  |.builtin .append=>true
  |.builtin _=>false
  |_=>true
 |_=>false
def zds:List AA->Bool
 |[]=>true
 |.v _::l=>zds l
 |.d _ _::l=>zds l
 |.elt _ _ _::l=>zds l
 |.dc _ _::l=>zds l
 |_::_=>false
theorem Ye{c:Nat}:∀{l:List AA},zds l=true->zpg c l=false
 |[],_=>rfl
 |.v _::l,h=>by simp only[zpg,zwq,cond_false];exact Ye (l:=l) h
 |.d _ _::l,h=>by simp only[zpg,zwq,cond_false];exact Ye (l:=l) h
 |.elt _ _ _::l,h=>by simp only[zpg,zwq,cond_false];exact Ye (l:=l) h
 |.dc _ _::l,h=>by simp only[zpg,zwq,cond_false];exact Ye (l:=l) h
 |.box _ _::_,h=>by cases h
 |.own _::_,h=>by cases h
 |.oelt _ _ _ _::_,h=>by cases h
theorem zge:∀l:List Value,zds (l.map .v)=true
 |[]=>rfl
 |_::l=>zge l
def zzv(P:Program)(gl:Fr)(tr:TypeId)(o:Oper)(e:ye)(ch:qf)(cs:CS)(K:AV->Option (Nat×Ch)->Prop):Prop:=
 match o.op with
 |.alloc t=>match ch,o.dst,zeroOf P t with
  |[],some d,some z=>bif wu d cs then(bif itB (z.cells.toList.map .v)then False else K (.g (.a (.box d 0))) (some (d,.box (z.cells.toList.map .v))))else False
  |_,_,_=>False
 |.box t x=>match ch,o.dst,zh9 e [] x with
  |[],some d,some av=>match zww av with
   |some l=>bif wu d cs then(bif zds l then(bif itB l then False else K (.g (.a (.box d 0))) (some (d,.box l)))else False)else False
   |none=>False
  |_,_,_=>False
 |.buildSlice t n parts=>match ch,zdl (zh9 e []) parts.toList with
  |[],some ps=>qfd P tr t n ps cs λav=>K av none
  |_,_=>False
 |.call c=>match c.callee with
  |.builtin .append=>match ch,c.args.toList,c.argTypes.toList with
   |[],[s,x],[t,tx]=>match zh9 e [] s,zh9 e [] x with
    |some bv,some sv=>bif qfe bv then zfb P tr t tx bv sv 0 [] cs (λav _ _=>K av none)else False
    |_,_=>False
   |_,_,_=>False
  |.builtin _=>z4u P gl o e ch cs λav=>K av none
  |_=>match ch with
   |[]=>z9m P gl tr o (zh9 e []) cs λav=>K av none
   |_=>match Wo e ch with
    |some (some b)=>zwy P gl tr o (zh9 e ch) b cs λav=>K av none
    |_=>False
 |_=>z4u P gl o e ch cs λav=>K av none
structure Spec (h0:zb) (W:Nat->Prop) (M0:Fr) (P:Program) (o:Oper) (e:ye) (ch:qf) (cs:CS) (nb:Option (Nat×Ch)) (Kan:AV->Prop):Prop where
 yes:∀(n:Nat) (γ:Gh) (h:zb) (a:Act) (Y:CS),SatA n e γ a->Inv h0 W M0 (Y++cs) γ h->(∀b,nb=some b->wu b.1 (Y++cs)=true)->valid (zw a) ch->zio h0 W M0 P o a γ h (Y++cs) nb Kan
 no:∀(n:Nat) (γ:Gh) (a:Act),SatA n e γ a->¬valid (zw a) ch->nb=none/\∃av,Kan av
 box:∀b,nb=some b->wu b.1 cs=true/\o.dst=some b.1/\(∃l,b.2=.box l/\zds l=true)/\Kan=(· = .g (.a (.box b.1 0)))
theorem Spec.ofQ(O:Fr.le gl M0){e:ye}{ch:qf}{K:AV->Option (Nat×Ch)->Prop}(H:z4u P gl o e ch cs λav=>K av none):∃nb Kan,Spec h0 W M0 P o e ch cs nb Kan/\(∀av,Kan av->K av nb)/\∃av,Kan=(· = av):=by
 obtain⟨av,h1,h2⟩:=zl3 (h0:=h0) (W:=W) (M0:=M0) O H
 refine⟨none,(· = av),⟨λn γ h a Y hs I _ hv=>?_,λn γ a hs hv=>⟨rfl,av,rfl⟩,λb hb=>by cases hb⟩,λZ e=>e ▸ h1,av,rfl⟩
 obtain⟨v,hd,hq⟩:=h2 n γ a h hs (I.sub (by simp)) hv
 exact λB d=>.inl ⟨v,d,h,hq B d,av,γ,rfl,hd,I,Gx.refl _ _⟩
theorem zsl(Z:Fr.le gl M0){e:ye}{ch:qf}{K:AV->Option (Nat×Ch)->Prop}(H:zzv P gl tr o e ch cs K):
  ∃nb Kan,Spec h0 W M0 P o e ch cs nb Kan/\(∀av,Kan av->K av nb)/\(y9 o=false->∃av,Kan=(· = av)):=by
 unfold zzv at H
 split at H
 ·rename_i t ho
  split at H
  ·rename_i d z hd hz
   cases hR:wu d cs with
   |false=>rw[hR]at H;exact H.elim
   |true=>
    rw[hR]at H
    cases hit:itB (z.cells.toList.map .v)with
    |true=>rw[hit]at H;exact H.elim
    |false=>
    rw[hit]at H
    refine⟨_,(· = .g (.a (.box d 0))),⟨λn γ h a Y hs I hn _=>zzu ho hz hit γ h a Y I (hn _ rfl),λn γ a hs hv=>absurd trivial hv,λb hb=>?_⟩,λav e=>e ▸ H,λ_=>⟨_,rfl⟩⟩
    cases hb
    exact⟨hR,hd,⟨_,rfl,zge _⟩,rfl⟩
  ·exact H.elim
 ·rename_i t x ho
  split at H
  ·rename_i d av hd ae
   split at H
   ·rename_i l hl
    cases hR:wu d cs with
    |false=>rw[hR]at H;exact H.elim
    |true=>
     rw[hR]at H
     cases hm:zds l with
     |false=>rw[hm]at H;exact H.elim
     |true=>
      rw[hm]at H
      cases hit:itB l with
      |true=>rw[hit]at H;exact H.elim
      |false=>
      rw[hit]at H
      refine⟨_,(· = .g (.a (.box d 0))),⟨λn γ h a Y hs I hn _=>z9n ho (Ye hm) hit γ h a Y I (hn _ rfl) (zdj hl (qd hs (c:=[]) trivial ae)),λn γ a hs hv=>absurd trivial hv,λb hb=>?_⟩,λav e=>e ▸ H,λ_=>⟨_,rfl⟩⟩
      cases hb
      exact⟨hR,hd,⟨_,rfl,hm⟩,rfl⟩
   ·exact H.elim
  ·exact H.elim
 ·rename_i t n parts ho
  split at H
  ·rename_i ps af
   obtain⟨av,h1,h2⟩:=z9k (h0:=h0) (W:=W) (M0:=M0) ho af H
   exact⟨none,(· = av),⟨λn γ h a Y hs I _ _=>h2 γ h a Y I λx av hx=>qd hs (c:=[]) trivial hx,λn γ a hs hv=>absurd trivial hv,λb hb=>by cases hb⟩,λal e=>e ▸ h1,λ_=>⟨_,rfl⟩⟩
  ·exact H.elim
 ·rename_i c ho
  split at H
  ·rename_i hc
   have O:y9 o=true:=by simp[y9,ho,hc]
   split at H
   ·rename_i s x t tx aa ac
    split at H
    ·rename_i bv sv ai ah
     cases hdc:qfe bv with
     |false=>rw[hdc]at H;exact H.elim
     |true=>
      rw[hdc]at H
      simp only[cond_true]at H
      exact⟨none,λav=>K av none,⟨λn γ h a Y hs I _ _=>z9l ho hc aa ac hdc H ai ah γ h a Y I λx av hx=>qd hs (c:=[]) trivial hx,λn γ a hs hv=>absurd trivial hv,λb hb=>by cases hb⟩,λav e=>e,λhn=>by rw[O]at hn;cases hn⟩
    ·exact H.elim
   ·exact H.elim
  ·obtain⟨nb,Kan,h1,h2,h3⟩:=Spec.ofQ (h0:=h0) (W:=W) (M0:=M0) Z H
   exact⟨nb,Kan,h1,h2,λ_=>h3⟩
  ·rename_i ak aj
   have O:y9 o=true:=by
    simp only[y9,ho]
   split at H
   ·exact⟨none,λav=>K av none,⟨λn γ h a Y hs I _ _=>z4v Z H γ h a Y I λx av hx=>qd hs (c:=[]) trivial hx,λn γ a hs hv=>absurd trivial hv,λb hb=>by cases hb⟩,λav e=>e,λhn=>by rw[O]at hn;cases hn⟩
   ·split at H
    ·rename_i b hb
     refine⟨none,λav=>K av none,⟨λn γ h a Y hs I _ hv=>zw8 Z H (Zj hs hb hv) γ h a Y I λx av hx=>qd hs hv hx,λn γ a hs hv=>⟨rfl,?_⟩,λb hb=>by cases hb⟩,λav e=>e,λhn=>by rw[O]at hn;cases hn⟩
     have:=zbt hs hb hv
     simp only[Ab]at this
     exact(zbw (h0:=#[]) (W:=λ_=>False) (M0:=λ_=>none) H).1 this
    ·exact H.elim
 ·obtain⟨nb,Kan,h1,h2,h3⟩:=Spec.ofQ (h0:=h0) (W:=W) (M0:=M0) Z H
  exact⟨nb,Kan,h1,h2,λ_=>h3⟩
def yz(ops:Array Oper)(m:Nat):List Nat:=je (ops.toList.take m)
def Y7(av:AV):List Nat->Bool
 |[]=>true
 |s::l=>bif z3p s av then false else Y7 av l
theorem zl4{av:AV}:∀{l:List Nat},Y7 av l=true->∀s∈l,z3p s av=false
 |[],_,s,hs=>by cases hs
 |x::l,h,s,hs=>by
  simp only[Y7]at h
  cases hb:z3p x av with
  |true=>rw[hb]at h;cases h
  |false=>
   rw[hb]at h
   rcases Af.1 hs with rfl|hs
   ·exact hb
   ·exact zl4 h s hs
def zgp(S:List Nat):ye->ye
 |[]=>[]
 |(i,[],v)::e=>bif memN S i then zgp S e else(bif Y7 v S then(i,[],v)::zgp S e else zgp S e)
 |(_,_::_,_)::e=>zgp S e
theorem xo{S:List Nat}{x:Nat×qf×AV}:∀{e:ye},x∈zgp S e->x∈e/\x.2.1=[]/\x.1∉S/\Y7 x.2.2 S=true
 |[],h=>by cases h
 |(i,[],v)::e,h=>by
  simp only[zgp]at h
  cases hm:memN S i with
  |true=>rw[hm]at h;exact⟨Ah _ (xo h).1,(xo h).2⟩
  |false=>
   rw[hm]at h
   simp only[cond_false]at h
   cases hn:Y7 v S with
   |false=>rw[hn]at h;exact⟨Ah _ (xo h).1,(xo h).2⟩
   |true=>
    rw[hn]at h
    rcases Af.1 h with rfl|h
    ·exact⟨Ar,rfl,Ze hm,hn⟩
    ·exact⟨Ah _ (xo h).1,(xo h).2⟩
 |(_,_::_,_)::e,h=>⟨Ah _ (xo (e:=e) h).1,(xo (e:=e) h).2⟩
def qff(ops:Array Oper)(o:Oper):qf->Bool
 |[]=>true
 |[(g,_)]=>match o.guard with
  |some (j,_)=>match jd ops j with
   |some g'=>Nat.beq g g'
   |none=>false
  |none=>false
 |_=>false
def z7r:List Nat->Nat->Bool
 |[x],k=>Nat.beq x k
 |_,_=>false
def inL:List Nat->Nat->Bool
 |[],_=>false
 |x::l,k=>bif Nat.beq x k then true else inL l k
theorem zzw{k:Nat}:∀{l:List Nat},inL l k=true->k∈l
 |[],h=>by cases h
 |x::l,h=>by
  simp only[inL]at h
  cases hb:Nat.beq x k with
  |true=>rw[Al hb];exact Ar
  |false=>rw[hb]at h;exact Ah _ (zzw h)
def ziq(ops:Array Oper)(m:Nat)(o:Oper)(k:Nat)(pl:Array Bool):Bool:=
 bif Nat.blt k m then(bif xl ops k (Qu ops o) m then(bif y9 o then z7r (Region.ready .any ops pl) k else inL (Region.ready .any ops pl) k)else false)else false
def zuq(S:List Nat)(av:AV)(nb:Option (Nat×Ch)):Bool:=match nb with
 |none=>Y7 av S
 |some _=>true
def zw9(pl:Array Bool):Nat->Bool
 |0=>true
 |k+1=>bif pl.getD k false then zw9 pl k else false
theorem zl5{pl:Array Bool}:∀{m:Nat},zw9 pl m=true->∀k,k<m->pl.getD k false=true
 |0,_,k,hk=>by omega
 |m+1,h,k,hk=>by
  simp only[zw9]at h
  cases hb:pl.getD m false with
  |false=>rw[hb]at h;cases h
  |true=>
   rw[hb]at h
   rcases AZ k m with h1|h1
   ·exact zl5 h k h1
   ·have:k=m:=by omega
    subst this;exact hb
def zur(P:Program)(ρ:Operand->Option AV)(o:Oper):Bool:=bif zgn o then(bif isQ P o then(bif xd o.op then zib ρ o.op.operands.toList else false)else false)else false
def zfc(P:Program)(e:ye)(c:qf)(o:Oper):Bool:=match o.op with
 |.pick _ _ _=>true
 |.move _=>true
 |.assign _=>true
 |.extract _ _=>true
 |.alloc _=>false
 |.box _ _=>false
 |.buildSlice _ _ _=>false
 |.call _=>false
 |.load _ _=>false
 |.indexAddr _ _ _=>false
 |_=>zur P (zh9 e c) o
theorem zqj{e:ye}(h:zfc P e c o=true):y9 o=false:=by
 unfold y9
 split
 ·rename_i c ho;rw[zfc,ho]at h;cases h
 ·rfl
def zdt(P:Program)(o:Oper)(e:ye)(ch:qf)(Kan:AV->Prop):Prop:=
 ∀av,Kan av->∀(n:Nat) (γ:Gh) (a:Act),SatA n e γ a->valid (zw a) ch->∃v,DenV γ av v/\∀w,(execOp a.eval o).run P w=.ok (.value v) w
theorem QExec.all{α:Type}{s:Sem α}{x:α}(H:∀h,QExec P s h x)(w:World):s.run P w=.ok x w:=H w.heap w w.drawn
theorem zzx{e:ye}{K:AV->Prop}(H:z4u P gl o e c cs K)(hp:zfc P e c o=true):∃av,K av/\zdt P o e c (· = av):=by
 unfold z4u at H
 split at H
 ·rename_i x y z ho
  obtain⟨av,h1,h2⟩:=Ws H
  refine⟨av,h1,λZ e' n γ a hs hv=>?_⟩
  obtain⟨t,h3,h4⟩:=h2 n γ a hs hv
  subst e'
  refine⟨_,h4,QExec.all λh B d=>?_⟩
  simp only[execOp,ho,h3,asBool,Sem.run_bind,Sem.run_pure,Result.andThen_ok]
 ·rename_i ae
  split at H
  ·rename_i g hg
   unfold qA at H
   split at H
   ·rename_i b hb
    exact⟨_,H,λZ e' n γ a hs hv=>⟨_,e' ▸ (show DenV γ (.g (.a (.v (.bool b)))) _ from rfl),QExec.all λh=>zqa hb (λx av hx=>qd hs hv hx) h⟩⟩
   split at H
   ·rename_i b hb
    exact⟨_,H,λZ e' n γ a hs hv=>⟨_,e' ▸ (show DenV γ (.g (.a (.v (.bool b)))) _ from rfl),QExec.all λh=>zlw hb (λx av hx=>qd hs hv hx) h⟩⟩
   split at H
   ·rename_i t b off aa
    exfalso
    unfold z88 at aa
    split at aa
    ·rename_i t' x ho;rw[zfc,ho]at hp;cases hp
    ·cases aa
   split at H
   ·rename_i b off n len z aa
    exfalso
    unfold z9a at aa
    split at aa
    ·rename_i t' x i ho;rw[zfc,ho]at hp;cases hp
    ·cases aa
   unfold qA0 at H
   cases hb:zur P (zh9 e c) o with
   |true=>
    unfold zur at hb
    rw[hb]at H
    cases hfam:zgn o with
    |false=>rw[hfam]at hb;cases hb
    |true=>
     cases hq:isQ P o with
     |false=>rw[hfam,hq]at hb;cases hb
     |true=>
      cases hns:xd o.op with
      |false=>rw[hfam,hq,hns]at hb;cases hb
      |true=>
       rw[hfam,hq,hns]at hb
       simp only[cond_true]at hb H
       obtain⟨v,h1,h2⟩:=zal hfam H
       refine⟨_,h1,λZ e' n γ a hs hv=>⟨v,e' ▸ Jv γ v,QExec.all λh=>?_⟩⟩
       rw[zp0 (γ:=γ) (λx av hx=>qd hs hv hx) hns hb]
       exact h2 (Zj hs hg hv) h ⟨by simp,λi hi=>absurd hi (by simp)⟩
   |false=>
    have ac:=hb
    unfold zur at ac
    rw[ac]at H
    simp only[cond_false]at H
    unfold zfc at hp
    split at hp
    ·rename_i x y z ho;exact absurd ho (ae x y z)
    ·rename_i x ho
     rw[ho]at H
     simp only at H
     split at H
     ·rename_i av O
      exact⟨av,H,λZ e' n γ a hs hv=>⟨_,e' ▸ qd hs hv O,QExec.all λh=>by simp only[execOp,ho];exact QExec.pure _⟩⟩
     ·exact H.elim
    ·rename_i x ho
     rw[ho]at H
     simp only at H
     split at H
     ·rename_i av O
      exact⟨av,H,λZ e' n γ a hs hv=>⟨_,e' ▸ qd hs hv O,QExec.all λh=>by simp only[execOp,ho];exact QExec.pure _⟩⟩
     ·exact H.elim
    ·rename_i x i ho
     rw[ho]at H
     simp only at H
     split at H
     ·rename_i l O
      split at H
      ·rename_i ag af
       refine⟨_,H,λZ e' n γ a hs hv=>?_⟩
       subst e'
       obtain⟨us,e1,h2⟩:=qd hs hv O
       obtain⟨u,hu,hd⟩:=h2.get af
       refine⟨u,hd,QExec.all λh=>?_⟩
       simp only[execOp,ho,e1]
       refine QExec.val λB d=>?_
       unfold Instr.extract
       simp[hu]
      ·exact H.elim
     ·rename_i b p c O
      split at H
      ·refine⟨_,H,λZ e' n γ a hs hv=>⟨_,e' ▸ (show DenV γ (.g (.a (.v (.bool b)))) _ from rfl),QExec.all λh=>?_⟩⟩
       obtain⟨e1,e2⟩:=qd hs hv O
       simp only[execOp,ho]
       refine QExec.val λB d=>?_
       cases b with
       |true=>rw[e1 rfl];rfl
       |false=>rw[e2 rfl];rfl
      ·refine⟨_,H.2,λZ e' n γ a hs hv=>⟨_,e' ▸ (show DenV γ (.g (.a (.v (.int .i64 p)))) _ from rfl),QExec.all λh=>?_⟩⟩
       obtain⟨e1,_⟩:=qd hs hv O
       simp only[execOp,ho,e1 (H.1.out (Zj hs hg hv))]
       exact QExec.val λB d=>rfl
      ·refine⟨_,H.2,λZ e' n γ a hs hv=>⟨_,e' ▸ (show DenV γ (.g (.a (.v (.int .i32 c)))) _ from rfl),QExec.all λh=>?_⟩⟩
       obtain⟨e1,_⟩:=qd hs hv O
       simp only[execOp,ho,e1 (H.1.out (Zj hs hg hv))]
       exact QExec.val λB d=>rfl
      ·exact H.elim
     ·exact H.elim
    ·cases hp
    ·cases hp
    ·cases hp
    ·cases hp
    ·cases hp
    ·cases hp
    ·rw[hb]at hp;cases hp
  ·exact H.elim
theorem zxa{e:ye}{ch:qf}{K:AV->Option (Nat×Ch)->Prop}(H:zzv P gl tr o e ch cs K)(hp:zfc P e ch o=true):
  ∃av,Spec h0 W M0 P o e ch cs none (· = av)/\K av none/\zdt P o e ch (· = av):=by
 have H':z4u P gl o e ch cs λav=>K av none:=by
  unfold zzv at H
  split at H
  ·rename_i t ho;rw[zfc,ho]at hp;cases hp
  ·rename_i t x ho;rw[zfc,ho]at hp;cases hp
  ·rename_i t n ps ho;rw[zfc,ho]at hp;cases hp
  ·rename_i c ho;rw[zfc,ho]at hp;cases hp
  ·exact H
 obtain⟨av,h1,h2⟩:=zzx H' hp
 refine⟨av,⟨λn γ h a Y hs I _ hv=>?_,λn γ a hs hv=>⟨rfl,av,rfl⟩,λb hb=>by cases hb⟩,h1,h2⟩
 obtain⟨v,hd,hq⟩:=h2 av rfl n γ a hs hv
 exact λB d=>.inl ⟨v,d,h,hq _,av,γ,rfl,hd,I,Gx.refl _ _⟩
def zzy(ops:Array Oper)(k:Nat)(o:Oper)(j:Nat):Bool:=bif Nat.beq j k then true else bif Region.waitsFor .any ops j k then true else bif Region.waitsFor .any ops k j then true else match ops[j]? with
 |some oj=>o.apart ops oj
 |none=>true
def zsm(ops:Array Oper)(k:Nat)(o:Oper):Nat->Bool
 |0=>true
 |j+1=>bif zzy ops k o j then zsm ops k o j else false
theorem zl6{ops:Array Oper}{k:Nat}{o:Oper}:∀{n:Nat},zsm ops k o n=true->∀j oj,j<n->ops[j]?=some oj->j≠k->Region.waitsFor .any ops j k=false->Region.waitsFor .any ops k j=false->o.apart ops oj=true
 |0,_,j,oj,hj,_,_,_,_=>by omega
 |n+1,h,j,oj,hj,ho,h1,h2,h3=>by
  simp only[zsm]at h
  cases hx:zzy ops k o n with
  |false=>rw[hx]at h;cases h
  |true=>
   rw[hx]at h
   rcases AZ j n with O|O
   ·exact zl6 h j oj O ho h1 h2 h3
   ·have:j=n:=by omega
    subst this
    have e1:Nat.beq j k=false:=by
     cases hb:Nat.beq j k with
     |false=>rfl
     |true=>exact absurd (Al hb) h1
    unfold zzy at hx
    rw[e1,h2,h3,ho]at hx
    exact hx
def zzz(P:Program)(ops:Array Oper)(pu:List Nat)(o:Oper)(k:Nat)(e:ye)(ch:qf):Bool:=
 bif memN pu k then(bif zfc P e ch o then zsm ops k o ops.size else false)else true
def dW(P:Program)(gl:Fr)(tr:TypeId)(n:Nat)(ops:Array Oper)(m:Nat)(pu:List Nat)(e0:ye)(cs:CS)(Kt:List It->Prop):List Nat->Array Bool->List It->Prop
 |[],pl,IL=>bif zw9 pl m then Kt IL else False
 |k::ord,pl,IL=>match ops[k]? with
  |none=>False
  |some o=>bif ziq ops m o k pl then(match Y6 ops (Xy (Qu ops o) (itE IL++e0)) o.guard with
   |some ch=>bif qff ops o ch then(bif yq n ch o.dst then(bif zzz P ops pu o k (Xy (Qu ops o) (itE IL++e0)) ch then zzv P gl tr o (Xy (Qu ops o) (itE IL++e0)) ch cs (λav nb=>bif zuq (yz ops m) av nb then dW P gl tr n ops m pu e0 cs Kt ord (pl.setIfInBounds k true) (⟨k,o.dst,ch,av,nb⟩::IL)else False)else False)else False)else False
   |none=>False)else False
def J0(listed:Array Bool):List It->List It
 |[]=>[]
 |i::l=>bif listed.getD i.k false then i::J0 listed l else J0 listed l
theorem zax{listed:Array Bool}{i:It}:∀{l:List It},i∈J0 listed l↔i∈l/\listed.getD i.k false=true
 |[]=>by simp[J0]
 |j::l=>by
  simp only[J0]
  cases h:listed.getD j.k false with
  |true=>
   simp only[cond_true,Af,zax (l:=l)]
   constructor
   ·rintro(rfl|⟨h1,h2⟩)
    ·exact⟨.inl rfl,h⟩
    ·exact⟨.inr h1,h2⟩
   ·rintro⟨rfl|h1,h2⟩
    ·exact .inl rfl
    ·exact .inr ⟨h1,h2⟩
  |false=>
   simp only[cond_false,Af,zax (l:=l)]
   constructor
   ·rintro⟨h1,h2⟩;exact⟨.inr h1,h2⟩
   ·rintro⟨rfl|h1,h2⟩
    ·rw[h]at h2;cases h2
    ·exact⟨h1,h2⟩
structure ItOK (h0:zb) (W:Nat->Prop) (M0:Fr) (P:Program) (n:Nat) (ops:Array Oper) (m:Nat) (pu:List Nat) (e0:ye) (cs:CS) (IL:List It) (it:It) (Kan:AV->Prop):Prop where
 lt:it.k<m
 dst:jd ops it.k=it.dst
 ok:yq n it.ch it.dst=true
 chw:∀x∈it.ch,∀p,p<m->jd ops p=some x.1->Region.waitsFor .any ops it.k p=true
 ex:∃o e,ops[it.k]?=some o/\Y6 ops e o.guard=some it.ch/\Spec h0 W M0 P o e it.ch cs it.nb Kan /\
  (∀x∈e,x∈e0\/(x∈itE IL/\∀p,p<m->jd ops p=some x.1->Region.waitsFor .any ops it.k p=true)) /\
  (memN pu it.k=true->it.nb=none/\zdt P o e it.ch Kan/\zsm ops it.k o ops.size=true/\y9 o=false)
 men:∀av,Kan av->it.nb=none->Y7 av (yz ops m)=true
theorem ItOK.mono{e0:ye}{IL O:List It}{it:It}{Kan:AV->Prop}(H:ItOK h0 W M0 P n ops m pu e0 cs IL it Kan)(hs:∀i∈IL,i∈O):ItOK h0 W M0 P n ops m pu e0 cs O it Kan:=
 {lt:=H.lt,dst:=H.dst,ok:=H.ok,chw:=H.chw,men:=H.men,ex:=by
   obtain⟨o,e,h1,h2,h3,h4,Z⟩:=H.ex
   refine⟨o,e,h1,h2,h3,λx hx=>(h4 x hx).imp id λ⟨h5,h6⟩=>⟨?_,h6⟩,Z⟩
   obtain⟨i,hi,q⟩:=Xx.1 h5
   exact Xx.2 ⟨i,hs i hi,q⟩ }
theorem Y8{i p:Nat}(hi:i∈Region.ready .any ops listed)(hw:Region.waitsFor .any ops i p=true):listed.getD p false=true:=by
 obtain⟨oj,Z,e,he,hb,aa⟩:=Region.waitsFor_spec hw
 obtain⟨_,o,ho,O⟩:=mem_ready.1 hi
 have:oj=o:=Ax (Z.symm.trans ho)
 subst this
 rw[<-aa];exact O e he hb
structure Mid (h0:zb) (W:Nat->Prop) (M0:Fr) (P:Program) (n:Nat) (ops:Array Oper) (m:Nat) (e0:ye) (cs:CS) (listed:Array Bool) (IL:List It) (γ:Gh) (a:Act) (h:zb):Prop where
 sat:SatA n (itE (J0 listed IL)++e0) γ a
 inv:Inv h0 W M0 (itC (J0 listed IL)++cs) γ h
theorem zdu{k:Nat}(h:ops[k]?=some o):jd ops k=o.dst:=by simp[jd,h]
theorem zfd{m k t:Nat}(hk:k<m)(h:jd ops k=some t):t∈yz ops m:=by
 unfold jd at h
 split at h
 ·rename_i o ho
  unfold yz
  have O:o∈ops.toList.take m:=by
   rw[List.mem_iff_getElem?]
   exact⟨k,by rw[AF,if_pos hk];simpa using ho⟩
  generalize ops.toList.take m=l at O
  induction l with
  |nil=>cases O
  |cons x l ih=>
   simp only[je]
   rcases Af.1 O with rfl|O
   ·rw[h];exact Ar
   ·split
    ·exact Ah _ (ih O)
    ·exact ih O
 ·cases h
theorem zsn{x:Nat×Ch}:∀{l:List It},x∈itC l↔∃i∈l,i.nb=some x
 |[]=>by simp[itC]
 |i::l=>by
  simp only[itC]
  split
  ·rename_i b hb
   rw[Af,zsn (l:=l)]
   constructor
   ·rintro(rfl|⟨j,hj,h⟩)
    ·exact⟨i,Ar,hb⟩
    ·exact⟨j,Ah _ hj,h⟩
   ·rintro⟨j,hj,h⟩
    rcases Af.1 hj with rfl|hj
    ·left;rw[hb]at h;exact(Ax h).symm
    ·exact .inr ⟨j,hj,h⟩
  ·rename_i hb
   rw[zsn (l:=l)]
   constructor
   ·rintro⟨j,hj,h⟩;exact⟨j,Ah _ hj,h⟩
   ·rintro⟨j,hj,h⟩
    rcases Af.1 hj with rfl|hj
    ·rw[hb]at h;cases h
    ·exact⟨j,hj,h⟩
theorem zus{c:Nat}:∀{l:CS},(∀x∈l,x.1≠c/\zh8 c x.2=false)->wu c l=true
 |[],_=>rfl
 |(j,k)::l,h=>by
  obtain⟨h1,h2⟩:=h _ Ar
  simp only[wu]
  have:Nat.beq j c=false:=by
   cases hb:Nat.beq j c with
   |false=>rfl
   |true=>exact absurd (Al hb) h1
  rw[this,h2]
  exact zus λx hx=>h x (Ah _ hx)
theorem zl7{e0:ye}(ah:w8 ops m=true)(aF:∀x∈e0,x.2.1=[]/\x.1∉yz ops m/\Y7 x.2.2 (yz ops m)=true)
  {IL:List It} (al:∀i∈IL,∃Kan,ItOK h0 W M0 P n ops m pu e0 cs IL i Kan/\Kan i.av) (aL:HeadInv .any ops m listed) (M:Mid h0 W M0 P n ops m e0 cs listed IL γ a h)
  {it:It} {Kan:AV->Prop} (T:ItOK h0 W M0 P n ops m pu e0 cs IL it Kan) (hr:it.k∈Region.ready .any ops listed):
  ∃o e,ops[it.k]?=some o/\o.dst=it.dst/\SatA n e γ a/\Y6 ops e o.guard=some it.ch/\Spec h0 W M0 P o e it.ch cs it.nb Kan/\(memN pu it.k=true->it.nb=none/\zdt P o e it.ch Kan/\zsm ops it.k o ops.size=true/\y9 o=false) /\
   (∀b,it.nb=some b->wu b.1 (itC (J0 listed IL)++cs)=true) /\
   ∀av u γ' h',Kan av->(valid (zw a) it.ch->DenV γ' av u)->(¬valid (zw a) it.ch->u=undef)->Inv h0 W M0 (it.nb.toList++(itC (J0 listed IL)++cs)) γ' h'->Gx (it.nb.map (·.1)) γ γ' ->
    ∀L':List It,L'.Perm ({ it with av:=av }::J0 listed IL)->SatA n (itE L'++e0) γ' (a.put it.dst u)/\Inv h0 W M0 (itC L'++cs) γ' h':=by
 obtain⟨o,e,ho,ar,sp,az,aC⟩:=T.ex
 have ac:o.dst=it.dst:=by rw[<-zdu ho];exact T.dst
 have aB:listed.getD it.k true=false:=(mem_ready.1 hr).1
 have ae:SatA n e γ a:=M.sat.sub λx hx=>by
  rcases az x hx with h1|⟨h1,h2⟩
  ·exact AC _ h1
  ·refine Aq _ ?_
   obtain⟨i,hi,q⟩:=Xx.1 h1
   obtain⟨Ki,Ti,_⟩:=al i hi
   have hw:=h2 i.k Ti.lt (by rw[Ti.dst];exact q.1)
   exact Xx.2 ⟨i,zax.2 ⟨hi,Y8 hr hw⟩,q⟩
 have hw:=Zs ae ar
 have O:∀i∈J0 listed IL,i.k≠it.k:=by
  intro i hi e
  have:=(zax.1 hi).2
  rw[e]at this
  have h2:=getD_both aB
  rw[h2]at this
  cases this
 have ay:∀b,it.nb=some b->wu b.1 (itC (J0 listed IL)++cs)=true:=by
  intro b hb
  obtain⟨h1,h2,_⟩:=sp.box b hb
  refine zus λx hx=>?_
  rcases An.1 hx with hx|hx
  ·obtain⟨i,hi,Z⟩:=zsn.1 hx
   obtain⟨Ki,Ti,ap⟩:=al i (zax.1 hi).1
   obtain⟨oi,ei,aj,_,ai,_,_⟩:=Ti.ex
   obtain⟨_,h4,⟨l,h5,h6⟩,_⟩:=ai.box x Z
   refine⟨λe=>O i hi ?_,by rw[h5];exact Ye h6⟩
   refine yf ah i.k it.k b.1 Ti.lt T.lt ?_ (by rw[T.dst,<-ac];exact h2)
   rw[zdu aj,h4,e]
  ·obtain⟨e1,e2⟩:=zdg h1 x hx
   exact⟨λe=>e1 (by rw[e]),e2⟩
 refine⟨o,e,ho,ac,ae,ar,sp,aC,ay,?_⟩
 ·intro av u γ' h' aQ hy hn I' g L' hp
  refine⟨?_,?_⟩
  ·refine⟨by rw[qg];exact M.sat.defers,by rw[size_put];exact M.sat.size,λx hx=>?_⟩
   have old:∀x:Nat×qf×AV,x∈itE (J0 listed IL)++e0->(∀s,it.dst=some s->x.1≠s/\mentions x.2.1 s=false)->z3q z3p (it.nb.map (·.1)) x.2.2=false->zm9 γ' (zw (a.put it.dst u)) x:=by
    intro x hx hs hm
    have hf:=M.sat.all x hx
    cases hd:it.dst with
    |none=>
     exact⟨λhv=>(hf.1 hv).gx g hm,hf.2⟩
    |some s=>
     obtain⟨h1,h2⟩:=hs s hd
     have hv:=Z4 (σ:=zw (a.put (some s) u)) (τ:=zw a) h2 (λj hj=>qq hj)
     refine⟨λhc=>?_,λhc=>?_⟩
     ·rw[qq h1];exact(hf.1 (hv.1 hc)).gx g hm
     ·exact(qq h1).trans (hf.2 λan=>hc (hv.2 an))
   have au:∀s,it.dst=some s->s∈yz ops m:=λs hs=>zfd T.lt (by rw[T.dst];exact hs)
   have af:∀am,(Y7 am (yz ops m)=true)->z3q z3p (it.nb.map (·.1)) am=false:=by
    intro am h1
    cases Z:it.nb with
    |none=>rfl
    |some b=>
     obtain⟨_,h2,_⟩:=sp.box b Z
     exact zl4 h1 b.1 (au _ (by rw[<-ac];exact h2))
   rcases An.1 hx with hx|hx
   ·obtain⟨i,hi,q1,q2,q3⟩:=Xx.1 hx
    rcases Af.1 (hp.subset hi)with rfl|aa
    ·-- the new fact
     simp only at q1 q2 q3
     have ax:x.1<a.tmps.size:=by
      rw[M.sat.size]
      have:=T.ok
      rw[q1]at this
      simp only[yq]at this
      cases hm:mentions it.ch x.1 with
      |true=>rw[hm]at this;cases this
      |false=>rw[hm]at this;simpa[CM]using this
     have aA:mentions it.ch x.1=false:=by
      have:=T.ok
      rw[q1]at this
      simp only[yq]at this
      cases hm:mentions it.ch x.1 with
      |true=>rw[hm]at this;cases this
      |false=>rfl
     rw[q1]
     have hv:=Z4 (σ:=zw (a.put (some x.1) u)) (τ:=zw a) aA (λj hj=>qq hj)
     refine⟨λhc=>?_,λhc=>?_⟩
     ·rw[yc ax,<-q3];rw[<-q2]at hc;exact hy (hv.1 hc)
     ·rw[yc ax];rw[<-q2]at hc;exact hn λan=>hc (hv.2 an)
    ·obtain⟨aM,aI⟩:=zax.1 aa
     obtain⟨Ki,Ti,ap⟩:=al i aM
     obtain⟨oi,ei,aj,_,ai,_,_⟩:=Ti.ex
     refine old x (Aq _ (Xx.2 ⟨i,aa,q1,q2,q3⟩)) (λs hs=>⟨λe=>O i aa ?_,?_⟩) ?_
     ·exact yf ah i.k it.k s Ti.lt T.lt (by rw[Ti.dst,q1,e]) (by rw[T.dst];exact hs)
     ·cases hm:mentions x.2.1 s with
      |false=>rfl
      |true=>
       exfalso
       rw[<-q2]at hm
       have:∃y∈i.ch,y.1=s:=by
        have key:∀c:qf,mentions c s=true->∃y∈c,y.1=s:=by
         intro c
         induction c with
         |nil=>intro h;cases h
         |cons y c ih=>
          intro h
          obtain⟨g,p⟩:=y
          simp only[mentions]at h
          cases hb:Nat.beq s g with
          |true=>exact⟨(g,p),Ar,(Al hb).symm⟩
          |false=>
           rw[hb]at h
           obtain⟨y,hy,e⟩:=ih h
           exact⟨y,Ah _ hy,e⟩
        exact key _ hm
       obtain⟨y,aN,aG⟩:=this
       have aD:=Ti.chw y aN it.k T.lt (by rw[T.dst,hs,aG])
       obtain⟨oj,aP,e',aO,aJ,aH⟩:=Region.waitsFor_spec aD
       have:=aL.closed i.k oj aP aI e' aO aJ
       rw[aH,getD_both aB]at this
       cases this
     ·rw[<-q3]
      cases hnbi:i.nb with
      |none=>exact af _ (Ti.men _ ap hnbi)
      |some bi=>
       obtain⟨_,h4,_,h5⟩:=ai.box bi hnbi
       have aE:i.av=.g (.a (.box bi.1 0)):=by
        have:=ap;rw[h5]at this;exact this
       rw[aE]
       cases Z:it.nb with
       |none=>rfl
       |some b=>
        obtain⟨_,h2,_⟩:=sp.box b Z
        show Nat.beq bi.1 b.1=false
        cases hb:Nat.beq bi.1 b.1 with
        |false=>rfl
        |true=>
         exfalso
         have:=Al hb
         exact O i aa (yf ah i.k it.k b.1 Ti.lt T.lt (by rw[zdu aj,h4,this]) (by rw[T.dst,<-ac];exact h2))
   ·obtain⟨b1,b2,b3⟩:=aF x hx
    exact old x (AC _ hx) (λs hs=>⟨λe=>b2 (e ▸ au s hs),by rw[b1];rfl⟩) (af _ b3)
  ·have e1:itC ({ it with av:=av }::J0 listed IL)=it.nb.toList++itC (J0 listed IL):=by
    simp only[itC]
    cases it.nb <;> rfl
   rw[<-AP,<-e1]at I'
   have ak:∀{l l':List It},l.Perm l'->(itC l).Perm (itC l'):=by
    intro l l' hp
    induction hp with
    |nil=>exact .nil
    |cons x p ih=>simp only[itC];split;exact ih.cons _;exact ih
    |swap x y l=>
     simp only[itC]
     split <;> split <;> first|exact .swap _ _ _|exact .refl _
    |trans _ _ i1 i2=>exact i1.trans i2
   exact I'.perm ((ak hp.symm).append_right cs)
theorem zqk{e0:ye}{Q:Exit->Act->World->Prop}(ak:w8 ops m=true)(aj:∀x∈e0,x.2.1=[]/\x.1∉yz ops m/\Y7 x.2.2 (yz ops m)=true)
  {IL:List It} (am:∀i∈IL,∃Kan,ItOK h0 W M0 P n ops m pu e0 cs IL i Kan/\Kan i.av) (al:HeadInv .any ops m listed) (M:Mid h0 W M0 P n ops m e0 cs listed IL γ a h)
  {it:It} {Kan:AV->Prop} (T:ItOK h0 W M0 P n ops m pu e0 cs IL it Kan) (hr:it.k∈Region.ready .any ops listed) {Kp:Act->World->Prop} (B:World) (d:Nat)
  (hK:∀av u γ' h' d',Kan av->(∀L':List It,L'.Perm ({ it with av:=av }::J0 listed IL)->SatA n (itE L'++e0) γ' (a.put it.dst u)/\Inv h0 W M0 (itC L'++cs) γ' h')->Gx (it.nb.map (·.1)) γ γ'->Kp (a.put it.dst u) (mk B d' h')):
  wpOp P ops Q it.k Kp a (mk B d h):=by
 obtain⟨o,e,ho,af,O,ai,sp,an,ae,ac⟩:=zl7 ak aj am al M T hr
 have hw:=Zs O ai
 unfold wpOp
 rw[ho]
 simp only
 by_cases hv:valid (zw a) it.ch
 ·rw[if_pos (hw.2 hv)]
  left
  have hx:=sp.yes n γ h a (itC (J0 listed IL)) O M.inv ae hv
  refine(ExA.upon hx B d ?_)
  rintro v d' h' ⟨av,γ',g1,g2,g3,g4⟩
  rw[af]
  exact hK av v γ' h' d' g1 (ac av v γ' h' g1 (λ_=>g2) (λaa=>absurd hv aa) g3 g4) g4
 ·rw[if_neg λhx=>hv (hw.1 hx)]
  obtain⟨ah,av,Z⟩:=sp.no n γ a O hv
  rw[af]
  have g4:Gx (it.nb.map (·.1)) γ γ:=by rw[ah];exact Gx.refl _ _
  exact hK av undef γ h d Z (ac av undef γ h Z (λaa=>absurd aa hv) (λ_=>rfl) (by rw[ah];exact M.inv) g4) g4
theorem zz0{e0:ye}{Q:Exit->Act->World->Prop}(ax:w8 ops m=true)(ar:∀x∈e0,x.2.1=[]/\x.1∉yz ops m/\Y7 x.2.2 (yz ops m)=true)
  {IL:List It} (aB:∀i∈IL,∃Kan,ItOK h0 W M0 P n ops m pu e0 cs IL i Kan/\Kan i.av) (ay:HeadInv .any ops m listed) (M:Mid h0 W M0 P n ops m e0 cs listed IL γ a h)
  {it:It} {Kan:AV->Prop} (T:ItOK h0 W M0 P n ops m pu e0 cs IL it Kan) (aa:Kan it.av) (hr:it.k∈Region.ready .any ops listed) (az:memN pu it.k=true) (Z:Region.noSelect ops=true) (hQ:∀c a w,¬Q (.panic c) a w) (B:World) (d:Nat) {f:Nat}
  (hK:∀u,(∀L':List It,L'.Perm (it::J0 listed IL)->SatA n (itE L'++e0) γ (a.put it.dst u)/\Inv h0 W M0 (itC L'++cs) γ h)->Gx (it.nb.map (·.1)) γ γ->wpAny P .any ops Q f (listed.setIfInBounds it.k true) (a.put it.dst u) (mk B d h)):
  wpAny P .any ops Q (f+1) listed a (mk B d h):=by
 obtain⟨o,e,ho,aj,O,al,sp,ak,aH,ah⟩:=zl7 ax ar aB ay M T hr
 obtain⟨af,aC,ac,_⟩:=ak az
 have hw:=Zs O al
 have g4:Gx (it.nb.map (·.1)) γ γ:=by rw[af];exact Gx.refl _ _
 have ai:∀j oj,ops[j]?=some oj->j≠it.k->listed.getD j true=false->(∀e∈oj.after,Region.binds .any e=true->e.on≠it.k)->o.apart ops oj=true:=by
  intro j oj hj aE aD au
  have an:j<ops.size:=(Ac.1 hj).1
  refine zl6 ac j oj an hj aE ?_ ?_
  ·cases hb:Region.waitsFor .any ops j it.k with
   |false=>rfl
   |true=>
    obtain⟨ap,aA,e',aG,am,aF⟩:=Region.waitsFor_spec hb
    have:ap=oj:=Ax (aA.symm.trans hj)
    subst this
    exact absurd aF (au e' aG am)
  ·cases hb:Region.waitsFor .any ops it.k j with
   |false=>rfl
   |true=>
    have:=Y8 hr hb
    rw[getD_both aD]at this;cases this
 by_cases hv:valid (zw a) it.ch
 ·obtain⟨v,hd,hx⟩:=aC it.av aa n γ a O hv
  refine wpAny_first ho (Region.noSelect_spec Z) (λc a w hq=>absurd hq (hQ c _ w)) f listed a (mk B d h) ai hr (.inl ⟨hw.2 hv,hx⟩) ?_
  rw[aj]
  exact hK v (ah it.av v γ h aa (λ_=>hd) (λae=>absurd hv ae) (by rw[af];exact M.inv) g4) g4
 ·refine wpAny_first ho (Region.noSelect_spec Z) (λc a w hq=>absurd hq (hQ c _ w)) f listed a (mk B d h) ai hr (.inr ⟨by simpa using λhx=>hv (hw.1 hx),rfl⟩) ?_
  rw[aj]
  exact hK undef (ah it.av undef γ h aa (λae=>absurd ae hv) (λ_=>rfl) (by rw[af];exact M.inv) g4) g4
structure GInv (h0:zb) (W:Nat->Prop) (M0:Fr) (P:Program) (n:Nat) (ops:Array Oper) (m:Nat) (pu:List Nat) (e0:ye) (cs:CS) (listed pl:Array Bool) (IL:List It):Prop where
 size:pl.size=ops.size
 mem:∀k,pl.getD k false=true↔∃i∈IL,i.k=k
 dist:IL.Pairwise λi j=>i.k≠j.k
 items:∀i∈IL,∃Kan,ItOK h0 W M0 P n ops m pu e0 cs IL i Kan/\Kan i.av/\(listed.getD i.k false=false->Kan=(· = i.av))
 sub:∀k,listed.getD k false=true->pl.getD k false=true
def zhe(ops:Array Oper):List Nat->Bool
 |[]=>true
 |k::_=>match ops[k]? with
  |some o=>y9 o
  |none=>false
theorem getD_lt{k:Nat}(h:k<pl.size):pl.getD k true=pl.getD k false:=by simp[h]
theorem zso(ap:Fr.le gl M0){e0:ye}{Kt:List It->Prop}{k:Nat}{IL:List It}(H:dW P gl tr n ops m pu e0 cs Kt (k::ord) pl IL):
  ∃o ch nb Kan,ops[k]?=some o/\ziq ops m o k pl=true/\(∀av,ItOK h0 W M0 P n ops m pu e0 cs IL ⟨k,o.dst,ch,av,nb⟩ Kan)/\(∀av,Kan av->dW P gl tr n ops m pu e0 cs Kt ord (pl.setIfInBounds k true) (⟨k,o.dst,ch,av,nb⟩::IL))/\(y9 o=false->∃av,Kan=(· = av)):=by
 unfold dW at H
 split at H
 ·exact H.elim
 ·rename_i o ho
  cases hst:ziq ops m o k pl with
  |false=>rw[hst]at H;exact H.elim
  |true=>
   rw[hst]at H
   simp only[cond_true]at H
   split at H
   ·rename_i ch ak
    cases hco:qff ops o ch with
    |false=>rw[hco]at H;exact H.elim
    |true=>
     rw[hco]at H
     cases hok:yq n ch o.dst with
     |false=>rw[hok]at H;exact H.elim
     |true=>
      rw[hok]at H
      simp only[cond_true]at H
      cases hpo:zzz P ops pu o k (Xy (Qu ops o) (itE IL++e0)) ch with
      |false=>rw[hpo]at H;exact H.elim
      |true=>
      rw[hpo]at H
      simp only[cond_true]at H
      have Z:∃nb Kan,Spec h0 W M0 P o (Xy (Qu ops o) (itE IL++e0)) ch cs nb Kan/\(∀av,Kan av->(bif zuq (yz ops m) av nb then dW P gl tr n ops m pu e0 cs Kt ord (pl.setIfInBounds k true) (⟨k,o.dst,ch,av,nb⟩::IL)else False))/\(y9 o=false->∃av,Kan=(· = av)) /\
        (memN pu k=true->nb=none/\zdt P o (Xy (Qu ops o) (itE IL++e0)) ch Kan/\zsm ops k o ops.size=true/\y9 o=false):=by
       unfold zzz at hpo
       cases hmp:memN pu k with
       |false=>
        obtain⟨nb,Kan,h1,h2,h3⟩:=zsl (h0:=h0) (W:=W) (M0:=M0) ap H
        exact⟨nb,Kan,h1,h2,h3,λhc=>by cases hc⟩
       |true=>
        rw[hmp]at hpo
        simp only[cond_true]at hpo
        cases hpb:zfc P (Xy (Qu ops o) (itE IL++e0)) ch o with
        |false=>rw[hpb]at hpo;cases hpo
        |true=>
         rw[hpb]at hpo
         obtain⟨av,h1,h2,h3⟩:=zxa (h0:=h0) (W:=W) (M0:=M0) H hpb
         exact⟨none,(· = av),h1,λah e=>e ▸ h2,λ_=>⟨av,rfl⟩,λ_=>⟨rfl,h3,hpo,zqj hpb⟩⟩
      obtain⟨nb,Kan,sp,hK,aa,ai⟩:=Z
      have ae:xl ops k (Qu ops o) m=true:=by
       unfold ziq at hst
       cases h1:Nat.blt k m with
       |false=>rw[h1]at hst;cases hst
       |true=>
        rw[h1]at hst
        cases h2:xl ops k (Qu ops o) m with
        |false=>rw[h2]at hst;cases hst
        |true=>rfl
      have am:k<m:=by
       unfold ziq at hst
       cases h1:Nat.blt k m with
       |false=>rw[h1]at hst;cases hst
       |true=>simpa[CM]using h1
      have af:∀av,Kan av->zuq (yz ops m) av nb=true/\dW P gl tr n ops m pu e0 cs Kt ord (pl.setIfInBounds k true) (⟨k,o.dst,ch,av,nb⟩::IL):=by
       intro av O
       have:=hK av O
       cases hio:zuq (yz ops m) av nb with
       |false=>rw[hio]at this;exact this.elim
       |true=>rw[hio]at this;exact⟨rfl,this⟩
      refine⟨o,ch,nb,Kan,ho,hst,λav=>⟨am,zdu ho,hok,?_,⟨o,_,ho,ak,sp,λx hx=>?_,ai⟩,λah O ac=>?_⟩,λav O=>(af av O).2,aa⟩
      ·-- the chain's slots
       intro x hx p hp hd
       refine qk ae p x.1 hp hd ?_
       unfold qff at hco
       split at hco
       ·cases hx
       ·rename_i g q
        have an:x=(g,q):=by simpa using hx
        subst an
        split at hco
        ·rename_i j pp aj
         split at hco
         ·rename_i g' al
          have e:=Al hco
          unfold Qu
          rw[aj]
          simp only[al]
          rw[e]
          exact Aq _ Ar
         ·cases hco
        ·cases hco
       ·cases hco
      ·obtain⟨h1,h2⟩:=Jz hx
       rcases An.1 h1 with h1|h1
       ·exact .inr ⟨h1,λp hp hd=>qk ae p x.1 hp hd h2⟩
       ·exact .inl h1
      ·have:=(af ah O).1
       simp only at ac
       subst ac
       exact this
   ·exact H.elim
theorem zz1{k:Nat}(h:ziq ops m o k pl=true):k∈Region.ready .any ops pl/\(y9 o=true->Region.ready .any ops pl=[k]):=by
 unfold ziq at h
 cases h1:Nat.blt k m with
 |false=>rw[h1]at h;cases h
 |true=>
  rw[h1]at h
  cases h2:xl ops k (Qu ops o) m with
  |false=>rw[h2]at h;cases h
  |true=>
   rw[h2]at h
   simp only[cond_true]at h
   cases ha:y9 o with
   |false=>rw[ha]at h;exact⟨zzw h,λhc=>by cases hc⟩
   |true=>
    rw[ha]at h
    simp only[cond_true]at h
    have:Region.ready .any ops pl=[k]:=by
     unfold z7r at h
     split at h
     ·rename_i x _ hx;rw[hx,Al h]
     ·cases h
    exact⟨by rw[this];exact Ar,λ_=>this⟩
theorem zz2{P:Program}{gl:Fr}(ai:Fr.le gl M0){tr:TypeId}{n:Nat}{ops:Array Oper}{m:Nat}{pu:List Nat}{e0:ye}{cs:CS}{Kt:List It->Prop}{listed:Array Bool}:∀{ord:List Nat} {pl:Array Bool} {IL:List It},dW P gl tr n ops m pu e0 cs Kt ord pl IL->GInv h0 W M0 P n ops m pu e0 cs listed pl IL ->
  ∃O ac new,dW P gl tr n ops m pu e0 cs Kt O ac (new++IL)/\GInv h0 W M0 P n ops m pu e0 cs listed ac (new++IL)/\zhe ops O=true/\∀i∈new,listed.getD i.k false=false
 |[],pl,IL,H,G=>⟨[],pl,[],H,G,rfl,λi hi=>by cases hi⟩
 |k::ord,pl,IL,H,G=>by
  obtain⟨o,ch,nb,Kan,ho,am,an,hK,af⟩:=zso (h0:=h0) (W:=W) (M0:=M0) ai H
  cases ha:y9 o with
  |true=>exact⟨k::ord,pl,[],H,G,by simp[zhe,ho,ha],λi hi=>by cases hi⟩
  |false=>
   obtain⟨av,rfl⟩:=af ha
   have aj:=(zz1 am).1
   have ah:pl.getD k true=false:=(mem_ready.1 aj).1
   have ae:k<pl.size:=by
    rcases AZ k pl.size with h|h
    ·exact h
    ·simp[Array.getElem?_eq_none h]at ah
   have Z:pl.getD k false=false:=by rw[<-getD_lt ae];exact ah
   have ak:listed.getD k false=false:=by
    cases hb:listed.getD k false with
    |false=>rfl
    |true=>rw[G.sub k hb]at Z;cases Z
   have al:∀i∈IL,i.k≠k:=λi hi e=>by
    have:=(G.mem k).2 ⟨i,hi,e⟩
    rw[this]at Z;cases Z
   have G':GInv h0 W M0 P n ops m pu e0 cs listed (pl.setIfInBounds k true) (⟨k,o.dst,ch,av,nb⟩::IL):=by
    refine⟨by simp[G.size],λj=>?_,BR.2 ⟨λj hj=>(al j hj).symm,G.dist⟩,λi hi=>?_,λj hj=>?_⟩
    ·by_cases aa:k=j
     ·subst aa
      simp only[Af,exists_eq_or_imp,true_or,iff_true]
      simp[ae]
     ·rw[getD_set_ne false aa,G.mem j]
      simp only[Af,exists_eq_or_imp,aa,false_or]
    ·rcases Af.1 hi with rfl|hi
     ·exact⟨(· = av),(an av).mono λi hi=>Ah _ hi,rfl,λ_=>rfl⟩
     ·obtain⟨Ki,h1,h2,h3⟩:=G.items i hi
      exact⟨Ki,h1.mono λi hi=>Ah _ hi,h2,h3⟩
    ·by_cases aa:k=j
     ·subst aa;simp[ae]
     ·rw[getD_set_ne false aa];exact G.sub j hj
   obtain⟨O,ac,new,h1,h2,h3,h4⟩:=zz2 ai (hK av rfl) G'
   refine⟨O,ac,new++[⟨k,o.dst,ch,av,nb⟩],by simpa using h1,by simpa using h2,h3,λi hi=>?_⟩
   rcases An.1 hi with hi|hi
   ·exact h4 i hi
   ·simp only[Be]at hi;subst hi;exact ak
theorem zut{listed:Array Bool}{it:It}(hk:it.k<listed.size)(O:listed.getD it.k false=false):∀{IL:List It},IL.Pairwise (λi j=>i.k≠j.k)->it∈IL->(J0 (listed.setIfInBounds it.k true) IL).Perm (it::J0 listed IL)
 |[],_,h=>by cases h
 |i::l,hd,h=>by
  rw[BR]at hd
  simp only[J0]
  rcases Af.1 h with rfl|h
  ·have e1:(listed.setIfInBounds it.k true).getD it.k false=true:=by simp[hk]
   have e2:J0 (listed.setIfInBounds it.k true) l=J0 listed l:=by
    have:∀{l:List It},(∀j∈l,it.k≠j.k)->J0 (listed.setIfInBounds it.k true) l=J0 listed l:=by
     intro l
     induction l with
     |nil=>intro _;rfl
     |cons j l ih=>
      intro hj
      simp only[J0]
      rw[getD_set_ne false (hj j Ar),ih λx hx=>hj x (Ah _ hx)]
    exact this hd.1
   rw[e1,O,e2]
   exact .refl _
  ·have Z:i.k≠it.k:=hd.1 it h
   rw[getD_set_ne false (Ne.symm Z)]
   have ih:=zut hk O hd.2 h
   cases listed.getD i.k false with
   |true=>exact(ih.cons _).trans (.swap _ _ _)
   |false=>exact ih
theorem zz3{listed:Array Bool}{k:Nat}:∀{l:List It},(∀j∈l,k≠j.k)->J0 (listed.setIfInBounds k true) l=J0 listed l
 |[],_=>rfl
 |j::l,hj=>by
  simp only[J0]
  rw[getD_set_ne false (hj j Ar),zz3 λx hx=>hj x (Ah _ hx)]
theorem znj{listed:Array Bool}{IL:List It}:∀{new:List It},(∀i∈new,listed.getD i.k false=false)->J0 listed (new++IL)=J0 listed IL
 |[],_=>rfl
 |i::l,h=>by
  simp only[A5,J0]
  rw[h i Ar]
  exact znj λx hx=>h x (Ah _ hx)
theorem zuu{listed:Array Bool}:∀{l:List It},(∀i∈l,listed.getD i.k false=true)->J0 listed l=l
 |[],_=>rfl
 |i::l,h=>by
  simp only[J0]
  rw[h i Ar,zuu λx hx=>h x (Ah _ hx)]
  rfl
theorem GInv.ready_pl{e0:ye}{IL:List It}(G:GInv h0 W M0 P n ops m pu e0 cs listed pl IL)(hi:i∈Region.ready .any ops listed)(hp:pl.getD i false=false):i∈Region.ready .any ops pl:=by
 obtain⟨_,o,ho,O⟩:=mem_ready.1 hi
 have Z:i<ops.size:=(Ac.1 ho).1
 exact mem_ready.2 ⟨by rw[getD_lt (by rw[G.size];exact Z)];exact hp,o,ho,λe he hb=>G.sub _ (O e he hb)⟩
theorem zxb(hm:m<=ops.size)(O:ql ops ops.size=true)(aa:listed.size=ops.size)(Z:∃k,k<m/\listed.getD k false=false):∃k,k<m/\k∈Region.ready .any ops listed:=by
 obtain⟨k,⟨h1,h2⟩,h3⟩:=exists_least Z
 refine⟨k,h1,mem_ready.2 ⟨by rw[getD_lt (by omega)];exact h2,ops[k],AN (by omega),λe he hb=>?_⟩⟩
 have ac:=qm O k ops[k] (by omega) (AN (by omega)) e he hb
 cases hb':listed.getD e.on false with
 |true=>rfl
 |false=>
  have:=h3 e.on ⟨by omega,hb'⟩
  omega
def Ww(N m:Nat):Array Bool:=((BJ N).map λk=>Nat.blt k m).toArray
theorem zsp(hm:m<=ops.size)(inv:HeadInv .any ops m listed)(O:∀k,k<m->listed.getD k false=true):listed=Ww ops.size m:=by
 refine Array.ext (by simp[Ww,inv.size]) λi h1 h2=>?_
 have hi:i<ops.size:=by rw[<-inv.size];exact h1
 have e:(Ww ops.size m)[i]=Nat.blt i m:=by simp[Ww]
 rw[e]
 rcases AZ i m with h|h
 ·have:=O i h
  simp only[Array.getD,h1,dite_true]at this
  rw[show Nat.blt i m=true by simpa[CM]using h]
  exact this
 ·have:=inv.tail i h hi
  simp only[Array.getD,h1,dite_true]at this
  have e2:Nat.blt i m=false:=by
   cases hb:Nat.blt i m with
   |false=>rfl
   |true=>have:=CM.mp hb;omega
  rw[e2]
  exact this
def zz4(ops:Array Oper)(pu:List Nat)(m i:Nat):Nat->Bool
 |0=>false
 |j+1=>bif (bif Region.waitsFor .any ops j i then(bif Nat.beq j m then true else !(memN pu j))else false)then Nat.blt i j else zz4 ops pu m i j
theorem zl8{ops:Array Oper}{pu:List Nat}{m i:Nat}:∀{n:Nat},zz4 ops pu m i n=true->∃j,j<n/\i<j/\Region.waitsFor .any ops j i=true/\(j=m\/memN pu j=false)
 |0,h=>by cases h
 |n+1,h=>by
  simp only[zz4]at h
  cases hb:(bif Region.waitsFor .any ops n i then(bif Nat.beq n m then true else !(memN pu n))else false)with
  |false=>
   rw[hb]at h
   obtain⟨j,h1,h2⟩:=zl8 h
   exact⟨j,by omega,h2⟩
  |true=>
   rw[hb]at h
   refine⟨n,by omega,by simpa[CM]using h,?_⟩
   cases hw:Region.waitsFor .any ops n i with
   |false=>rw[hw]at hb;cases hb
   |true=>
    rw[hw]at hb
    refine⟨rfl,?_⟩
    cases hm:Nat.beq n m with
    |true=>exact .inl (Al hm)
    |false=>rw[hm]at hb;exact .inr (by simpa using hb)
def zxc(ops:Array Oper)(pu:List Nat)(m:Nat):Nat->Bool
 |0=>true
 |i+1=>bif (bif memN pu i then true else zz4 ops pu m i (m+1))then zxc ops pu m i else false
theorem zl9{ops:Array Oper}{pu:List Nat}{m:Nat}:∀{n:Nat},zxc ops pu m n=true->∀i,i<n->memN pu i=false->∃j,j<=m/\i<j/\Region.waitsFor .any ops j i=true/\(j=m\/memN pu j=false)
 |0,_,i,hi,_=>by omega
 |n+1,h,i,hi,hp=>by
  simp only[zxc]at h
  cases hb:(bif memN pu n then true else zz4 ops pu m n (m+1))with
  |false=>rw[hb]at h;cases h
  |true=>
   rw[hb]at h
   rcases AZ i n with h1|h1
   ·exact zl9 h i h1 hp
   ·have:i=n:=by omega
    subst this
    rw[hp]at hb
    obtain⟨j,a1,a2⟩:=zl8 hb
    exact⟨j,by omega,a2⟩
def zxd(ops:Array Oper)(pu:List Nat)(m:Nat):Bool:=bif Nat.beq m ops.size then true else bif zxc ops pu m m then Region.chainB .any ops m else false
theorem zsq(hm:m<ops.size)(hs:zxc ops pu m m=true)(hc:Region.chainB .any ops m=true)(inv:HeadInv .any ops m listed):
  ∀(d i:Nat),m-i=d->i<m->listed.getD i false=false->memN pu i=false->∀t,m<=t->t∉Region.ready .any ops listed:=by
 intro d
 induction d using Nat.strongRecOn with
 |_ d ih=>
  intro i hd hi O ae t ht hr
  obtain⟨_,ot,ai,ak⟩:=mem_ready.1 hr
  have aa:t<ops.size:=(Ac.1 ai).1
  by_cases af:t=m
  ·subst af
   obtain⟨j,h1,h2,h3,h4⟩:=zl9 hs i hi ae
   by_cases Z:j=t
   ·subst Z
    rw[Y8 hr h3]at O;cases O
   ·have ah:memN pu j=false:=h4.resolve_left Z
    cases hl:listed.getD j false with
    |true=>
     obtain⟨oj,aj,e,he,hb,ac⟩:=Region.waitsFor_spec h3
     have:=inv.closed j oj aj hl e he hb
     rw[ac,O]at this
     cases this
    |false=>exact ih (t-j) (by omega) j rfl (by omega) hl ah t (Ae _) hr
  ·have h1:=AQ.1 hc t (Cc.2 aa)
   simp only[Cr,decide_eq_true_eq]at h1
   rcases h1 with h1|h1
   ·omega
   ·have:=Y8 hr h1
    rw[getD_both (inv.tail (t-1) (by omega) (by omega))]at this
    cases this
theorem z4w(hm:m<=ops.size)(he:zxd ops pu m=true)(inv:HeadInv .any ops m listed)(O:∃k,k<m/\k∈Region.ready .any ops listed/\memN pu k=false):∀i∈Region.ready .any ops listed,i<m:=by
 intro i hi
 obtain⟨_,o,ho,_⟩:=mem_ready.1 hi
 have Z:i<ops.size:=(Ac.1 ho).1
 rcases AZ i m with h|h
 ·exact h
 ·exfalso
  unfold zxd at he
  cases hb:Nat.beq m ops.size with
  |true=>have:=Al hb;omega
  |false=>
   rw[hb]at he
   simp only[cond_false]at he
   cases hs:zxc ops pu m m with
   |false=>rw[hs]at he;cases he
   |true=>
    rw[hs]at he
    obtain⟨k,h1,h2,h3⟩:=O
    exact zsq (by omega) hs he inv _ k rfl h1 (getD_both (mem_ready.1 h2).1) h3 i h hi
theorem qfg(hgl:Fr.le gl M0){e0:ye}{Kt:List It->Prop}{Q:Exit->Act->World->Prop}(hm:m<=ops.size)(hnd:w8 ops m=true)(hback:ql ops ops.size=true)(hends:zxd ops pu m=true)(hsel:Region.noSelect ops=true)(hQp:∀c a w,¬Q (.panic c) a w)
    (he0:∀x∈e0,x.2.1=[]/\x.1∉yz ops m/\Y7 x.2.2 (yz ops m)=true) (B:World) {g:Nat} {a0:Act} {γ0:Gh}
    (hQ:∀IL γ a d h,SatA n (itE IL++e0) γ a->Inv h0 W M0 (itC IL++cs) γ h->Same (yz ops m) a0 a->GxS (yz ops m) γ0 γ->Kt IL->wpAny P .any ops Q g (Ww ops.size m) a (mk B d h)):
    ∀(N:Nat) (U:List Nat) (listed:Array Bool) (ord:List Nat) (pl:Array Bool) (IL:List It) (γ:Gh) (a:Act) (d:Nat) (h:zb),U.length=N->U.Nodup->(∀k,k∈U↔k<m/\listed.getD k false=false)->HeadInv .any ops m listed ->
      dW P gl tr n ops m pu e0 cs Kt ord pl IL->zhe ops ord=true->GInv h0 W M0 P n ops m pu e0 cs listed pl IL->Mid h0 W M0 P n ops m e0 cs listed IL γ a h->Same (yz ops m) a0 a->GxS (yz ops m) γ0 γ ->
      wpAny P .any ops Q (N+g) listed a (mk B d h):=by
  intro N
  induction N with
  |zero=>
    intro U listed ord pl IL γ a d h hU _ hmem inv H hanch G M hsame hgx
    have hUn:U=[]:=Ck.1 hU
    subst hUn
    have hall:∀k,k<m->listed.getD k false=true:=λk hk=>by
      cases hb:listed.getD k false with
      |true=>rfl
      |false=>exact absurd ((hmem k).2 ⟨hk,hb⟩) (by simp)
    have hKt:Kt IL:=by
      cases ord with
      |nil=>
        unfold dW at H
        cases hb:zw9 pl m with
        |true=>rw[hb]at H;exact H
        |false=>rw[hb]at H;exact H.elim
      |cons k ord=>
        exfalso
        obtain⟨o,ch,nb,Kan,ho,hst,hit,_,_⟩:=zso (h0:=h0) (W:=W) (M0:=M0) hgl H
        have hk:k<m:=(hit (.g (.a (.v undef)))).lt
        have h1:=(mem_ready.1 (zz1 hst).1).1
        rw[getD_lt (by rw[G.size];omega),G.sub k (hall k hk)]at h1
        cases h1
    have hact:J0 listed IL=IL:=zuu λi hi=>by
      obtain⟨Ki,Ti,_⟩:=G.items i hi
      exact hall _ Ti.lt
    have h1:=M.sat
    have h2:=M.inv
    rw[hact]at h1 h2
    rw[AH,zsp hm inv hall]
    exact hQ IL γ a d h h1 h2 hsame hgx hKt
  |succ N ih=>
    intro U listed ord pl IL γ a d h hU hdup hmem inv H hanch G M hsame hgx
    have hex:∃k,k<m/\listed.getD k false=false:=by
      cases U with
      |nil=>cases hU
      |cons k U=>exact⟨k,(hmem k).1 Ar⟩
    obtain⟨k0,hk0m,hk0⟩:=zxb hm hback inv.size hex
    rw[show N+1+g=(N+g)+1 by omega]
    have gen:∀i,i∈Region.ready .any ops listed->i<m->(memN pu i=true->wpAny P .any ops Q (N+g+1) listed a (mk B d h))/\wpOp P ops Q i (wpAny P .any ops Q (N+g) (listed.setIfInBounds i true)) a (mk B d h):=by
      intro i hi him
      have hun:listed.getD i false=false:=getD_both (mem_ready.1 hi).1
      have hils:i<listed.size:=by rw[inv.size];omega
      have hU':(U.erase i).length=N:=by rw[CW ((hmem i).2 ⟨him,hun⟩),hU];rfl
      have hdup':(U.erase i).Nodup:=hdup.erase i
      have hmem':∀k,k∈U.erase i↔k<m/\(listed.setIfInBounds i true).getD k false=false:=λk=>by
        rw[hdup.mem_erase_iff,hmem k]
        by_cases hk:i=k
        · subst hk;simp[hils]
        · rw[getD_set_ne false hk];exact⟨λhx=>hx.2,λhx=>⟨λe=>hk e.symm,hx⟩⟩
      have inv':=inv.set hi him
      have toS:∀{it:It} {Kan:AV->Prop},ItOK h0 W M0 P n ops m pu e0 cs IL it Kan->∀{γ':Gh},Gx (it.nb.map (·.1)) γ γ'->GxS (yz ops m) γ γ':=by
        intro it Kan T γ' gx
        refine⟨gx.1,λj hj=>?_⟩
        refine gx.2 j λhc=>hj ?_
        obtain⟨o,e,ho,_,sp,_,_⟩:=T.ex
        cases hnb:it.nb with
        |none=>rw[hnb]at hc;cases hc
        |some b=>
          rw[hnb]at hc
          have:b.1=j:=by simpa using hc
          subst this
          obtain⟨_,h2,_⟩:=sp.box b hnb
          exact zfd T.lt (by rw[zdu ho];exact h2)
      have toSame:∀{it:It} {Kan:AV->Prop},ItOK h0 W M0 P n ops m pu e0 cs IL it Kan->∀u,Same (yz ops m) a (a.put it.dst u):=λ {it} {Kan} T u=>
        Same.put a it.dst u λj hj=>zfd T.lt (by rw[T.dst];exact hj)
      have hILk:∀x∈IL,∃Kan,ItOK h0 W M0 P n ops m pu e0 cs IL x Kan/\Kan x.av:=λx hx=>by
        obtain⟨Kx,h1,h2,_⟩:=G.items x hx
        exact⟨Kx,h1,h2⟩
      cases hpl:pl.getD i false with
      |true=>
        obtain⟨it,hit,hik⟩:=(G.mem i).1 hpl
        subst hik
        obtain⟨Kan,T,_,hdet⟩:=G.items it hit
        have fwd:∀u γ' h' d',(∀L':List It,L'.Perm (it::J0 listed IL)->SatA n (itE L'++e0) γ' (a.put it.dst u)/\Inv h0 W M0 (itC L'++cs) γ' h')->Gx (it.nb.map (·.1)) γ γ'->wpAny P .any ops Q (N+g) (listed.setIfInBounds it.k true) (a.put it.dst u) (mk B d' h'):=by
         intro u γ' h' d' hst hgx'
         obtain⟨s1,s2⟩:=hst _ (zut hils hun G.dist hit)
         refine ih _ _ ord pl IL γ' _ d' h' hU' hdup' hmem' inv' H hanch ⟨G.size,G.mem,G.dist,λx hx=>?_,λk hk=>?_⟩ ⟨s1,s2⟩ (hsame.trans (toSame T u)) (hgx.trans (toS T hgx'))
         · obtain⟨Kx,h1,h2,h3⟩:=G.items x hx
           refine⟨Kx,h1,h2,λhf=>h3 ?_⟩
           by_cases hk:it.k=x.k
           · rw[<-hk];exact hun
           · rw[getD_set_ne false hk]at hf;exact hf
         · by_cases hk':it.k=k
           · subst hk';exact hpl
           · rw[getD_set_ne false hk']at hk;exact G.sub k hk
        have hK0:Kan it.av:=by rw[hdet hun]
        refine⟨λhp=>zz0 hnd he0 hILk inv M T hK0 hi hp hsel hQp B d λu hst hgx'=>fwd u γ h d hst hgx',zqk hnd he0 hILk inv M T hi B d λav u γ' h' d' hav hst hgx'=>?_⟩
        have hav':av=it.av:=by rw[hdet hun]at hav;exact hav
        subst hav'
        exact fwd u γ' h' d' hst hgx'
      |false=>
        have hrp:=G.ready_pl hi hpl
        cases ord with
        |nil=>
          exfalso
          unfold dW at H
          cases hb:zw9 pl m with
          |true=>rw[zl5 hb i him]at hpl;cases hpl
          |false=>rw[hb]at H;exact H
        |cons k ord=>
          obtain⟨o,ch,nb,Kan,ho,hst,hit,hK,_⟩:=zso (h0:=h0) (W:=W) (M0:=M0) hgl H
          have hanc:y9 o=true:=by simpa[zhe,ho]using hanch
          have hrk:=(zz1 hst).2 hanc
          rw[hrk]at hrp
          have hik:i=k:=by simpa using hrp
          subst hik
          refine⟨λhp=>?_,zqk hnd he0 hILk inv M (hit (.g (.a (.v undef)))) hi B d λav u γ' h' d' hav hst' hgx'=>?_⟩
          · obtain⟨o',_,ho',_,_,_,hpp⟩:=(hit (.g (.a (.v undef)))).ex
            have:=(hpp hp).2.2.2
            have e':o'=o:=Ax (ho'.symm.trans ho)
            rw[e',hanc]at this;cases this
          have hne:∀j∈IL,i≠j.k:=λj hj e=>by
            have:=(G.mem i).2 ⟨j,hj,e.symm⟩
            rw[hpl]at this;cases this
          have hips:i<pl.size:=by rw[G.size,<-inv.size];exact hils
          have G':GInv h0 W M0 P n ops m pu e0 cs (listed.setIfInBounds i true) (pl.setIfInBounds i true) (⟨i,o.dst,ch,av,nb⟩::IL):=by
            refine⟨by simp[G.size],λj=>?_,BR.2 ⟨λj hj=>hne j hj,G.dist⟩,λx hx=>?_,λj hj=>?_⟩
            · by_cases hjk:i=j
              · subst hjk
                simp only[Af,exists_eq_or_imp,true_or,iff_true]
                simp[hips]
              · rw[getD_set_ne false hjk,G.mem j]
                simp only[Af,exists_eq_or_imp,hjk,false_or]
            · rcases Af.1 hx with rfl|hx
              · exact⟨Kan,(hit av).mono λx hx=>Ah _ hx,hav,λhf=>by simp[hils]at hf⟩
              · obtain⟨Kx,h1,h2,h3⟩:=G.items x hx
                refine⟨Kx,h1.mono λx hx=>Ah _ hx,h2,λhf=>h3 ?_⟩
                rw[getD_set_ne false (hne x hx)]at hf;exact hf
            · by_cases hjk:i=j
              · subst hjk;simp[hips]
              · rw[getD_set_ne false hjk]at hj ⊢;exact G.sub j hj
          obtain⟨ord',pl',new,h1,h2,h3,h4⟩:=zz2 hgl (hK av hav) G'
          have hact:J0 (listed.setIfInBounds i true) (new++⟨i,o.dst,ch,av,nb⟩::IL)=⟨i,o.dst,ch,av,nb⟩::J0 listed IL:=by
            rw[znj h4]
            simp only[J0]
            rw[show(listed.setIfInBounds i true).getD i false=true by simp[hils],zz3 hne]
            rfl
          obtain⟨s1,s2⟩:=hst' (⟨i,o.dst,ch,av,nb⟩::J0 listed IL) (.refl _)
          exact ih _ _ ord' pl' _ γ' _ d' h' hU' hdup' hmem' inv' h1 h3 h2 ⟨by rw[hact];exact s1,by rw[hact];exact s2⟩ (hsame.trans (toSame (hit av) u)) (hgx.trans (toS (hit av) hgx'))
    by_cases hpe:∃i,i∈Region.ready .any ops listed/\i<m/\memN pu i=true
    · obtain⟨i,hi,him,hp⟩:=hpe
      exact(gen i hi him).1 hp
    · refine⟨λhc=>(by rw[hc]at hk0;cases hk0),λi hi=>(gen i hi (z4w hm hends inv ⟨k0,hk0m,hk0,?_⟩ i hi)).2⟩
      cases hb:memN pu k0 with
      |false=>rfl
      |true=>exact absurd ⟨k0,hk0,hk0m,hb⟩ hpe
def z9o(ops:Array Oper)(m:Nat)(pu:List Nat):Bool:=
 bif Nat.ble m ops.size then(bif w8 ops m then(bif ql ops ops.size then(bif zxd ops pu m then(bif Region.noSelect ops then Region.seqB .any ops (ops.size-m) m (Ww ops.size m)else false)else false)else false)else false)else false
def z9p(P:Program)(gl:Fr)(tr:TypeId)(n:Nat)(ops:Array Oper)(m:Nat)(ord pu:List Nat)(R:CS)(K:ye->CS->Prop)(e:ye)(C:CS):Prop:=
 bif z9o ops m pu then dW P gl tr n ops m pu (zgp (yz ops m) e) (C++R) (λIL=>wRA P gl tr n ops R K (ops.toList.drop m) (itE IL++zgp (yz ops m) e) (itC IL++C)) ord (Bm ops.size false) []else False
theorem zsr(hm:P.follows .mixedOrders=true)(ac:Fr.le gl M0){K:ye->CS->Prop}{e:ye}
  (H:z9p P gl tr n ops m ord pu R K e C) (B:World) (d:Nat) (hs:SatA n e γ a) (I:Inv h0 W M0 (C++R) γ h) {Q:Exit->Act->World->Prop}
  (hQ:∀e' C' γ' a' d' h',SatA n e' γ' a'->Inv h0 W M0 (C'++R) γ' h'->Same (je ops.toList) a a'->GxS (je ops.toList) γ γ'->K e' C'->Q .normal a' (mk B d' h')):(Db id ops true).wp P Q a (mk B d h):=by
 unfold z9p at H
 cases hB:z9o ops m pu with
 |false=>rw[hB]at H;exact H.elim
 |true=>
  rw[hB]at H
  simp only[cond_true]at H
  have aD:m<=ops.size/\w8 ops m=true/\ql ops ops.size=true/\zxd ops pu m=true/\Region.noSelect ops=true/\Region.seqB .any ops (ops.size-m) m (Ww ops.size m)=true:=by
   unfold z9o at hB
   cases h1:Nat.ble m ops.size with
   |false=>rw[h1]at hB;cases hB
   |true=>
    rw[h1]at hB
    cases h2:w8 ops m with
    |false=>rw[h2]at hB;cases hB
    |true=>
     rw[h2]at hB
     cases h3:ql ops ops.size with
     |false=>rw[h3]at hB;cases hB
     |true=>
      rw[h3]at hB
      cases h4:zxd ops pu m with
      |false=>rw[h4]at hB;cases hB
      |true=>
       rw[h4]at hB
       cases h5:Region.noSelect ops with
       |false=>rw[h5]at hB;cases hB
       |true=>
        rw[h5]at hB
        exact⟨BS h1,rfl,rfl,rfl,rfl,hB⟩
  obtain⟨ay,ax,af,ae,aj,al⟩:=aD
  have O:je ops.toList=je (ops.toList.take m)++je (ops.toList.drop m):=by rw[<-Z7,Br]
  have au:∀x∈zgp (yz ops m) e,x.2.1=[]/\x.1∉yz ops m/\Y7 x.2.2 (yz ops m)=true:=λx hx=>(xo hx).2
  have ak:HeadInv .any ops m (Bm ops.size false):=
   ⟨by simp,λj oj _ hl=>(by rw[getD_replicate_false]at hl;cases hl),λt _ ht=>getD_in (by simpa using ht) (getD_replicate_false _ _)⟩
  have G0:GInv h0 W M0 P n ops m pu (zgp (yz ops m) e) (C++R) (Bm ops.size false) (Bm ops.size false) []:=
   ⟨by simp,λk=>by rw[getD_replicate_false];simp,List.Pairwise.nil,λi hi=>(by cases hi),λk hk=>hk⟩
  obtain⟨ah,aA,new,h1,h2,h3,h4⟩:=zz2 ac H G0
  have Z:J0 (Bm ops.size false) (new++[])=[]:=by rw[znj h4];rfl
  have ai:SatA n (zgp (yz ops m) e) γ a:=hs.sub λx hx=>(xo hx).1
  let Qn:Exit->Act->World->Prop:=λx a w=>x=.normal/\Q .normal a w
  refine wp_mono (Q':=Q) (Q:=Qn) ?_ (λx a w hq=>by obtain⟨rfl,h⟩:=hq;exact h)
  refine wp_region_any hm ?_
  have ar:ops.size=m+(ops.size-m):=by omega
  have key:=qfg (n:=n) (Q:=Qn) (pu:=pu) ac ay ax af ae aj (λc a w hq=>by cases hq.1) au B (g:=ops.size-m) (a0:=a) (γ0:=γ) (Kt:=λIL=>wRA P gl tr n ops R K (ops.toList.drop m) (itE IL++zgp (yz ops m) e) (itC IL++C)) (λIL γ' a' d' h' s1 s2 s3 s4 s5=>?_) m (BJ m) (Bm ops.size false) ah aA (new++[]) γ a (d+1) h DY Dw (λk=>by rw[Cc,getD_replicate_false];simp) ak h1 h3 h2 ⟨by rw[Z];exact ai,by rw[Z];exact I⟩ (Same.refl _ _) (GxS.refl _ _)
  ·rw[<-ar]at key
   exact key
  ·have aa:(ops.toList.drop m).length=ops.size-m:=by simp
   rw[<-aa]
   refine wpAny_of_seq (md:=.any) (ops.toList.drop m) m _ a' _ (λj=>by simp[AJ]) (by rw[aa];exact al) ?_
   refine zdq ac B _ _ _ _ _ _ d' s5 s1 (by rw[AP];exact s2) λam an aB aC ap az q4 q5 q6 q7 q8=>⟨rfl,hQ am an aB aC ap az q4 q5 ?_ ?_ q8⟩
   ·rw[O]
    exact(s3.mono λx hx=>Aq _ hx).trans (q6.mono λx hx=>AC _ hx)
   ·rw[O]
    exact(s4.mono λx hx=>Aq _ hx).trans (q7.mono λx hx=>AC _ hx)
abbrev z4x:=List (Nat×Nat×List Nat×List Nat×List Nat)
def z7s:z4x->Nat->Option (Nat×List Nat×List Nat×List Nat)
 |[],_=>none
 |(j,x)::l,i=>bif Nat.beq i j then some x else z7s l i
def zss(P:Program)(gl:Fr)(tr:TypeId)(n:Nat)(tl:zzt)(dl:z4x)(id:Nat)(ops:Array Oper)(O:Bool)(R:CS)(K:ye->CS->Prop)(e:ye)(C:CS):Prop:=
 match z7s dl id with
 |none=>zsk P gl tr n tl id ops O R K e C
 |some (m,fz,ord,pu)=>bif O then z9p P gl tr n ops m ord pu R K e (frzL fz C)else False
theorem znk(hm:P.follows .mixedOrders=true)(Z:Fr.le gl M0){tl:zzt}{dl:z4x}{O:Bool}{K:ye->CS->Prop}{e:ye}
  (H:zss P gl tr n tl dl id ops O R K e C) (B:World) (d:Nat) (hs:SatA n e γ a) (I:Inv h0 W M0 (C++R) γ h) {Q:Exit->Act->World->Prop}
  (hQ:∀e' C' γ' a' d' h',SatA n e' γ' a'->Inv h0 W M0 (C'++R) γ' h'->Same (je ops.toList) a a'->GxS (je ops.toList) γ γ'->K e' C'->Q .normal a' (mk B d' h')):(Db id ops O).wp P Q a (mk B d h):=by
 unfold zss at H
 split at H
 ·exact zni hm Z H B d hs I hQ
 ·rename_i m fz ord pu _
  cases O with
  |false=>exact H.elim
  |true=>
   obtain⟨γ1,I1,g1⟩:=Inv.frzL (C:=C) (γ:=γ) fz I
   refine zsr hm Z H B d (hs.gx g1) I1 λe' C' γ' a' d' h' q1 q2 q3 q4 q5=>hQ e' C' γ' a' d' h' q1 q2 q3 (GxS.trans ⟨g1.1,λi _=>g1.2 i (by simp)⟩ q4) q5
end
section
variable {S:List Nat} {γ γ':Gh} {u:Value} {C R:CS} {h:zb} {n:Nat} {a:Act} {P:Program} {f:FuncId}
variable {h0 : zb} {W : Nat -> Prop} {M0 : Fr}
structure PlanA where
 tails:zzt
 draws:z4x
 loops:List (Nat×AnnA)
 joins:List (Nat×AnnA)
def qc6:List (Nat×AnnA)->Option Nat->Option AnnA
 |[],_=>none
 |(j,m)::l,some i=>bif Nat.beq i j then some m else qc6 l (some i)
 |_,none=>none
def qcd:AA->List Nat
 |.box j _=>[j]
 |.own j=>[j]
 |.oelt j _ _ _=>[j]
 |_=>[]
def zz5(S:List Nat):List AA->Bool
 |[]=>true
 |x::l=>bif (match qcd x with
  |[]=>true
  |j::_=>!(memN S j))then zz5 S l else false
def z4y(S:List Nat):AG->Bool
 |.a x=>zz5 S [x]
 |.agg l=>zz5 S l
def zuv(S:List Nat):List AG->Bool
 |[]=>true
 |x::l=>bif z4y S x then zuv S l else false
def z9q(S:List Nat):AV->Bool
 |.g x=>z4y S x
 |.tup l=>zuv S l
 |.nx _ _ _=>true
theorem DenA.gxS(g:GxS S γ γ'){x:AA}(hm:(match qcd x with
  |[]=>true
  |j::_=>!(memN S j))=true)(h:DenA γ x u):DenA γ' x u:=by
 have key:∀j,memN S j=false->γ'.β j=γ.β j/\γ'.σ j=γ.σ j:=λj hj=>g.2 j (Ze hj)
 cases x with
 |v y=>exact h
 |d t y=>exact Rd.mono g.1 h
 |box j o=>rw[show u=_ from h];simp only[DenA,(key j (by simpa[qcd]using hm)).1]
 |own j=>rw[show u=_ from h];simp only[DenA,(key j (by simpa[qcd]using hm)).2]
 |oelt j z i o=>obtain⟨b,e1,e2⟩:=h;exact⟨b,by rw[(key j (by simpa[qcd]using hm)).2];exact e1,e2⟩
 |elt t y o=>obtain⟨b,f,cs,e,h1,h2⟩:=h;exact⟨b,f,cs,e,g.1 _ _ h1,Rd.mono g.1 h2⟩
 |dc t xs=>obtain⟨s,e1,e2,h⟩:=h;exact⟨s,e1,e2,Rd.mono g.1 h⟩
theorem DenL.gxS{S:List Nat}{γ γ':Gh}(g:GxS S γ γ'):∀{l:List AA} {us:List Value},zz5 S l=true->All2 (DenA γ) l us->All2 (DenA γ') l us
 |[],[],_,_=>trivial
 |[],_::_,_,h=>h.elim
 |_::_,[],_,h=>h.elim
 |x::l,u::us,hm,h=>by
  simp only[zz5]at hm
  cases hx:(match qcd x with
   |[]=>true
   |j::_=>!(memN S j))with
  |false=>rw[hx]at hm;cases hm
  |true=>rw[hx]at hm;exact⟨DenA.gxS g hx h.1,DenL.gxS g hm h.2⟩
theorem DenG.gxS(g:GxS S γ γ'){x:AG}(hm:z4y S x=true)(h:DenG γ x u):DenG γ' x u:=by
 cases x with
 |a x=>
  have:All2 (DenA γ') [x] [u]:=DenL.gxS g hm (show All2 (DenA γ) [x] [u]from⟨h,trivial⟩)
  exact this.1
 |agg l=>obtain⟨us,e,h⟩:=h;exact⟨us,e,DenL.gxS g hm h⟩
theorem DenV.gxS(g:GxS S γ γ'){x:AV}(hm:z9q S x=true)(h:DenV γ x u):DenV γ' x u:=by
 cases x with
 |g x=>exact DenG.gxS g hm h
 |tup l=>
  obtain⟨us,e,h⟩:=h
  refine⟨us,e,?_⟩
  have:∀{l:List AG} {us:List Value},zuv S l=true->All2 (DenG γ) l us->All2 (DenG γ') l us:=by
   intro l
   induction l with
   |nil=>intro us _ h;cases us with
    |nil=>trivial
    |cons _ _=>exact h.elim
   |cons x l ih=>
    intro us hm h
    cases us with
    |nil=>exact h.elim
    |cons u us=>
     simp only[zuv]at hm
     cases hx:z4y S x with
     |false=>rw[hx]at hm;cases hm
     |true=>rw[hx]at hm;exact⟨DenG.gxS g hx h.1,ih hm h.2⟩
  exact this hm h
 |nx b p c=>exact h
def zir(ms S:List Nat):ye->ye
 |[]=>[]
 |(i,[],v)::e=>bif memN ms i then zir ms S e else(bif z9q S v then(i,[],v)::zir ms S e else zir ms S e)
 |(_,_::_,_)::e=>zir ms S e
theorem Wx{ms S:List Nat}{γ γ1:Gh}{a a1:Act}(g:GxS S γ γ1)(O:Same ms a a1):∀{e:ye},(∀x∈e,zm9 γ (zw a) x)->∀x∈zir ms S e,zm9 γ1 (zw a1) x
 |[],_,x,hx=>by cases hx
 |(i,[],v)::e,h,x,hx=>by
  have ih:=Wx g O (e:=e) λx hx=>h x (Ah _ hx)
  simp only[zir]at hx
  cases hm:memN ms i with
  |true=>rw[hm]at hx;exact ih x hx
  |false=>
   rw[hm]at hx
   simp only[cond_false]at hx
   cases hn:z9q S v with
   |false=>rw[hn]at hx;exact ih x hx
   |true=>
    rw[hn]at hx
    rcases Af.1 hx with rfl|hx
    ·refine⟨λ_=>?_,λZ=>absurd trivial Z⟩
     have:=(h _ Ar).1 trivial
     simp only at this ⊢
     rw[O _ (Ze hm)]
     exact this.gxS g hn
    ·exact ih x hx
 |(_,_::_,_)::e,h,x,hx=>Wx g O (e:=e) (λx hx=>h x (Ah _ hx)) x hx
def inC(ro:List Nat):CS->CS
 |[]=>[]
 |(c,k)::l=>bif memN ro c then(c,k)::inC ro l else inC ro l
def z9r(ro:List Nat):CS->CS
 |[]=>[]
 |(c,k)::l=>bif memN ro c then z9r ro l else(c,k)::z9r ro l
theorem zma(ro:List Nat):∀C:CS,(z9r ro C++inC ro C).Perm C
 |[]=>.nil
 |(c,k)::l=>by
  have ih:=zma ro l
  simp only[inC,z9r]
  cases memN ro c with
  |true=>exact List.perm_middle.trans (ih.cons _)
  |false=>exact ih.cons _
theorem Inv.part(I:Inv h0 W M0 (C++R) γ h)(ro:List Nat):Inv h0 W M0 (z9r ro C++(inC ro C++R)) γ h:=by
 rw[<-AP]
 exact I.perm ((zma ro C).symm.append_right R)
abbrev zbe:=Exit->ye->CS->Prop
def qc7(K:ye->CS->Prop)(Q:zbe):zbe
 |.normal,e,C=>K e C
 |x,e,C=>Q x e C
def zz6(id:Nat)(Q:zbe):zbe
 |.exit i,e,C=>bif Nat.beq i id then Q .normal e C else Q (.exit i) e C
 |x,e,C=>Q x e C
def z7t(m:CS)(K:ye->CS->Prop)(Q:zbe):zbe
 |.normal,e,C=>K e C
 |x,e,C=>Q x e (C++m)
def zey(pl:PlanA):Code->List Nat
 |.region _ ops _=>je ops.toList
 |.seq a b=>zey pl a++(zey pl b++(match qc6 pl.joins (wv b)with
  |some J=>J.ids
  |none=>[]))
 |.cond _ a b=>zey pl a++zey pl b
 |.block _ b=>zey pl b
 |.loop b=>zey pl b++(match qc6 pl.loops (wv b)with
  |some J=>J.ids
  |none=>[])
 |_=>[]
def atA{X:Type}(J:AnnA)(R:CS)(F:zw1 (zb0 J) X)(e:ye)(C:CS)(k:X->Prop):Prop:=
 match xtr J R e C with
 |some ds=>match zgo (zb0 J) ds F with
  |some q=>k q
  |none=>False
 |none=>False
theorem zst{X:Type}{J:AnnA}{F:zw1 (zb0 J) X}{e:ye}{k:X->Prop}(h:atA J R F e C k):∃ds q,xtr J R e C=some ds/\zgo (zb0 J) ds F=some q/\k q:=by
 unfold atA at h
 split at h
 ·rename_i ds hd
  split at h
  ·rename_i q hq;exact⟨ds,q,hd,hq,h⟩
  ·exact h.elim
 ·exact h.elim
def WA(P:Program)(gl:Fr)(tr:TypeId)(n:Nat)(pl:PlanA):Code->CS->zbe->ye->CS->Prop
 |.skip,_,Q,e,C=>Q .normal e C
 |.ret,_,Q,e,C=>Q .ret e C
 |.exit id,_,Q,e,C=>Q (.exit id) e C
 |.label _,_,Q,e,C=>Q .normal e C
 |.goto l,_,Q,e,C=>Q (.goto l) e C
 |.region id ops draw,R,Q,e,C=>zss P gl tr n pl.tails pl.draws id ops draw R (λe C=>Q .normal e C) e C
 |.seq x y,R,Q,e,C=>match qc6 pl.joins (wv y)with
  |none=>WA P gl tr n pl x R (qc7 (λe C=>WA P gl tr n pl y R Q e C) Q) e C
  |some J=>∀K:zw1 (zb0 J) Prop,zzq (zb0 J) K (λds q=>WA P gl tr n pl y R Q (z7q J ds++zir (Q3 x) (J.ids++zey pl x) e) (chJ J ds++inC J.ro C)->q) ->
    WA P gl tr n pl x (inC J.ro C++R) (z7t (inC J.ro C) (λe1 C1=>atA J (inC J.ro C++R) K e1 C1 λq=>q) Q) e (z9r J.ro C)
 |.cond c x y,R,Q,e,C=>match zh9 e [] c with
  |some v=>match zwu v with
   |some b=>(b=true->WA P gl tr n pl x R Q e C)/\(b=false->WA P gl tr n pl y R Q e C)
   |none=>False
  |none=>False
 |.block id x,R,Q,e,C=>WA P gl tr n pl x R (zz6 id Q) e C
 |.loop x,R,Q,e,C=>match qc6 pl.loops (wv x)with
  |some J=>∃(I:zw1 (zb0 J) Prop) (μ:zw1 (zb0 J) Nat),atA J (inC J.ro C++R) (zqc (zb0 J) I μ) e (z9r J.ro C) (λp=>p.1) /\
    zzq (zb0 J) (zqc (zb0 J) I μ) λds p=>p.1->WA P gl tr n pl x (inC J.ro C++R) (z7t (inC J.ro C) (λe1 C1=>atA J (inC J.ro C++R) (zqc (zb0 J) I μ) e1 C1 λq=>q.1/\q.2<p.2) Q)
     (z7q J ds++zir (Q3 x) (J.ids++zey pl x) e) (chJ J ds)
  |none=>False
 |_,_,_,_,_=>False
def qc8(h0:zb)(W:Nat->Prop)(M0:Fr)(n:Nat)(B:World)(ms S:List Nat)(a0:Act)(γ0:Gh)(R:CS)(Q:zbe):Exit->Act->World->Prop:=
 λx a w=>∃e C γ d h,w=mk B d h/\SatA n e γ a/\Inv h0 W M0 (C++R) γ h/\Same ms a0 a/\GxS S γ0 γ/\Q x e C
theorem zxe{e:ye}{γ0 γ γ1:Gh}{a a1:Act}(hs:SatA n e γ0 a){ms S ids:List Nat}(hd:a1.defers=[])(hz:a1.tmps.size=n)(O:Same ms a a1)(g:GxS S γ0 γ)(g1:GxS ids γ γ1){J:AnnA}{ds:List Dy}
  (hf:∀x∈z7q J ds,zm9 γ1 (zw a1) x):SatA n (z7q J ds++zir ms (ids++S) e) γ1 a1:=by
 refine⟨hd,hz,λx hx=>?_⟩
 rcases An.1 hx with hx|hx
 ·exact hf x hx
 ·exact Wx ((g.mono λx hx=>AC _ hx).trans (g1.mono λx hx=>Aq _ hx)) O hs.all x hx
theorem z4z(hm:P.follows .mixedOrders=true){gl:Fr}(ar:Fr.le gl M0){tr:TypeId}{pl:PlanA}:∀(c:Code) (R:CS) (Q:zbe) (e:ye) (C:CS),WA P gl tr n pl c R Q e C ->
  ∀(γ:Gh) (h:zb) (B:World) (d:Nat) (a:Act),SatA n e γ a->Inv h0 W M0 (C++R) γ h->c.wp P (qc8 h0 W M0 n B (Q3 c) (zey pl c) a γ R Q) a (mk B d h):=by
 intro c
 induction c with
 |skip=>exact λR Q e C H γ h B d a hs I=>wp_skip ⟨e,C,γ,d,h,rfl,hs,I,Same.refl _ _,GxS.refl _ _,H⟩
 |ret=>exact λR Q e C H γ h B d a hs I=>wp_ret ⟨e,C,γ,d,h,rfl,hs,I,Same.refl _ _,GxS.refl _ _,H⟩
 |exit id=>exact λR Q e C H γ h B d a hs I=>wp_exit ⟨e,C,γ,d,h,rfl,hs,I,Same.refl _ _,GxS.refl _ _,H⟩
 |label l=>exact λR Q e C H γ h B d a hs I=>wp_label ⟨e,C,γ,d,h,rfl,hs,I,Same.refl _ _,GxS.refl _ _,H⟩
 |goto l=>exact λR Q e C H γ h B d a hs I=>wp_goto ⟨e,C,γ,d,h,rfl,hs,I,Same.refl _ _,GxS.refl _ _,H⟩
 |region id ops aF=>
  exact λR Q e C H γ h B d a hs I=>znk hm ar H B d hs I λe' C' γ' a' d' h' q1 q2 q3 q4 q5=>⟨e',C',γ',d',h',rfl,q1,q2,q3,q4,q5⟩
 |seq x y aa Z=>
  intro R Q e C H γ h B d a hs I
  simp only[WA]at H
  have hl:∀i∈Q3 x,i∈Q3 (x.seq y):=λi hi=>Aq _ hi
  have hr:∀i∈Q3 y,i∈Q3 (x.seq y):=λi hi=>AC _ hi
  have kl:∀i∈zey pl x,i∈zey pl (x.seq y):=λi hi=>Aq _ hi
  have kr:∀i∈zey pl y,i∈zey pl (x.seq y):=λi hi=>AC _ (Aq _ hi)
  split at H
  ·refine wp_seq (wp_mono (aa _ _ _ _ H γ h B d a hs I) ?_)
   rintro ex a1 w1 ⟨e1,C1,γ1,d1,h1,rfl,s1,I1,m1,g1,q1⟩
   cases ex with
   |normal=>
    refine wp_mono (Z _ _ _ _ q1 γ1 h1 B d1 a1 s1 I1) ?_
    rintro ex a2 w2 ⟨e2,C2,γ2,d2,h2,rfl,s2,I2,m2,g2,q2⟩
    exact⟨e2,C2,γ2,d2,h2,rfl,s2,I2,(m1.mono hl).trans (m2.mono hr),(g1.mono kl).trans (g2.mono kr),q2⟩
   |_=>exact⟨e1,C1,γ1,d1,h1,rfl,s1,I1,m1.mono hl,g1.mono kl,q1⟩
  ·rename_i J hJ
   have kJ:∀i∈J.ids,i∈zey pl (x.seq y):=λi hi=>by
    simp only[zey,hJ]
    exact AC _ (AC _ hi)
   have H':=H (qc2 (zb0 J) λds=>WA P gl tr n pl y R Q (z7q J ds++zir (Q3 x) (J.ids++zey pl x) e) (chJ J ds++inC J.ro C)) (zqe λds hq=>hq)
   refine wp_seq (wp_mono (aa _ _ _ _ H' γ h B d a hs (I.part J.ro)) ?_)
   rintro ex a1 w1 ⟨e1,C1,γ1,d1,h1,rfl,s1,I1,m1,g1,q1⟩
   cases ex with
   |normal=>
    obtain⟨ds,q,hv,hq,hk⟩:=zst q1
    have aE:=zqd hq
    subst aE
    obtain⟨aj,af,ae,f1⟩:=zim hv s1 I1
    have aA:=zxe hs s1.defers s1.size m1 g1 ae f1
    rw[<-AP]at af
    refine wp_mono (Z _ _ _ _ hk aj h1 B d1 a1 aA af) ?_
    rintro ex a2 w2 ⟨e2,C2,γ2,d2,h2,rfl,s2,I2,m2,g2,q2⟩
    exact⟨e2,C2,γ2,d2,h2,rfl,s2,I2,(m1.mono hl).trans (m2.mono hr),((g1.mono kl).trans (ae.mono kJ)).trans (g2.mono kr),q2⟩
   |_=>exact⟨e1,C1++inC J.ro C,γ1,d1,h1,rfl,s1,by rw[AP];exact I1,m1.mono hl,g1.mono kl,q1⟩
 |cond c x y aa Z=>
  intro R Q e C H γ h B d a hs I
  simp only[WA]at H
  have hl:∀i∈Q3 x,i∈Q3 (EK c x y):=λi hi=>Aq _ hi
  have hr:∀i∈Q3 y,i∈Q3 (EK c x y):=λi hi=>AC _ hi
  have kl:∀i∈zey pl x,i∈zey pl (EK c x y):=λi hi=>Aq _ hi
  have kr:∀i∈zey pl y,i∈zey pl (EK c x y):=λi hi=>AC _ hi
  split at H
  ·rename_i v hv
   split at H
   ·rename_i b hb
    refine wp_cond_split (zia hb (qd hs (c:=[]) trivial hv)) (λau=>?_) (λaD=>?_)
    ·refine wp_mono (aa _ _ _ _ (H.1 au) γ h B d a hs I) ?_
     rintro ex a2 w2 ⟨e2,C2,γ2,d2,h2,rfl,s2,I2,m2,g2,q2⟩
     exact⟨e2,C2,γ2,d2,h2,rfl,s2,I2,m2.mono hl,g2.mono kl,q2⟩
    ·refine wp_mono (Z _ _ _ _ (H.2 aD) γ h B d a hs I) ?_
     rintro ex a2 w2 ⟨e2,C2,γ2,d2,h2,rfl,s2,I2,m2,g2,q2⟩
     exact⟨e2,C2,γ2,d2,h2,rfl,s2,I2,m2.mono hr,g2.mono kr,q2⟩
   ·exact H.elim
  ·exact H.elim
 |block id x ih=>
  intro R Q e C H γ h B d a hs I
  refine wp_block (wp_mono (ih _ _ _ _ H γ h B d a hs I) ?_)
  rintro ex a1 w1 ⟨e1,C1,γ1,d1,h1,rfl,s1,I1,m1,g1,q1⟩
  cases ex with
  |exit i=>
   simp only[zz6]at q1
   simp only[Exit.inBlock]
   by_cases hb:Nat.beq i id=true
   ·rw[if_pos (Al hb)]
    simp only[hb,cond_true]at q1
    exact⟨e1,C1,γ1,d1,h1,rfl,s1,I1,m1,g1,q1⟩
   ·rw[if_neg (λhe=>hb (by rw[he];simp))]
    simp only[hb,cond_false]at q1
    exact⟨e1,C1,γ1,d1,h1,rfl,s1,I1,m1,g1,q1⟩
  |_=>exact⟨e1,C1,γ1,d1,h1,rfl,s1,I1,m1,g1,q1⟩
 |loop x ih=>
  intro R Q e C H γ h B d a hs I
  simp only[WA]at H
  split at H
  ·rename_i J hJ
   have kx:∀i∈zey pl x,i∈zey pl (Code.loop x):=λi hi=>Aq _ hi
   have kJ:∀i∈J.ids,i∈zey pl (Code.loop x):=λi hi=>by
    simp only[zey,hJ]
    exact AC _ hi
   have kS:∀i∈J.ids++zey pl x,i∈zey pl (Code.loop x):=λi hi=>by
    rcases An.1 hi with hi|hi
    ·exact kJ i hi
    ·exact kx i hi
   obtain⟨Iv,μ,az,ac⟩:=H
   obtain⟨ak,p0,aC,al,am⟩:=zst az
   obtain⟨γ0,I0,g0,f0⟩:=zim aC hs (I.part J.ro)
   refine wp_loop_ghost (λm a1 w1=>∃d1 h1 γ1 ds p,w1=mk B d1 h1/\a1.defers=[]/\a1.tmps.size=n/\Same (Q3 x) a a1/\GxS (J.ids++zey pl x) γ γ1/\Inv h0 W M0 (chJ J ds++(inC J.ro C++R)) γ1 h1/\(∀y∈z7q J ds,zm9 γ1 (zw a1) y) /\
     zgo (zb0 J) ds (zqc (zb0 J) Iv μ)=some p/\p.1/\p.2=m) p0.2 ⟨d,h,γ0,ak,p0,rfl,hs.defers,hs.size,Same.refl _ _,g0.mono λi hi=>Aq _ hi,I0,f0,al,am,rfl⟩ ?_
   rintro m a1 w1 ⟨d1,h1,γ1,ds,p,rfl,an,ai,O,g1,I1,f1,hp,ay,rfl⟩
   have s1:SatA n (z7q J ds++zir (Q3 x) (J.ids++zey pl x) e) γ1 a1:=⟨an,ai,λy hy=>by
    rcases An.1 hy with hy|hy
    ·exact f1 y hy
    ·exact Wx g1 O hs.all y hy⟩
   have hb:=zl0 hp ac ay
   refine wp_mono (ih _ _ _ _ hb γ1 h1 B d1 a1 s1 I1) ?_
   rintro ex a2 w2 ⟨e2,C2,γ2,d2,h2,rfl,s2,I2,m2,g2,q2⟩
   cases ex with
   |normal=>
    obtain⟨ap,q,ax,hq,aB,ah⟩:=zst q2
    obtain⟨γ3,I3,g3,f3⟩:=zim ax s2 I2
    exact⟨q.2,ah,d2,h2,γ3,ap,q,rfl,s2.defers,s2.size,O.trans m2,(g1.trans (g2.mono λi hi=>AC _ hi)).trans (g3.mono λi hi=>Aq _ hi),I3,f3,hq,aB,rfl⟩
   |_=>exact⟨e2,C2++inC J.ro C,γ2,d2,h2,rfl,s2,by rw[AP];exact I2,O.trans m2,(g1.mono kS).trans (g2.mono kx),q2⟩
  ·exact H.elim
 |_=>exact λR Q e C H=>H.elim
def zsu:Nat->List Arg->ye
 |_,[]=>[]
 |i,a::l=>(i,[],.g (gOf a.t a.x))::zsu (i+1) l
def zuw(e:ye)(i:Nat):Option AV:=match zm8 e i with
 |some ([],v)=>some v
 |_=>none
def z5a(P:Program)(cs:CS)(e:ye):List ResultVar->(List AV->Prop)->Prop
 |[],K=>K []
 |.tmp t::l,K=>match zuw e t with
  |some v=>z5a P cs e l λvs=>K (v::vs)
  |none=>False
 |.cell a t::l,K=>match zuw e a with
  |some (.g (.a aa))=>zwv P cs t aa none λv=>z5a P cs e l λvs=>K (v::vs)
  |_=>False
def jw(cs:CS):(l:List Ty)->List AV->Option (Els l)
 |[],[]=>some ()
 |[t],[v]=>zdn cs t v
 |t::t'::l,v::vs=>match zdn cs t v,jw cs (t'::l) vs with
  |some x,some y=>some (x,y)
  |_,_=>none
 |_,_=>none
theorem zdv{γ:Gh}{cs:CS}(hf:z3o γ cs):∀{l:List Ty} {vs:List AV} {r:Els l} {us:List Value},jw cs l vs=some r->All2 (DenV γ) vs us->RdL γ.M l r us
 |[],[],r,[],_,_=>rfl
 |[],[],_,_::_,_,h=>h.elim
 |[t],[v],r,[u],h,hd=>⟨u,rfl,zbv hf (by simpa[jw]using h) hd.1⟩
 |[t],[v],_,[],_,h=>h.elim
 |[t],[v],_,_::_::_,_,h=>h.2.elim
 |t::t'::l,v::vs,r,[],_,h=>h.elim
 |t::t'::l,v::vs,r,u::us,h,hd=>by
  simp only[jw]at h
  split at h
  ·rename_i x y h1 h2
   simp only[Ab]at h
   subst h
   exact⟨u,us,rfl,zbv hf h1 hd.1,zdv hf h2 hd.2⟩
  ·cases h
 |[],_::_,_,_,h,_=>by simp[jw]at h
 |[t],[],_,_,h,_=>by simp[jw]at h
 |[t],_::_::_,_,_,h,_=>by simp[jw]at h
 |t::t'::l,[],_,_,h,_=>by simp[jw]at h
def qfh(P:Program)(rs:List ResultVar)(rt:List Ty)(R:Els rt->Prop):zbe:=λx e C=>match x with
 |.normal=>z5a P C e rs λvs=>match jw (frzL (Xv vs) C) rt vs with
  |some r=>R r
  |none=>False
 |.ret=>z5a P C e rs λvs=>match jw (frzL (Xv vs) C) rt vs with
  |some r=>R r
  |none=>False
 |_=>False
theorem zfe{P:Program}{n:Nat}{C:CS}{e:ye}{γ:Gh}{a:Act}{h:zb}(hs:SatA n e γ a)(I:Inv h0 W M0 C γ h):∀{l:List ResultVar} {K:List AV->Prop},z5a P C e l K->∃vs us,K vs/\All2 (DenV γ) vs us/\us.length=l.length/\QExec P (l.mapM (zh7 a.tmps)) h us
 |[],K,H=>⟨[],[],H,trivial,rfl,λ_ _=>by simp⟩
 |.tmp t::l,K,H=>by
  simp only[z5a]at H
  split at H
  ·rename_i v hv
   obtain⟨vs,us,h1,h2,h3,h4⟩:=zfe hs I H
   have hd:DenV γ v (zw a t):=by
    unfold zuw at hv
    split at hv
    ·rename_i u hl
     simp only[Ab]at hv
     subst hv
     exact(hs.all _ (Qg hl)).1 trivial
    ·cases hv
   refine⟨v::vs,zw a t::us,h1,⟨hd,h2⟩,by simp[h3],?_⟩
   rw[Ev]
   exact QExec.bind (x:=zw a t) (QExec.pure _) (h4.bind (QExec.pure _))
  ·exact H.elim
 |.cell x t::l,K,H=>by
  simp only[z5a]at H
  split at H
  ·rename_i aa hp
   obtain⟨v,hK,hq⟩:=zic (h0:=h0) (W:=W) (M0:=M0) H
   obtain⟨vs,us,h1,h2,h3,h4⟩:=zfe hs I hK
   have hd:DenA γ aa (zw a x):=by
    unfold zuw at hp
    split at hp
    ·rename_i u hl
     simp only[Ab]at hp
     subst hp
     exact(hs.all _ (Qg hl)).1 trivial
    ·cases hp
   obtain⟨u,hu,Z⟩:=hq trivial γ h _ I hd
   refine⟨v::vs,u::us,h1,⟨hu,h2⟩,by simp[h3],?_⟩
   rw[Ev]
   refine QExec.bind (x:=u) ?_ (h4.bind (QExec.pure _))
   have ae:∃p,zw a x=.pointer (some p):=by
    have no:∀aa,(∀k,z4l C k aa=none)->(∀c z i o,aa≠.oelt c z i o)->DenA γ aa (zw a x)->zwv P C t aa none (λv=>z5a P C e l λvs=>K (v::vs))->False:=by
     intro aa hn ac _ hl
     unfold zwv at hl
     split at hl
     ·split at hl
      ·exact ac _ _ _ _ rfl
      ·rw[hn]at hl;exact hl
     ·exact hl
    cases aa with
    |box c o=>exact⟨_,hd⟩
    |oelt c z i o=>obtain⟨g,_,e⟩:=hd;exact⟨_,e⟩
    |elt t y o=>obtain⟨b,f,cs,e,_⟩:=hd;exact⟨_,e⟩
    |v y=>exact(no _ (λ_=>rfl) (by simp) hd H).elim
    |d t y=>exact(no _ (λ_=>rfl) (by simp) hd H).elim
    |own c=>exact(no _ (λ_=>rfl) (by simp) hd H).elim
    |dc t y=>exact(no _ (λ_=>rfl) (by simp) hd H).elim
   obtain⟨p,O⟩:=ae
   rw[O]at Z
   have e3:a.tmps.getD x undef=.pointer (some p):=O
   simp only[zh7,e3]
   exact Z
  ·exact H.elim
theorem zql{fn:Func}{rs:List ResultVar}(hr:fn.results.toList=rs){us:List Value}(hl:us.length=rs.length)(hq:QExec P (rs.mapM (zh7 a.tmps)) h us):QExec P (results fn a.tmps) h (zkn us):=by
 intro B d
 have e0:results fn a.tmps=(fn.results.mapM (zh7 a.tmps) >>= λvs=>Dv (if h:vs.size=1 then vs[0]else .tuple vs)):=by
  unfold results
  congr 1
 rw[e0,Array.mapM_eq_mapM_toList,hr,Sem.run_bind,Sem.run_map,hq B d]
 simp only[Result.andThen_ok,Sem.run_pure]
 match us,hl with
 |[],_=>rfl
 |[v],_=>rfl
 |v::u::vs,_=>simp[zkn]
theorem zis{γ:Gh}{σ:Nat->Value}:∀{l:List Arg} {i:Nat} {us:List Value},Xt γ.M l us->(∀j v,us[j]?=some v->σ (i+j)=v)->∀x∈zsu i l,zm9 γ σ x
 |[],_,_,_,_,x,hx=>by cases hx
 |a::l,i,[],h,_,x,hx=>h.elim
 |a::l,i,u::us,h,hσ,x,hx=>by
  simp only[zsu,Af]at hx
  rcases hx with rfl|hx
  ·refine⟨λ_=>?_,λhn=>absurd trivial hn⟩
   have:=hσ 0 u rfl
   simp only at this ⊢
   rw[show σ i=u from this]
   exact zsg h.1
  ·exact zis h.2 (λj v hj=>by have:=hσ (j+1) v (by simpa using hj);rwa[show i+(j+1)=i+1+j by omega]at this) x hx
theorem zxf(hm:P.follows .mixedOrders=true)(gl:Fr)(tr:TypeId)(pl:PlanA)(args:List Arg){fn:Func}{rs:List ResultVar}{rt:List Ty}(hf:P.funcs[f]?=some fn)(hb:Wl fn=true)(hr:fn.results.toList=rs)(hn:fn.ntmps=n)
  (hz:Nat.ble args.length n=true) {R:Els rt->Prop} (H:WA P gl tr n pl (codeOf fn) [] (qfh P rs rt R) (zsu 0 args) []):PC P gl f args rt R:=by
 intro h M vs ae ai O B d
 subst hn
 have ac:fn.body=some (codeOf fn):=by
  unfold Wl at hb
  unfold codeOf
  split at hb
  ·rename_i c hc;rw[hc]
  ·cases hb
 refine calls_of_wp hf ac ?_
 have aa:vs.length=args.length:=(All2.length O).symm
 have aj:vs.length<=fn.ntmps:=by rw[aa];exact BS hz
 let γ:Gh:=⟨M,λ_=>0,λ_=>⟨none,0,0⟩⟩
 have I:Inv h (λ_=>False) M ([]++[]) γ h:={ ag:=ai,frame:=λ_ _ _=>rfl,size:=Ae _,old:=λ_ _=>rfl,le:=Fr.le.refl _,den:=λx hx=>(by cases hx),sep:=λx hx=>(by cases hx),apart:=List.Pairwise.nil }
 have hs:SatA fn.ntmps (zsu 0 args) γ { tmps:=vs.toArray++Bm (fn.ntmps-vs.toArray.size) undef,defers:=[] }:=by
  refine⟨rfl,by simp;omega,zis O λj v hj=>?_⟩
  have ah:j<vs.length:=(Az.1 hj).1
  simp only[AH,zw,Bq]
  rw[CN (by simpa using ah)]
  simp[hj]
 have Z:∀(e:ye) (C:CS) (γ':Gh) (h':zb) (a:Act),SatA fn.ntmps e γ' a->Inv h (λ_=>False) M (C++[]) γ' h'->(z5a P C e rs λvs=>match jw (frzL (Xv vs) C) rt vs with|some r=>R r|none=>False) ->
   ∃v,QExec P (results fn a.tmps) h' v/\Keep h.size h h'/\∃M' r,Fr.le M M'/\(∀b,b<h.size->M' b=M b)/\AgM M' h'/\Xu M' rt r v/\R r:=by
  intro e C γ' h' a s1 I1 q
  rw[Bf]at I1
  obtain⟨af,us,hK,hd,hl,hq⟩:=zfe s1 I1 q
  split at hK
  ·rename_i r hc
   obtain⟨γ2,I2,g2⟩:=Inv.frzL (C:=C) (R:=[]) (γ:=γ') (Xv af) (by simpa using I1)
   rw[Bf]at I2
   refine⟨zkn us,zql hr hl hq,⟨I2.size,λi hi=>I2.frame i hi (λh=>h)⟩,γ2.M,r,I2.le,I2.old,I2.ag,⟨us,zdv I2.fz hc (hd.imp λv _ u hu=>hu.gx g2 rfl),rfl⟩,hK⟩
  ·exact hK.elim
 refine wp_mono (z4z hm ae _ _ _ _ _ H γ h B d _ hs I) ?_
 rintro ex a w ⟨e1,C1,γ1,d1,h1,rfl,s1,I1,m1,g1,q1⟩
 cases ex with
 |normal=>
  obtain⟨v,hq,k,rest⟩:=Z e1 C1 γ1 h1 a s1 I1 q1
  exact⟨s1.defers,v,hq B d1,v,d1,h1,rfl,rfl,k,rest⟩
 |ret=>
  obtain⟨v,hq,k,rest⟩:=Z e1 C1 γ1 h1 a s1 I1 q1
  exact⟨s1.defers,v,hq B d1,v,d1,h1,rfl,rfl,k,rest⟩
 |_=>exact q1.elim
theorem zxg(hm:P.follows .mixedOrders=true)(gl:Fr)(tr:TypeId)(pl:PlanA)(args:List Arg){fn:Func}{rs:List ResultVar}{rt:List Ty}(hf:P.funcs[f]?=some fn)(hb:Wl fn=true)(hr:fn.results.toList=rs)(hn:fn.ntmps=n)
  (hz:Nat.ble args.length n=true) {R:Els rt->Prop} {F:Prop} (H:F) (e:F=WA P gl tr n pl (codeOf fn) [] (qfh P rs rt R) (zsu 0 args) []):PC P gl f args rt R:=
 zxf hm gl tr pl args hf hb hr hn hz (e ▸ H)
end
end Go.X
end
section
namespace Go.X
open Go Go.RowKit
section
variable {P:Program} {f:FuncId} {h:zb} {M gl:Fr} {v:Value} {us:List Value}
theorem XC.of_calls{args:Array Value}{R:Value->zb->Prop}
  (H:∀B d,Calls P f args (mk B d h) λe w'=>∃v,e=.returned v/\w'.os=B.os/\w'.tape=B.tape/\w'.output=B.output/\R v w'.heap):XC P f args h R:=by
 intro B d
 refine(H B d).mono ?_
 rintro e w' ⟨v,rfl,h1,h2,h3,h4⟩
 refine⟨v,w'.drawn,w'.heap,rfl,?_,h4⟩
 cases w';simp only[mk]at *;subst h1;subst h2;subst h3;rfl
theorem AgM.keep{h h':zb}(ag:AgM M h)(k:Keep h.size h h'):AgM M h':=λb c e=>by
 obtain⟨T,m,e'⟩:=ag b c e
 exact⟨T,m,by rw[k.get b (ag.lt e)];exact e'⟩
def zxh:Arg->Option Value
 |⟨.int k,x⟩=>some (.int k x)
 |⟨.bool,x⟩=>some (.bool x)
 |⟨.str,x⟩=>some (.string x)
 |_=>none
def zdw:List Arg->Option (List Value)
 |[]=>some []
 |a::l=>match zxh a,zdw l with
  |some v,some vs=>some (v::vs)
  |_,_=>none
theorem z5b{a:Arg}{v u:Value}(h:zxh a=some v)(hd:RdV M a.t a.x u):u=v:=by
 obtain⟨t,x⟩:=a
 cases t with
 |int k=>simp only[zxh,Ab]at h;subst h;simpa[RdV,Rd,zdm]using hd
 |bool=>simp only[zxh,Ab]at h;subst h;simpa[RdV,Rd,zdm]using hd
 |str=>simp only[zxh,Ab]at h;subst h;simpa[RdV,Rd,zdm]using hd
 |_=>simp[zxh]at h
theorem Xz{M:Fr}:∀{l:List Arg} {vs us:List Value},zdw l=some vs->Xt M l us->us=vs
 |[],vs,us,h,hd=>by
  simp only[zdw,Ab]at h;subst h
  cases us with
  |nil=>rfl
  |cons _ _=>exact hd.elim
 |a::l,vs,us,h,hd=>by
  simp only[zdw]at h
  split at h
  ·rename_i v O h1 h2
   simp only[Ab]at h;subst h
   cases us with
   |nil=>exact hd.elim
   |cons u us=>rw[z5b h1 hd.1,Xz h2 hd.2]
  ·cases h
theorem PC.of_scal{args:List Arg}{rt:List Ty}{R:Els rt->Prop}(Z:zdw args=some us){r:Els rt}(hv:∀M,Xu M rt r v)(hR:R r)
  (H:∀w:World,AgM gl w.heap->Calls P f us.toArray w λe w'=>e=.returned v/\Below w.heap.size w w'):PC P gl f args rt R:=by
 intro h M vs hM ag ha
 rw[Xz Z ha]
 refine XC.of_calls λB d=>(H (mk B d h) λb c e=>ag b c (hM b c e)).mono ?_
 rintro e w' ⟨rfl,O⟩
 have k:Keep h.size h w'.heap:=⟨O.size,O.block⟩
 exact⟨v,rfl,O.os,O.tape,O.output,k,M,r,Fr.le.refl _,λ_ _=>rfl,ag.keep k,hv M,hR⟩
theorem PC.of_same{args:List Arg}{rt:List Ty}{R:Els rt->Prop}(O:zdw args=some us){r:Els rt}(hv:∀M,Xu M rt r v)(hR:R r)
  (H:∀w:World,AgM gl w.heap->Calls P f us.toArray w λe w'=>e=.returned v/\w'=w):PC P gl f args rt R:=
 PC.of_scal O hv hR λw hw=>(H w hw).mono λe w' ⟨h1,h2⟩=>⟨h1,h2 ▸ Below.refl _ _⟩
theorem znl(k:IntKind)(i:Int):Xu M [.int k] i (.int k i):=⟨[_],⟨_,rfl,rfl⟩,rfl⟩
theorem z5c(b:Bool):Xu M [.bool] b (.bool b):=⟨[_],⟨_,rfl,rfl⟩,rfl⟩
theorem zff(s:Bt):Xu M [.str] s (.string s):=⟨[_],⟨_,rfl,rfl⟩,rfl⟩
theorem AgM.glob{w:World}(ag:AgM gl w.heap){b o:Nat}{cs:Array Value}(hb:gl b=some cs)(ho:cs[o]?=some v):w.cell? ⟨b,o,Option.none⟩=some v:=by
 obtain⟨T,m,e⟩:=ag b cs hb
 simp[World.cell?,e,ho]
theorem PC.of_row{args:List Arg}(Z:zdw args=some us){t:Ty}{xs:List (El t)}{cells:Array Value}{T:TypeId}(O:∀M,RowC M t xs cells.toList)(hn:xs.length<=140737488355328){R:Els [.row t]->Prop}(hR:R xs)
  (H:∀w:World,AgM gl w.heap->Calls P f us.toArray w λe w'=>e=.returned (.slice (some ⟨w.heap.size,0,none⟩) xs.length xs.length)/\w'=w.alloc (.cells cells T)):PC P gl f args [.row t] R:=by
 intro h M vs hM ag ha
 rw[Xz Z ha]
 refine XC.of_calls λB d=>(H (mk B d h) λb c e=>ag b c (hM b c e)).mono ?_
 rintro e w' ⟨rfl,rfl⟩
 have k:Keep h.size h (h.push (.cells cells T)):=⟨by simp,λi hi=>by rw[BM,if_neg (by omega)]⟩
 have aa:Fr.le M λi=>bif Nat.beq i h.size then some cells else M i:=λb cs e=>by
  have:=ag.lt e
  have e2:Nat.beq b h.size=false:=by
   cases hb:Nat.beq b h.size with
   |false=>rfl
   |true=>have:=Al hb;omega
  simp only[e2,cond_false];exact e
 refine⟨_,rfl,rfl,rfl,rfl,k,(λi=>bif Nat.beq i h.size then some cells else M i),xs,aa,λb hb=>?_,λb cs e=>?_,⟨[_],⟨_,rfl,?_⟩,rfl⟩,hR⟩
 ·have e2:Nat.beq b h.size=false:=by
   cases hb':Nat.beq b h.size with
   |false=>rfl
   |true=>have:=Al hb';omega
  simp only[e2,cond_false]
 ·cases hb:Nat.beq b h.size with
  |true=>
   simp only[hb,cond_true,Ab]at e
   subst e
   rw[Al hb]
   exact⟨T,(0,0),by show(h.push _)[h.size]?=_;simp⟩
  |false=>
   simp only[hb,cond_false]at e
   exact ag.keep k b cs e
 ·have hl:=(O M).1
  have:=(O (λi=>bif Nat.beq i h.size then some cells else M i)).rd (b:=h.size) (o:=0) (c:=xs.length) (cs:=cells) (by simp) (by rw[A2,<-hl,AD]) ⟨hn,Ae _⟩
  show RdV _ _ _ _
  unfold RdV
  rw[if_neg (by simp[zdm])]
  exact this
theorem zz7(M:Fr)(xs:List Bt):RowC M .str xs (xs.map AU):=by
 refine⟨by simp[sz],λi hi=>?_⟩
 simp only[sz,Cg]
 show _=_
 apply A7
 intro k
 rw[AF]
 cases k with
 |zero=>simp[hi]
 |succ k=>simp
theorem zgf{xs:List Bt}{cells:List Value}(H:RowC M .str xs cells):cells=xs.map AU:=by
 obtain⟨h1,h2⟩:=H
 simp only[sz,Cg]at h1 h2
 refine List.ext_getElem (by simp[h1]) λi hi hj=>?_
 have hx:i<xs.length:=by omega
 have:=h2 i hx
 have e:(cells.drop i).take 1=[cells[i]]:=by rw[AE hi];rfl
 rw[e]at this
 have:=show[cells[i]]=[AU xs[i]]from this
 simpa using this
theorem PC.of_ex{args:List Arg}{rt:List Ty}{R:Els rt->Prop}(Z:zdw args=some us)
  (H:∀w:World,AgM gl w.heap->Calls P f us.toArray w λe w'=>∃v r,e=.returned v/\(∀M,Xu M rt r v)/\R r/\Below w.heap.size w w'):PC P gl f args rt R:=by
 intro h M vs hM ag ha
 rw[Xz Z ha]
 refine XC.of_calls λB d=>(H (mk B d h) λb c e=>ag b c (hM b c e)).mono ?_
 rintro e w' ⟨v,r,rfl,hv,hR,O⟩
 have k:Keep h.size h w'.heap:=⟨O.size,O.block⟩
 exact⟨v,rfl,O.os,O.tape,O.output,k,M,r,Fr.le.refl _,λ_ _=>rfl,ag.keep k,hv M,hR⟩
end
section
variable {P:Program} {gl M:Fr} {f:FuncId} {h h':zb} {vs cs:List Value} {K:Value -> zb -> Prop} {t:Ty} {u v:Value} {i:Int} {k:Nat} {T:TypeId}
def PX(P:Program)(f:FuncId)(vs:Array Value)(h:zb)(M:Fr)(rt:List Ty)(R:Els rt->Prop):Prop:=
 XC P f vs h λv h'=>Keep h.size h h'/\∃M' r,Fr.le M M'/\(∀b,b<h.size->M' b=M b)/\AgM M' h'/\Xu M' rt r v/\R r
theorem PC.px{args:List Arg}{rt:List Ty}{R:Els rt->Prop}(H:PC P gl f args rt R)(hM:Fr.le gl M)(ag:AgM M h)(ha:Xt M args vs):PX P f vs.toArray h M rt R:=H h M vs hM ag ha
structure Later (h:zb) (M:Fr) (h':zb) (M':Fr):Prop where
 keep:Keep h.size h h'
 le:Fr.le M M'
 old:∀b,b<h.size->M' b=M b
 ag:AgM M' h'
theorem Later.refl(ag:AgM M h):Later h M h M:=⟨Keep.refl _ _,Fr.le.refl _,λ_ _=>rfl,ag⟩
theorem Later.trans{h h' O:zb}{M M' M'':Fr}(a:Later h M h' M')(b:Later h' M' O M''):Later h M O M'':=
 ⟨a.keep.trans b.keep a.keep.size,a.le.trans b.le,λx hx=>(b.old x (by have:=a.keep.size;omega)).trans (a.old x hx),b.ag⟩
theorem Later.same(ag:AgM M h)(k:Keep h.size h h'):Later h M h' M:=⟨k,Fr.le.refl _,λ_ _=>rfl,ag.keep k⟩
theorem Later.push(ag:AgM M h)(o:Obj):Later h M (h.push o) M:=Later.same ag (Keep.push _ _ (Ae _))
theorem PX.go{vs:Array Value}{rt:List Ty}{R:Els rt->Prop}(H:PX P f vs h M rt R)(hK:∀v h' M' r,Later h M h' M'->Xu M' rt r v->R r->K v h'):XC P f vs h K:=
 XC.mono H λv h' ⟨k,M',r,e1,e2,e3,e4,e5⟩=>hK v h' M' r ⟨k,e1,e2,e3⟩ e4 e5
theorem PX.of{vs:Array Value}{rt:List Ty}{R:Els rt->Prop}(H:XC P f vs h λv h'=>∃M' r,Later h M h' M'/\Xu M' rt r v/\R r):PX P f vs h M rt R:=
 XC.mono H λv h' ⟨M',r,l,e4,e5⟩=>⟨l.keep,M',r,l.le,l.old,l.ag,e4,e5⟩
theorem PC.go{args:List Arg}{rt:List Ty}{R:Els rt->Prop}(H:PC P gl f args rt R)(hM:Fr.le gl M)(ag:AgM M h)(ha:Xt M args vs)
  (hK:∀v h' M' r,Later h M h' M'->Xu M' rt r v->R r->K v h'):XC P f vs.toArray h K:=(H.px hM ag ha).go hK
theorem zhf{x:El t}(ht:zdm t=false):RdV M t x u↔Rd M t x [u]:=by unfold RdV;rw[ht];simp
theorem zdx{x:El t}:Xu M [t] x v↔RdV M t x v:=by
 constructor
 ·rintro⟨us,⟨u,rfl,h⟩,rfl⟩;exact h
 ·intro h;exact⟨[v],⟨v,rfl,h⟩,rfl⟩
theorem zc2{b:Bool}(h:Xu M [.bool] b v):v=.bool b:=by
 have:=zdx.1 h
 rw[zhf rfl]at this
 simpa[Rd]using this
theorem qeo{k:IntKind}(h:Xu M [.int k] i v):v=.int k i:=by
 have:=zdx.1 h
 rw[zhf rfl]at this
 simpa[Rd]using this
theorem qf2{s:Bt}(h:Xu M [.str] s v):v=.string s:=by
 have:=zdx.1 h
 rw[zhf rfl]at this
 simpa[Rd]using this
theorem y0:Xt M [] []:=trivial
theorem qn{a:Arg}{l:List Arg}{us:List Value}(h:RdV M a.t a.x u)(hl:Xt M l us):Xt M (a::l) (u::us):=⟨h,hl⟩
theorem rdStr(s:Bt):RdV M .str s (.string s):=by rw[zhf rfl];rfl
theorem z5d(k:IntKind)(i:Int):RdV M (.int k) i (.int k i):=by rw[zhf rfl];rfl
theorem rdBool(b:Bool):RdV M .bool b (.bool b):=by rw[zhf rfl];rfl
theorem z5e{s:Bt}(h:RdV M .str s u):u=.string s:=by rw[zhf rfl]at h;simpa[Rd]using h
theorem zux{k:IntKind}(h:RdV M (.int k) i u):u=.int k i:=by rw[zhf rfl]at h;simpa[Rd]using h
theorem w9{v:Tr}(h:RdV M .tree v u):∃sk si:Sl,u=.agg #[.int .i64 v.kind,.string v.text,slV sk,slV si]/\Rd M (.row .str) v.keys [slV sk]/\Rd M (.row .tree) v.items [slV si]:=by
 unfold RdV at h
 simp only[zdm,if_true]at h
 obtain⟨cs,rfl,hr⟩:=h
 obtain⟨vk,vi,rfl,h1,h2⟩:=TrRd.keys hr
 have Z:=h1;have O:=h2
 obtain⟨w1,e1,a1,c1,q1,_⟩:=Z
 obtain⟨w2,e2,a2,c2,q2,_⟩:=O
 simp only[Cq,and_true]at e1 e2
 subst e1;subst e2;subst q1;subst q2
 exact⟨⟨a1,v.keys.length,c1⟩,⟨a2,v.items.length,c2⟩,rfl,h1,h2⟩
theorem yn{v:Tr}{sk si:Sl}(h1:Rd M (.row .str) v.keys [slV sk])(h2:Rd M (.row .tree) v.items [slV si]):RdV M .tree v (.agg #[.int .i64 v.kind,.string v.text,slV sk,slV si]):=by
 unfold RdV
 simp only[zdm,if_true]
 exact⟨[.int .i64 v.kind,.string v.text,slV sk,slV si],rfl,by cases v;exact TrRd.of h1 h2⟩
theorem zit{xs:List (El t)}(h:RdV M (.row t) xs u):∃s:Sl,u=slV s/\Rd M (.row t) xs [slV s]:=by
 rw[zhf rfl]at h
 have h':=h
 obtain⟨w,e,a,c,q,_⟩:=h'
 simp only[Cq,and_true]at e
 subst e;subst q
 exact⟨⟨a,xs.length,c⟩,rfl,h⟩
theorem rowLen{xs:List (El t)}{s:Sl}(h:Rd M (.row t) xs [slV s]):s.len=xs.length/\xs.length<=140737488355328/\xs.length<=s.cap:=by
 obtain⟨w,e,a,c,q,hn,_⟩:=h
 simp only[Cq,and_true]at e
 subst e
 simp only[slV,AO]at q
 obtain⟨_,h2,h3⟩:=q
 exact⟨h2,hn.1,by rw[h3];exact hn.2⟩
theorem rowAt{xs:List (El t)}{s:Sl}(h:Rd M (.row t) xs [slV s])(hk:k<xs.length):∃b o cs,s.a=some ⟨b,o,none⟩/\M b=some cs/\Rd M t xs[k] (cut cs (o+k*sz t) (sz t)):=by
 obtain⟨w,e,a,c,q,hn,hx⟩:=h
 simp only[Cq,and_true]at e
 subst e
 simp only[slV,AO]at q
 obtain⟨h1,h2,h3⟩:=q
 rcases hx with rfl|⟨b,o,cs,e1,e2,e3⟩
 ·simp at hk
 ·exact⟨b,o,cs,by rw[h1,e1],e2,e3 k hk⟩
theorem zz8{M:Fr}{h:zb}(ag:AgM M h){b:Nat}{cs:Array Value}(hM:M b=some cs):∀{vs:List Value} {o i:Nat},cut cs (o+i) vs.length=vs->ze h ⟨b,o,none⟩ i vs
 |[],_,_,_=>trivial
 |v::vs,o,i,e=>by
  unfold cut at e
  have O:o+i<cs.toList.length:=by
   rcases AZ (o+i) cs.toList.length with hh|hh
   ·exact hh
   ·rw[A6 hh]at e;simp at e
  rw[AE O,Ay,BV]at e
  injection e with e1 e2
  refine⟨?_,zz8 ag hM (i:=i+1) e2⟩
  rw[zm]
  refine ag.cell hM ?_
  rw[AN (by simpa using O),<-e1];simp
theorem z9s(ag:AgM M h){b:Nat}{cs:Array Value}(hM:M b=some cs){o:Nat}(e:cut cs o 1=[v]):zk h ⟨b,o,none⟩=some v:=by
 have:=zz8 (vs:=[v]) (o:=o) (i:=0) ag hM (by simpa using e)
 exact this.1
theorem qep(b o n:Nat):(⟨b,o,none⟩:Addr).add n=⟨b,o+n,none⟩:=zm b o n
theorem zkr(ag:AgM M h){xs:List Bt}{s:Sl}(H:Rd M (.row .str) xs [slV s])(hk:k<xs.length)(hi:i=(k:Int)){L:Nat}(hL:L=s.len){Q:Bt->Prop}(hQ:Q xs[k]):
  ∃a:Addr,(s.a=some a/\0<=i/\i<(L:Int))/\∃x:Bt,zk h (a.add (i.toNat*1))=some (.string x)/\Q x:=by
 obtain⟨b,o,cs,e1,e2,e3⟩:=rowAt H hk
 have hl:=(rowLen H).1
 refine⟨_,⟨e1,by omega,by omega⟩,xs[k],?_,hQ⟩
 rw[qep,hi,Ad]
 exact z9s ag e2 e3
theorem zqm(ag:AgM M h){xs:List Tr}{s:Sl}(H:Rd M (.row .tree) xs [slV s])(hk:k<xs.length):∃(a:Addr) (sk si:Sl),s.a=some a/\ze h (a.add (k*4)) 0 [.int .i64 xs[k].kind,.string xs[k].text,slV sk,slV si]/\Rd M (.row .str) xs[k].keys [slV sk]/\Rd M (.row .tree) xs[k].items [slV si]:=by
 obtain⟨b,o,cs,e1,e2,e3⟩:=rowAt H hk
 have e4:RdV M .tree xs[k] (.agg (cut cs (o+k*sz .tree) (sz .tree)).toArray):=by
  unfold RdV;simp only[zdm,if_true];exact⟨_,rfl,e3⟩
 obtain⟨sk,si,q,h1,h2⟩:=w9 e4
 refine⟨_,sk,si,e1,?_,h1,h2⟩
 rw[qep]
 refine zz8 ag e2 (i:=0) ?_
 have:(cut cs (o+k*sz .tree) (sz .tree))=[.int .i64 xs[k].kind,.string xs[k].text,slV sk,slV si]:=by
  injection q with q
  exact congrArg Dk q
 exact this
def Mx(M:Fr)(b:Nat)(cs:Array Value):Fr:=λi=>if i=b then some cs else M i
theorem Later.frz(ag:AgM M h)(cs:Array Value)(T:TypeId):Later h M (h.push (.cells cs T)) (Mx M h.size cs) where
 keep:=Keep.push _ _ (Ae _)
 le:=λb c e=>by
  have:=ag.lt e
  unfold Mx;rw[if_neg (by omega)];exact e
 old:=λb hb=>by unfold Mx;rw[if_neg (by omega)]
 ag:=λb c e=>by
  unfold Mx at e
  split at e
  ·rename_i hb
   subst hb
   cases e
   exact⟨T,(0,0),ww _ _⟩
  ·obtain⟨T',m,e'⟩:=ag b c e
   exact⟨T',m,by rw[(Keep.push h _ (Ae _)).get b (ag.lt e)];exact e'⟩
theorem zz9(M:Fr)(b:Nat)(cs:Array Value):Mx M b cs b=some cs:=by unfold Mx;rw[if_pos rfl]
theorem z5f(k:Keep (h.size+1) (h.push (.cells cs.toArray T)) h'):ze h' ⟨h.size,0,none⟩ 0 cs:=
 ((Blk.new h cs.toArray T).keep (k.get _ (by omega))).ld
theorem z9t(k:Keep (h.size+1) (h.push (.cells cs.toArray T)) h'){i:Nat}(hv:cs[i]?=some v):zk h' ((⟨h.size,0,none⟩:Addr).add i)=some v:=by
 have:=((Blk.new h cs.toArray T).keep (k.get _ (by omega)))
 exact this.cellAdd (o:=0) (by simpa using hv)
end
end Go.X
end
section
namespace Go.X
open Go Go.ChangeShapes Go.WideShapes Go.RowKit
set_option linter.unusedVariables false
section
variable {a:Addr} {v:Value} {cs:List Value} {fuel:Nat} {t e:TypeId} {T:Ty} {P:Program} {M:Fr}
def Fz(W:World):Fr:=λb=>match W.heap[b]? with|some (.cells cs _ _)=>some cs|_=>none
theorem Fz.ag(W:World):AgM (Fz W) W.heap:=by
 intro b c e
 unfold Fz at e
 split at e
 ·rename_i cs T m hh;cases e;exact⟨T,m,hh⟩
 ·cases e
theorem Fz.cell{W:World}(h:W.cell? a=some v):∃b o c,a=⟨b,o,none⟩/\Fz W b=some c/\c[o]?=some v:=by
 obtain⟨b,o,sp⟩:=a
 unfold World.cell? at h
 split at h
 ·rename_i c T m hh
  cases sp with
  |some x=>simp at h
  |none=>
   refine⟨b,o,c,rfl,?_,by simpa using h⟩
   unfold Fz
   change W.heap[b]?=_ at hh
   rw[hh]
 ·cases h
theorem Fz.cells{W:World}{n:Nat}(h:W.cells? 0 a n=some cs)(hn:0<n):∃b o c,a=⟨b,o,none⟩/\Fz W b=some c/\cut c o n=cs:=by
 obtain⟨_,hl,hc⟩:=World.cells?_some h
 have h0:=hc 0 hn
 rw[Am (by omega)]at h0
 obtain⟨b,o,c,e,hb,_⟩:=Fz.cell h0
 obtain⟨ab,ao,sp⟩:=a
 rw[show Aj ⟨ab,ao,sp⟩ 0=⟨ab,ao,sp⟩from rfl]at e
 cases e
 refine⟨b,o,c,rfl,hb,?_⟩
 have O:∀i,i<n->c[o+i]?=cs[i]?:=λi hi=>by
  have h1:=hc i hi
  rw[Am (by omega)]at h1 ⊢
  obtain⟨b2,o2,c2,e2,Z,h2⟩:=Fz.cell h1
  rw[zm]at e2
  cases e2
  rw[hb]at Z;cases Z
  exact h2
 unfold cut
 apply A7
 intro i
 by_cases hi:i<n
 ·rw[AF,if_pos hi,AJ,<-O i hi];simp
 ·rw[AF,if_neg hi,Bu (by omega)]
theorem z9u{α:Type}{Q:Nat->α->Prop}(n:Nat)(h:∀i,i<n->∃z,Q i z):∃xs:List α,xs.length=n/\∀i (hi:i<xs.length),Q i xs[i]:=by
 refine⟨List.ofFn λi:Fin n=>Classical.choose (h i i.2),by simp,λi hi=>?_⟩
 rw[List.getElem_ofFn]
 exact Classical.choose_spec (h i (by simpa using hi))
section
variable {H : Type} {enc : TypeId × Value -> H} {P : Program} {W : World} {sp : Nat -> Bool} {held : Bool}
def ziu(P:Program)(t:TypeId)(d:DataW H):Prop:=∀n∈d.weights P t,n<=reachBytes
theorem ziv{e:TypeId}{y:DataW H}:∀{l:List (DataW H)},y∈l->∀n∈y.weights P e,n∈DataW.weightsAll P e l
 |x::l,hy,n,hn=>by
  unfold DataW.weightsAll
  rcases Af.1 hy with rfl|hy
  ·exact Aq _ hn
  ·exact AC _ (ziv hy n hn)
theorem z0a{x : DataW H × List MemPlace}(ht : P.underlying t = some (.slice e))(hz : P.cellsOf e = sz T)(hp : 0 < sz T)(hby : 0 < P.bytesOf e)
    (hel : ∀ n, n < fuel -> ∀ cs y, DataW.trod enc P W 0 sp held n e cs = some y -> ziu P e y.1 -> ∃ z : El T, Rd (Fz W) T z cs)
    (h : DataW.trod enc P W 0 sp held fuel t cs = some x) (hw : ziu P t x.1) : ∃ xs : List (El T), Rd (Fz W) (.row T) xs cs := by
  rcases DataW.trod_slice ht h with ⟨rfl, _⟩ | ⟨a, len, cap, elems, rest, n, rfl, rfl, hx, _, hlc, hcap, hlen, hi, _, _⟩
  · exact ⟨[], _, rfl, none, 0, rfl, ⟨by simp, by simp⟩, .inl rfl⟩
  · have hwt : ∀ m, m = (elems.length + rest.length) * P.bytesOf e \/ m ∈ DataW.weightsAll P e (elems.map (·.1)) -> m <= reachBytes := λm hm => hw m (by
      rw [hx]
      unfold DataW.weights
      rw [ht]
      simp only [Af, An, Ba]
      rcases hm with hm | hm
      · exact .inl hm
      · exact .inr (.inl hm))
    have hmax : len <= 140737488355328 := by
      have h1 := hwt _ (.inl rfl)
      have h2 : elems.length + rest.length <= (elems.length + rest.length) * P.bytesOf e := Dz _ hby
      have h3 : reachBytes <= 140737488355328 := by decide
      omega
    have key : ∀ i, i < len -> ∃ z : El T, ∃ b o c, a.add (i * sz T) = ⟨b, o, none⟩ /\ Fz W b = some c /\ Rd (Fz W) T z (cut c o (sz T)) := λi hil => by
      have h1 := hi i hil
      rw [Am (by omega), Option.bind_eq_some_iff] at h1
      obtain ⟨cc, h2, h3⟩ := h1
      rw [hz] at h2
      obtain ⟨b, o, c, e1, e2, e3⟩ := Fz.cells h2 hp
      obtain ⟨z, hz⟩ := hel n (by omega) _ _ h3 λm hm => hwt m (.inr (ziv (BN.2 ⟨elems[i], As (by omega), rfl⟩) m hm))
      exact ⟨z, b, o, c, e1, e2, by rw [e3]; exact hz⟩
    obtain ⟨xs, hxl, hxs⟩ := z9u len key
    subst hxl
    refine ⟨xs, _, rfl, some a, cap, rfl, ⟨by omega, hlc⟩, ?_⟩
    by_cases h0 : xs.length = 0
    · exact .inl (Av h0)
    · obtain ⟨b, o, c, e1, e2, _⟩ := hxs 0 (by omega)
      obtain ⟨ab, ao, asp⟩ := a
      rw [Di, show Aj ⟨ab, ao, asp⟩ 0 = ⟨ab, ao, asp⟩ from rfl] at e1
      cases e1
      refine .inr ⟨b, o, c, rfl, e2, λi hil => ?_⟩
      obtain ⟨b', o', c', e1', e2', e3'⟩ := hxs i hil
      rw [zm] at e1'
      cases e1'
      rw [e2] at e2'; cases e2'
      simpa using e3'
theorem z0b{x:DataW H×List MemPlace}(ht:P.underlying t=some .string)(h:DataW.trod enc P W 0 sp held fuel t cs=some x):∃s:El .str,Rd (Fz W) .str s cs:=by
 obtain⟨s,rfl,_,_⟩:=DataW.trod_string ht h
 exact⟨s,rfl⟩
theorem qc9{k:IntKind}{x:DataW H×List MemPlace}(ht:P.underlying t=some (.int k))(h:DataW.trod enc P W 0 sp held fuel t cs=some x):∃s:El (.int k),Rd (Fz W) (.int k) s cs:=by
 obtain⟨s,rfl,_,_⟩:=DataW.trod_int ht h
 exact⟨s,rfl⟩
theorem z0c{x:DataW H×List MemPlace}(ht:P.underlying t=some (.slice e))(he:P.underlying e=some .string)(hc:P.cellsOf e=1)(O:0<P.bytesOf e)
  (h:DataW.trod enc P W 0 sp held fuel t cs=some x) (hw:ziu P t x.1):∃xs:List ByteArray,Rd (Fz W) (.row .str) xs cs:=
 z0a (T:=.str) ht hc (by decide) O (λn _ cs y hy _=>z0b he hy) h hw
theorem four{a b c d:Value}(hl:cs.length=4)(h0:(cs.drop 0).take 1=[a])(h1:(cs.drop 1).take 1=[b])(h2:(cs.drop 2).take 1=[c])(h3:(cs.drop 3).take 1=[d]):cs=[a,b,c,d]:=by
 match cs,hl with
 |[w,x,y,z],_=>
  simp at h0 h1 h2 h3
  subst h0;subst h1;subst h2;subst h3;rfl
theorem z9v{tv ts tss tvs tk:TypeId}{f0 f1 f2 f3:Field}(hu:P.underlying tv=some (.struct #[f0,f1,f2,f3]))(hc:P.cellsOf tv=4)
  (t0:f0.type=tk/\f0.offset=0/\f1.type=ts/\f1.offset=1/\f2.type=tss/\f2.offset=2/\f3.type=tvs/\f3.offset=3)
  (uk:P.underlying tk=some (.int .i64)) (us:P.underlying ts=some .string) (aa:P.underlying tss=some (.slice ts)) (af:P.underlying tvs=some (.slice tv))
  (ck:P.cellsOf tk=1) (cs':P.cellsOf ts=1) (ac:P.cellsOf tss=1) (ae:P.cellsOf tvs=1) (bs:0<P.bytesOf ts) (bv:0<P.bytesOf tv):
  ∀(fuel:Nat) (cs:List Value) (x:DataW H×List MemPlace),DataW.trod enc P W 0 sp held fuel tv cs=some x->ziu P tv x.1->∃t:Tr,Rd (Fz W) .tree t cs:=by
 intro fuel
 induction fuel using Nat.strongRecOn with
 |_ fuel ih=>
  intro cs x h hw
  obtain⟨xs,n,rfl,hx,hl,ah,O⟩:=DataW.trod_struct hu h
  have Z:∀(j:Nat) (f:Field) (hj:j<xs.length),(#[f0,f1,f2,f3]:Array Field)[j]?=some f->ziu P f.type (xs[j]).1:=λj f hj hf m hm=>hw m (by
   rw[hx]
   unfold DataW.weights
   rw[hu]
   exact DataW.weights_mem_each (j:=j) (t:=f.type) (d:=(xs[j]).1) (by rw[B5,A0,hf];rfl) (by rw[B5,Am hj];rfl) m hm)
  obtain⟨a0,o0,a1,o1,a2,o2,a3,o3⟩:=t0
  have g0:=O 0 f0 rfl
  have g1:=O 1 f1 rfl
  have g2:=O 2 f2 rfl
  have g3:=O 3 f3 rfl
  have aj:xs.length=4:=ah
  rw[a0,o0,ck,Am (by omega)]at g0
  rw[a1,o1,cs',Am (by omega)]at g1
  rw[a2,o2,ac,Am (by omega)]at g2
  rw[a3,o3,ae,Am (by omega)]at g3
  obtain⟨k,e0⟩:=qc9 uk g0
  obtain⟨s,e1⟩:=z0b us g1
  obtain⟨ks,e2⟩:=z0c aa us cs' bs g2 (by have:=Z 2 f2 (by omega) rfl;rw[a2]at this;exact this)
  obtain⟨is,e3⟩:=z0a (T:=.tree) af hc (by decide) bv (λm hm cs y hy ai=>ih m (by omega) cs y hy ai) g3 (by have:=Z 3 f3 (by omega) rfl;rw[a3]at this;exact this)
  obtain⟨vk,q2,h2⟩:=e2
  obtain⟨vi,q3,h3⟩:=e3
  have:=four (hl.trans hc) e0 e1 q2 q3
  subst this
  exact⟨.mk k s ks is,TrRd.of ⟨vk,rfl,h2⟩ ⟨vi,rfl,h3⟩⟩
end
theorem zsv{f:FuncId}{W:World}{args:List Arg}{vs:Array Value}(H:PC P (Fz W) f args [.bool] (λr=>r=true))(ha:Xt (Fz W) args vs.toList):
  Calls P f vs W λe w'=>e=.returned (.bool true)/\Below W.heap.size W w':=by
 have H':=H W.heap (Fz W) vs.toList (Fr.le.refl _) (Fz.ag W) ha
 rw[Array.toArray_toList]at H'
 refine(H' W W.drawn).mono ?_
 rintro e w' ⟨v,d',h',rfl,rfl,k,M',r,_,_,_,hr,O⟩
 have O:r=true:=O
 subst O
 rw[zc2 hr]
 exact⟨rfl,rfl,rfl,rfl,k.size,k.get⟩
theorem z9w{xs:List (El T)}(h:Rd M (.row T) xs [v]):RdV M (.row T) xs v:=by rw[zhf rfl];exact h
theorem z5g{t:Tr}{cs:Array Value}(h:Rd M .tree t cs.toList):RdV M .tree t (.agg cs):=by
 unfold RdV;simp only[zdm,if_true];exact⟨cs.toList,by simp,h⟩
theorem Fz.var{W:World}{n:String}{g:Nat}{cs:Array Value}(hg:P.globalNamed n=some g)(h:W.var? P n=some cs):Fz W g=some cs:=by
 unfold World.var? at h
 rw[hg]at h
 exact h
end
end Go.X
end
section
namespace Go.Proofs
section
theorem Tryz.mixed:AK.follows .mixedOrders=true:=by kernel_rfl
noncomputable abbrev Tp:= AK
end
end Go.Proofs
end
section
namespace Go.X
section
theorem PF{gl:Fr}{args:List Arg}{f:FuncId}{fn:Func}{rt:List Ty}{R:Els rt->Prop}{F:Prop}(pl:PlanA)(rs:List ResultVar)(n:Nat)(hf:AK.funcs[f]?=some fn)(H:F)(hb:Wl fn=true:=by kernel_rfl)(hr:fn.results.toList=rs:=by kernel_rfl)(hn:fn.ntmps=n:=by kernel_rfl)(hz:Nat.ble args.length n=true:=by kernel_rfl)(e:F=WA Tp gl 25 n pl (codeOf fn) [] (qfh Tp rs rt R) (zsu 0 args) []:=by kernel_rfl):PC Tp gl f args rt R:=zxg Tryz.mixed gl 25 pl args hf hb hr hn hz H e
theorem zb3(gl:Fr)(l0:List Bt)(R:Bool->Prop)
  (H:∃(a:Int->Prop) (b:Int->Nat),a 0/\∀c:Int,a c->(((bif (decide (c<l0.length))then(decide (c<300))else false)=true->∃d,(0<=c/\l0[c.toNat]?=some d)/\(decide ((d.size:Int)>1024)=true->R false)/\(decide ((d.size:Int)>1024)=false->(a (Aa .i64 (c+1))/\b (Aa .i64 (c+1))<b c)))/\((bif (decide (c<l0.length))then(decide (c<300))else false)=false->R (decide ((l0.length:Int)<=200))))):
  PC Tp gl 19 [Arg.mk (.row .str) l0] [.bool] R:=
 PF ⟨[],[],[(2,⟨[(3,.one (.dat (.int .i64)))],[],[],[100192]⟩)],[]⟩ [.tmp 2] 23 Tryz.func19 H
theorem zgq(gl:Fr)(s0:Bt)(R:((List Bt)×Int)->Prop)
  (H:∀a:Bool->Prop,(∀b:Bool,((b=true->R ([],2))/\(b=false->PC Tp gl 151 [Arg.mk .str s0,Arg.mk .str (⟨#[47]⟩:Bt)] [.int .i64] (λc:Int=>(decide (c>64)=true->R ([],3))/\(decide (c>64)=false->((s0.toList==(⟨#[]⟩:Bt).toList)=true->R ([],0))/\((s0.toList==(⟨#[]⟩:Bt).toList)=false->(0<=(1:Int)/\(1:Int)<=(s0.size:Int)/\(s0.size:Int)<=(s0.size:Int))/\PC Tp gl 152 [Arg.mk .str (s0.extract (1:Int).toNat (s0.size:Int).toNat),Arg.mk .str (⟨#[47]⟩:Bt)] [.row .str] (λd:List Bt=>∃(e:(List Bt)->Int->Prop) (f:(List Bt)->Int->Nat),e [] 0/\∀g:List Bt,∀i:Int,e g i->((decide (i<d.length)=true->∃j,(0<=i/\d[i.toNat]?=some j)/\PC Tp gl 122 [Arg.mk .str j,Arg.mk .str (⟨#[126,49]⟩:Bt),Arg.mk .str (⟨#[47]⟩:Bt)] [.str] (λk:Bt=>PC Tp gl 122 [Arg.mk .str k,Arg.mk .str (⟨#[126,48]⟩:Bt),Arg.mk .str (⟨#[126]⟩:Bt)] [.str] (λl:Bt=>((g.length+Bb ([l]:List Bt))*16<=140737488355328/\(e (g++[l]) (Aa .i64 (i+1))/\f (g++[l]) (Aa .i64 (i+1))<f g i)))))/\(decide (i<d.length)=false->R (g,0)))))))))->a b)->PC Tp gl 75 [Arg.mk .str s0] [.bool] (λm:Bool=>((!m)=true->a (!m))/\((!m)=false->((!(s0.toList==(⟨#[]⟩:Bt).toList))=true->(0<=(0:Int)/\(0:Int)<(s0.size:Int)))/\((bif (!(s0.toList==(⟨#[]⟩:Bt).toList))then((zc s0 (0:Int).toNat:Int) != 47)else false)=true->a (bif (!(s0.toList==(⟨#[]⟩:Bt).toList))then((zc s0 (0:Int).toNat:Int) != 47)else false))/\((bif (!(s0.toList==(⟨#[]⟩:Bt).toList))then((zc s0 (0:Int).toNat:Int) != 47)else false)=false->PC Tp gl 150 [Arg.mk .str s0] [.bool] (λn:Bool=>a (!n)))))):
  PC Tp gl 124 [Arg.mk .str s0] [.row .str,.int .i64] R:=
 PF ⟨[],[],[(11,⟨[(4,.one (.own 9 .str)),(32,.one (.dat (.int .i64)))],[],[],[100256,102048]⟩)],[(4,⟨[(7,.one (.dat .bool))],[],[],[100448]⟩)]⟩ [.tmp 2,.tmp 3] 44 Tryz.func124 H
theorem zdy(gl:Fr)(a0:List Bt)(b1:List Bt)(R:Bool->Prop)
  (H:PC Tp gl 95 [Arg.mk (.row .str) a0,Arg.mk (.row .str) b1] [.int .i64] (λa:Int=>R (a==0))):
  PC Tp gl 55 [Arg.mk (.row .str) a0,Arg.mk (.row .str) b1] [.bool] R:=
 PF ⟨[],[],[],[]⟩ [.tmp 4] 9 Tryz.func55 H
theorem zfg(gl:Fr)(v0:Tr)(O:Int)(R:Bool->Prop)
  (H:PC Tp gl 30 [Arg.mk .tree (Tr.mk v0.kind v0.text v0.keys v0.items),Arg.mk (.int .i64) O,Arg.mk (.int .i64) 0] [.int .i64] (λa:Int=>∃b:Bool->Prop,(decide (a>=0)=true->PC Tp gl 31 [Arg.mk .tree (Tr.mk v0.kind v0.text v0.keys v0.items)] [.bool] b)/\∀c:Bool,(decide (a>=0)=true->b c)->R (bif (decide (a>=0))then c else false))):
  PC Tp gl 10 [Arg.mk .tree v0,Arg.mk (.int .i64) O] [.bool] R:=
 PF ⟨[],[],[],[]⟩ [.tmp 4] 15 Tryz.func10 H
theorem ziw(gl:Fr)(v0:Tr)(O:List Bt)(R:(Tr×Bool)->Prop)
  (H:PC Tp gl 42 [Arg.mk .tree (Tr.mk v0.kind v0.text v0.keys v0.items)] [.bool] (λa:Bool=>∃b:Bool->Prop,((!(!a))=true->PC Tp gl 37 [Arg.mk (.row .str) O] [.bool] b)/\∀c:Bool,((!(!a))=true->b c)->((bif (!a)then true else(!c))=true->R (Tr.mk 0 (⟨#[]⟩:Bt) [] [],false))/\((bif (!a)then true else(!c))=false->PC Tp gl 43 [Arg.mk .tree (Tr.mk v0.kind v0.text v0.keys v0.items),Arg.mk (.row .str) O] [.row (.int .i64),.tree,.bool] (λd:(List Int)×Tr×Bool=>((!d.2.2)=true->R (Tr.mk 0 (⟨#[]⟩:Bt) [] [],false))/\((!d.2.2)=false->PC Tp gl 32 [Arg.mk .tree (Tr.mk d.2.1.kind d.2.1.text d.2.1.keys d.2.1.items)] [.tree] (λe:Tr=>R (Tr.mk e.kind e.text e.keys e.items,true))))))):
  PC Tp gl 20 [Arg.mk .tree v0,Arg.mk (.row .str) O] [.tree,.bool] R:=
 PF ⟨[],[],[],[]⟩ [.cell 4 25,.tmp 5] 30 Tryz.func20 H
theorem zb4(gl:Fr)(a0:Tr)(b1:Tr)(R:Bool->Prop)
  (H:((bif (bif (bif (a0.kind != b1.kind)then true else(!(a0.text.toList==b1.text.toList)))then true else((a0.keys.length:Int) != (b1.keys.length:Int)))then true else((a0.items.length:Int) != (b1.items.length:Int)))=true->R false)/\((bif (bif (bif (a0.kind != b1.kind)then true else(!(a0.text.toList==b1.text.toList)))then true else((a0.keys.length:Int) != (b1.keys.length:Int)))then true else((a0.items.length:Int) != (b1.items.length:Int)))=false->∃(a:Int->Prop) (b:Int->Nat),a 0/\∀c:Int,a c->((decide (c<a0.keys.length)=true->∃d,(0<=c/\a0.keys[c.toNat]?=some d)/\∃e,(0<=c/\b1.keys[c.toNat]?=some e)/\((!(d.toList==e.toList))=true->R false)/\((!(d.toList==e.toList))=false->(a (Aa .i64 (c+1))/\b (Aa .i64 (c+1))<b c)))/\(decide (c<a0.keys.length)=false->∃(f:Int->Prop) (g:Int->Nat),f 0/\∀i:Int,f i->((decide (i<a0.items.length)=true->∃j,(0<=i/\a0.items[i.toNat]?=some j)/\∃k,(0<=i/\b1.items[i.toNat]?=some k)/\PC Tp gl 15 [Arg.mk .tree (Tr.mk j.kind j.text j.keys j.items),Arg.mk .tree (Tr.mk k.kind k.text k.keys k.items)] [.bool] (λl:Bool=>((!l)=true->R false)/\((!l)=false->(f (Aa .i64 (i+1))/\g (Aa .i64 (i+1))<g i))))/\(decide (i<a0.items.length)=false->R true)))))):
  PC Tp gl 15 [Arg.mk .tree a0,Arg.mk .tree b1] [.bool] R:=
 PF ⟨[(11,10)],[],[(4,⟨[(5,.one (.dat (.int .i64)))],[],[2,3],[100320]⟩),(9,⟨[(6,.one (.dat (.int .i64)))],[],[2,3],[100384]⟩)],[]⟩ [.tmp 4] 76 Tryz.func15 H
theorem zb5(gl:Fr)(v0:Tr)(R:Tr->Prop)
  (H:((Bb ([]:List Bt)+v0.keys.length)*16<=140737488355328/\∃(a:Int->Int->Bt->(List Bt)->(List Tr)->Int->Bt->(List Bt)->(List Tr)->Prop) (b:Int->Int->Bt->(List Bt)->(List Tr)->Int->Bt->(List Bt)->(List Tr)->Nat),a 0 0 (⟨#[]⟩:Bt) [] [] v0.kind v0.text ([]++v0.keys) []/\∀c af:Int,∀ai:Bt,∀ae:List Bt,∀ah:List Tr,∀aa:Int,∀ac:Bt,∀Z:List Bt,∀O:List Tr,a c af ai ae ah aa ac Z O->((decide (c<v0.items.length)=true->∃d,(0<=c/\v0.items[c.toNat]?=some d)/\PC Tp gl 12 [Arg.mk .tree (Tr.mk d.kind d.text d.keys d.items)] [.tree] (λe:Tr=>((O.length+Bb ([Tr.mk e.kind e.text e.keys e.items]:List Tr))*72<=140737488355328/\(a (Aa .i64 (c+1)) af ai ae ah aa ac Z (O++[Tr.mk e.kind e.text e.keys e.items])/\b (Aa .i64 (c+1)) af ai ae ah aa ac Z (O++[Tr.mk e.kind e.text e.keys e.items])<b c af ai ae ah aa ac Z O))))/\(decide (c<v0.items.length)=false->R (Tr.mk aa ac Z O))))):
  PC Tp gl 12 [Arg.mk .tree v0] [.tree] R:=
 PF ⟨[],[(1,10,[],[0,1,2,3,4,5,6,9,7,8],[]),(5,9,[],[0,1,2,3,4,5,6,7,8],[])],[(3,⟨[(4,.one (.dat (.int .i64)))],[(2,[.dat (.int .i64),.dat .str,.own 9 .str,.own 25 .tree]),(3,[.dat (.int .i64),.dat .str,.dat (.row .str),.own 25 .tree])],[1],[100256,1000128,1000129,1000130,1000131,1000192,1000193,1000194,1000195]⟩)],[]⟩ [.cell 2 25] 33 Tryz.func12 H
theorem zdz(gl:Fr)(O:List Bt)(R:(Bt×Int)->Prop)
  (H:PC Tp gl 40 [Arg.mk (.row .str) O] [.bool] (λa:Bool=>((!a)=true->R ((⟨#[]⟩:Bt),1))/\((!a)=false->∃(b:(List Int)->Int->Prop) (c:(List Int)->Int->Nat),b [] 0/\∀d:List Int,∀e:Int,b d e->((decide (e<O.length)=true->((d.length+Bb ([47]:List Int))*1<=140737488355328/\∃(f:(List Int)->Int->Prop) (g:(List Int)->Int->Nat),f (d++[47]) 0/\∀i:List Int,∀j:Int,f i j->(∃k,(0<=e/\O[e.toNat]?=some k)/\(decide (j<k.size)=true->∃l,(0<=e/\O[e.toNat]?=some l)/\(0<=j/\j<l.size)/\(((zc l j.toNat:Int)==126)=true->((i.length+Bb (Qk (⟨#[126,48]⟩:Bt)))*1<=140737488355328/\(f (i++(Qk (⟨#[126,48]⟩:Bt))) (Aa .i64 (j+1))/\g (i++(Qk (⟨#[126,48]⟩:Bt))) (Aa .i64 (j+1))<g i j)))/\(((zc l j.toNat:Int)==126)=false->(((zc l j.toNat:Int)==47)=true->((i.length+Bb (Qk (⟨#[126,49]⟩:Bt)))*1<=140737488355328/\(f (i++(Qk (⟨#[126,49]⟩:Bt))) (Aa .i64 (j+1))/\g (i++(Qk (⟨#[126,49]⟩:Bt))) (Aa .i64 (j+1))<g i j)))/\(((zc l j.toNat:Int)==47)=false->((i.length+Bb ([zc l j.toNat]:List Int))*1<=140737488355328/\(f (i++[zc l j.toNat]) (Aa .i64 (j+1))/\g (i++[zc l j.toNat]) (Aa .i64 (j+1))<g i j)))))/\(decide (j<k.size)=false->(b i (Aa .i64 (e+1))/\c i (Aa .i64 (e+1))<c d e)))))/\(decide (e<O.length)=false->R (z9g d,0)))))):
  PC Tp gl 51 [Arg.mk (.row .str) O] [.str,.int .i64] R:=
 PF ⟨[],[],[(6,⟨[(5,.one (.own 5 (.int .u8))),(6,.one (.dat (.int .i64)))],[],[],[100320,100384]⟩),(10,⟨[(5,.one (.own 5 (.int .u8))),(7,.one (.dat (.int .i64)))],[],[],[100320,100448]⟩)],[]⟩ [.tmp 2,.tmp 3] 51 Tryz.func51 H
theorem zb6(gl:Fr)(s0:Bt)(R:((List Bt)×Int)->Prop)
  (H:PC Tp gl 76 [Arg.mk .str s0] [.int .i64,.bool] (λa:Int×Bool=>(((!(!a.2))&&(decide ((s0.size:Int)>0)))=true->(0<=(0:Int)/\(0:Int)<(s0.size:Int)))/\((bif (!a.2)then true else(bif (decide ((s0.size:Int)>0))then((zc s0 (0:Int).toNat:Int) != 47)else false))=true->R ([],2))/\((bif (!a.2)then true else(bif (decide ((s0.size:Int)>0))then((zc s0 (0:Int).toNat:Int) != 47)else false))=false->∃(b:(List Bt)->Int->Prop) (c:(List Bt)->Int->Nat),b [] 0/\∀d:List Bt,∀e:Int,b d e->((decide (e<s0.size)=true->(0<=e/\e<=(Aa .i64 (e+1))/\(Aa .i64 (e+1))<=(s0.size:Int))/\(((s0.extract e.toNat (Aa .i64 (e+1)).toNat:Bt).toList==(⟨#[47]⟩:Bt).toList)=true->((d.length+Bb ([(⟨#[]⟩:Bt)]:List Bt))*16<=140737488355328/\(b (d++([(⟨#[]⟩:Bt)]:List Bt)) (Aa .i64 (e+1))/\c (d++([(⟨#[]⟩:Bt)]:List Bt)) (Aa .i64 (e+1))<c d e)))/\(((s0.extract e.toNat (Aa .i64 (e+1)).toNat:Bt).toList==(⟨#[47]⟩:Bt).toList)=false->∀f:(List Bt)->Int->Bt->Prop,(∀g:List Bt,∀i:Int,∀j:Bt,((0<=(Aa .i64 ((g.length:Int)-1))/\(Aa .i64 ((g.length:Int)-1)).toNat<g.length)/\∃k,g[(Aa .i64 ((g.length:Int)-1)).toNat]?=some k/\xm (k.size+j.size)/\(0<=(Aa .i64 ((g.length:Int)-1))/\(Aa .i64 ((g.length:Int)-1)).toNat<g.length)/\∃l,g[(Aa .i64 ((g.length:Int)-1)).toNat]?=some l/\(b (List.set g ((Aa .i64 ((g.length:Int)-1)).toNat) (k++j)) (Aa .i64 (i+1))/\c (List.set g ((Aa .i64 ((g.length:Int)-1)).toNat) (k++j)) (Aa .i64 (i+1))<c d e))->f g i j)->(((s0.extract e.toNat (Aa .i64 (e+1)).toNat:Bt).toList==(⟨#[126]⟩:Bt).toList)=true->((!(decide ((Aa .i64 (e+1))>=(s0.size:Int))))=true->(0<=(Aa .i64 (e+1))/\(Aa .i64 (e+1))<(s0.size:Int)))/\(((!(decide ((Aa .i64 (e+1))>=(s0.size:Int))))&&((zc s0 (Aa .i64 (e+1)).toNat:Int) != 48))=true->(0<=(Aa .i64 (e+1))/\(Aa .i64 (e+1))<(s0.size:Int)))/\((bif (decide ((Aa .i64 (e+1))>=(s0.size:Int)))then true else(bif ((zc s0 (Aa .i64 (e+1)).toNat:Int) != 48)then((zc s0 (Aa .i64 (e+1)).toNat:Int) != 49)else false))=true->R ([],2))/\((bif (decide ((Aa .i64 (e+1))>=(s0.size:Int)))then true else(bif ((zc s0 (Aa .i64 (e+1)).toNat:Int) != 48)then((zc s0 (Aa .i64 (e+1)).toNat:Int) != 49)else false))=false->(0<=(Aa .i64 (e+1))/\(Aa .i64 (e+1))<(s0.size:Int))/\(((zc s0 (Aa .i64 (e+1)).toNat:Int)==49)=true->f d (Aa .i64 (e+1)) (⟨#[47]⟩:Bt))/\(((zc s0 (Aa .i64 (e+1)).toNat:Int)==49)=false->f d (Aa .i64 (e+1)) (s0.extract e.toNat (Aa .i64 (e+1)).toNat))))/\(((s0.extract e.toNat (Aa .i64 (e+1)).toNat:Bt).toList==(⟨#[126]⟩:Bt).toList)=false->f d e (s0.extract e.toNat (Aa .i64 (e+1)).toNat))))/\(decide (e<s0.size)=false->(decide ((d.length:Int)>64)=true->R ([],3))/\(decide ((d.length:Int)>64)=false->R (d,0))))))):
  PC Tp gl 127 [Arg.mk .str s0] [.row .str,.int .i64] R:=
 PF ⟨[],[],[(6,⟨[(6,.one (.own 9 .str)),(7,.one (.dat (.int .i64)))],[],[],[100384,100448]⟩)],[(17,⟨[(6,.one (.own 9 .str)),(7,.one (.dat (.int .i64))),(8,.one (.dat .str))],[],[],[100384,100448,100512]⟩)]⟩ [.tmp 2,.tmp 3] 87 Tryz.func127 H
theorem zgr(gl:Fr)(O:Bt)(R:(Int×Bool)->Prop)
  (H:(((!(bif (O.toList==(⟨#[]⟩:Bt).toList)then true else(decide ((O.size:Int)>9))))&&(!(O.toList==(⟨#[48]⟩:Bt).toList)))=true->(0<=(0:Int)/\(0:Int)<(O.size:Int)))/\∃a:Bool->Prop,((!(bif (bif (O.toList==(⟨#[]⟩:Bt).toList)then true else(decide ((O.size:Int)>9)))then true else(bif (!(O.toList==(⟨#[48]⟩:Bt).toList))then((zc O (0:Int).toNat:Int)==48)else false)))=true->PC Tp gl 172 [Arg.mk .str O,Arg.mk .str (⟨#[43,45,95]⟩:Bt)] [.bool] a)/\∀b:Bool,((!(bif (bif (O.toList==(⟨#[]⟩:Bt).toList)then true else(decide ((O.size:Int)>9)))then true else(bif (!(O.toList==(⟨#[48]⟩:Bt).toList))then((zc O (0:Int).toNat:Int)==48)else false)))=true->a b)->((bif (bif (bif (O.toList==(⟨#[]⟩:Bt).toList)then true else(decide ((O.size:Int)>9)))then true else(bif (!(O.toList==(⟨#[48]⟩:Bt).toList))then((zc O (0:Int).toNat:Int)==48)else false))then true else b)=true->R (0,false))/\((bif (bif (bif (O.toList==(⟨#[]⟩:Bt).toList)then true else(decide ((O.size:Int)>9)))then true else(bif (!(O.toList==(⟨#[48]⟩:Bt).toList))then((zc O (0:Int).toNat:Int)==48)else false))then true else b)=false->PC Tp gl 173 [Arg.mk .str O] [.int .i64,.err] (λc:Int×Bool=>((!c.2)=true->R (0,false))/\((!c.2)=false->R (c.1,true))))):
  PC Tp gl 145 [Arg.mk .str O] [.int .i64,.bool] R:=
 PF ⟨[],[],[],[]⟩ [.tmp 2,.tmp 3] 34 Tryz.func145 H
theorem zb7(gl:Fr)(O:List Bt)(R:Bool->Prop)
  (H:∃(a:Int->Prop) (b:Int->Nat),a 0/\∀c:Int,a c->((decide (c<O.length)=true->∃d,(0<=c/\O[c.toNat]?=some d)/\PC Tp gl 76 [Arg.mk .str d] [.int .i64,.bool] (λe:Int×Bool=>((!e.2)=true->R false)/\((!e.2)=false->(a (Aa .i64 (c+1))/\b (Aa .i64 (c+1))<b c))))/\(decide (c<O.length)=false->R (decide ((O.length:Int)<=64))))):
  PC Tp gl 40 [Arg.mk (.row .str) O] [.bool] R:=
 PF ⟨[],[],[(2,⟨[(3,.one (.dat (.int .i64)))],[],[],[100192]⟩)],[]⟩ [.tmp 2] 25 Tryz.func40 H
theorem X0(gl:Fr)(a0:List Bt)(b1:List Bt)(R:Int->Prop)
  (H:∃(a:Int->Prop) (b:Int->Nat),a 0/\∀c:Int,a c->(((bif (decide (c<a0.length))then(decide (c<b1.length))else false)=true->∃d,(0<=c/\a0[c.toNat]?=some d)/\∃e,(0<=c/\b1[c.toNat]?=some e)/\((Da d.toList e.toList)=true->R (-1))/\((Da d.toList e.toList)=false->∃f,(0<=c/\a0[c.toNat]?=some f)/\∃g,(0<=c/\b1[c.toNat]?=some g)/\((!(Da f.toList g.toList||(f.toList==g.toList)))=true->R 1)/\((!(Da f.toList g.toList||(f.toList==g.toList)))=false->(a (Aa .i64 (c+1))/\b (Aa .i64 (c+1))<b c))))/\((bif (decide (c<a0.length))then(decide (c<b1.length))else false)=false->(decide ((a0.length:Int)<(b1.length:Int))=true->R (-1))/\(decide ((a0.length:Int)<(b1.length:Int))=false->(decide ((a0.length:Int)>(b1.length:Int))=true->R 1)/\(decide ((a0.length:Int)>(b1.length:Int))=false->R 0))))):
  PC Tp gl 95 [Arg.mk (.row .str) a0,Arg.mk (.row .str) b1] [.int .i64] R:=
 PF ⟨[],[],[(2,⟨[(5,.one (.dat (.int .i64)))],[],[],[100320]⟩)],[]⟩ [.tmp 4] 46 Tryz.func95 H
theorem zfh(gl:Fr)(O:List Bt)(l1:List Tr)(R:Tr->Prop)
  (H:R (Tr.mk 6 (⟨#[]⟩:Bt) O l1)):
  PC Tp gl 28 [Arg.mk (.row .str) O,Arg.mk (.row .tree) l1] [.tree] R:=
 PF ⟨[],[],[],[]⟩ [.cell 4 25] 8 Tryz.func28 H
theorem zfi(gl:Fr)(l0:List Tr)(R:Tr->Prop)
  (H:R (Tr.mk 5 (⟨#[]⟩:Bt) [] l0)):
  PC Tp gl 29 [Arg.mk (.row .tree) l0] [.tree] R:=
 PF ⟨[],[],[],[]⟩ [.cell 2 25] 5 Tryz.func29 H
theorem zqn(gl:Fr)(n0:Int)(R:Tr->Prop)
  (H:PC Tp gl 57 [Arg.mk (.int .i64) n0] [.pair .bool (.pair .str (.int .i64))] (λa:Bool×Bt×Int=>PC Tp gl 56 [Arg.mk (.pair .bool (.pair .str (.int .i64))) (a.1,(a.2.1,a.2.2))] [.str] (λb:Bt=>R (Tr.mk 3 b [] [])))):
  PC Tp gl 27 [Arg.mk (.int .i64) n0] [.tree] R:=
 PF ⟨[],[],[],[]⟩ [.cell 2 25] 7 Tryz.func27 H
theorem zgs(gl:Fr)(s0:Bt)(R:Bool->Prop)
  (H:PC Tp gl 113 [Arg.mk .str s0] [.int .i64,.bool] (λa:Int×Bool=>R a.2)):
  PC Tp gl 75 [Arg.mk .str s0] [.bool] R:=
 PF ⟨[],[],[],[]⟩ [.tmp 2] 11 Tryz.func75 H
theorem zgt(gl:Fr)(s0:Bt)(R:Bool->Prop)
  (H:∃(a:Bt->Prop) (b:Bt->Nat),a s0/\∀c:Bt,a c->(PC Tp gl 182 [Arg.mk .str c,Arg.mk .str (⟨#[126]⟩:Bt)] [.str,.str,.bool] (λd:Bt×Bt×Bool=>((!d.2.2)=true->R true)/\((!d.2.2)=false->((!(d.2.1.toList==(⟨#[]⟩:Bt).toList))=true->(0<=(0:Int)/\(0:Int)<(d.2.1.size:Int)))/\(((!(d.2.1.toList==(⟨#[]⟩:Bt).toList))&&((zc d.2.1 (0:Int).toNat:Int) != 48))=true->(0<=(0:Int)/\(0:Int)<(d.2.1.size:Int)))/\((bif (d.2.1.toList==(⟨#[]⟩:Bt).toList)then true else(bif ((zc d.2.1 (0:Int).toNat:Int) != 48)then((zc d.2.1 (0:Int).toNat:Int) != 49)else false))=true->R false)/\((bif (d.2.1.toList==(⟨#[]⟩:Bt).toList)then true else(bif ((zc d.2.1 (0:Int).toNat:Int) != 48)then((zc d.2.1 (0:Int).toNat:Int) != 49)else false))=false->(a d.2.1/\b d.2.1<b c)))))):
  PC Tp gl 150 [Arg.mk .str s0] [.bool] R:=
 PF ⟨[],[],[(1,⟨[(0,.one (.dat .str))],[],[],[100000]⟩)],[]⟩ [.tmp 2] 27 Tryz.func150 H
theorem zfj(gl:Fr)(v0:Tr)(Z:Int)(O:Int)(R:Int->Prop)
  (H:(decide (O>60)=true->R (-1))/\(decide (O>60)=false->∃(a:Int->Int->Prop) (b:Int->Int->Nat),a (Aa .i64 ((Aa .i64 (Z-1))-(v0.keys.length:Int))) 0/\∀c d:Int,a c d->(((bif (decide (d<v0.items.length))then(decide (c>=0))else false)=true->∃e,(0<=d/\v0.items[d.toNat]?=some e)/\PC Tp gl 30 [Arg.mk .tree (Tr.mk e.kind e.text e.keys e.items),Arg.mk (.int .i64) c,Arg.mk (.int .i64) (Aa .i64 (O+1))] [.int .i64] (λf:Int=>(a f (Aa .i64 (d+1))/\b f (Aa .i64 (d+1))<b c d)))/\((bif (decide (d<v0.items.length))then(decide (c>=0))else false)=false->R c)))):
  PC Tp gl 30 [Arg.mk .tree v0,Arg.mk (.int .i64) Z,Arg.mk (.int .i64) O] [.int .i64] R:=
 PF ⟨[],[],[(5,⟨[(1,.one (.dat (.int .i64))),(7,.one (.dat (.int .i64)))],[],[3],[100064,100448]⟩)],[]⟩ [.tmp 6] 37 Tryz.func30 H
theorem zb8(gl:Fr)(v0:Tr)(R:Bool->Prop)
  (H:(decide ((v0.text.size:Int)>2048)=true->R false)/\(decide ((v0.text.size:Int)>2048)=false->∃(a:Int->Prop) (b:Int->Nat),a 0/\∀c:Int,a c->((decide (c<v0.keys.length)=true->∃d,(0<=c/\v0.keys[c.toNat]?=some d)/\(decide ((d.size:Int)>1024)=true->R false)/\(decide ((d.size:Int)>1024)=false->(a (Aa .i64 (c+1))/\b (Aa .i64 (c+1))<b c)))/\(decide (c<v0.keys.length)=false->∃(e:Int->Prop) (f:Int->Nat),e 0/\∀g:Int,e g->((decide (g<v0.items.length)=true->∃i,(0<=g/\v0.items[g.toNat]?=some i)/\PC Tp gl 31 [Arg.mk .tree (Tr.mk i.kind i.text i.keys i.items)] [.bool] (λj:Bool=>((!j)=true->R false)/\((!j)=false->(e (Aa .i64 (g+1))/\f (Aa .i64 (g+1))<f g))))/\(decide (g<v0.items.length)=false->R true)))))):
  PC Tp gl 31 [Arg.mk .tree v0] [.bool] R:=
 PF ⟨[],[],[(4,⟨[(3,.one (.dat (.int .i64)))],[],[1],[100192]⟩),(9,⟨[(4,.one (.dat (.int .i64)))],[],[1],[100256]⟩)],[]⟩ [.tmp 2] 39 Tryz.func31 H
theorem zd0(gl:Fr)(v0:Tr)(R:Bool->Prop)
  (H:PC Tp gl 65 [Arg.mk .tree (Tr.mk v0.kind v0.text v0.keys v0.items)] [.int .i64] (λa:Int=>∃b:Int->Prop,(decide (a<=4096)=true->PC Tp gl 66 [Arg.mk .tree (Tr.mk v0.kind v0.text v0.keys v0.items)] [.int .i64] b)/\∀c:Int,(decide (a<=4096)=true->b c)->∃d:Bool->Prop,((bif (decide (a<=4096))then(decide (c<=32))else false)=true->PC Tp gl 67 [Arg.mk .tree (Tr.mk v0.kind v0.text v0.keys v0.items),Arg.mk .bool true] [.bool] d)/\∀e:Bool,((bif (decide (a<=4096))then(decide (c<=32))else false)=true->d e)->R (bif (bif (decide (a<=4096))then(decide (c<=32))else false)then e else false))):
  PC Tp gl 107 [Arg.mk .tree v0] [.bool] R:=
 PF ⟨[],[],[],[]⟩ [.tmp 2] 15 Tryz.func107 H
theorem zb9(gl:Fr)(s0:Bt)(R:(Int×Bool)->Prop)
  (H:∃(a:Int->Prop) (b:Int->Nat),a 0/\∀c:Int,a c->((decide (c<s0.size)=true->PC Tp gl 114 [Arg.mk .str s0,Arg.mk (.int .i64) c] [.bool] (λd:Bool=>((!d)=true->R (c,false))/\((!d)=false->PC Tp gl 115 [Arg.mk .str s0,Arg.mk (.int .i64) c] [.int .i32,.int .i64] (λe:Int×Int=>(a (Aa .i64 (c+e.2))/\b (Aa .i64 (c+e.2))<b c)))))/\(decide (c<s0.size)=false->R ((s0.size:Int),true)))):
  PC Tp gl 76 [Arg.mk .str s0] [.int .i64,.bool] R:=
 PF ⟨[],[],[(2,⟨[(4,.one (.dat (.int .i64)))],[],[],[100256]⟩)],[]⟩ [.tmp 2,.tmp 3] 29 Tryz.func76 H
theorem zks(gl:Fr)(n0:Bool×Bt×Int)(R:Bt->Prop)
  (H:PC Tp gl 96 [Arg.mk (.pair .bool (.pair .str (.int .i64))) (n0.1,(n0.2.1,n0.2.2))] [.bool] (λa:Bool=>((!a)=true->R (⟨#[]⟩:Bt))/\((!a)=false->((n0.2.1.toList==(⟨#[]⟩:Bt).toList)=true->R (⟨#[48]⟩:Bt))/\((n0.2.1.toList==(⟨#[]⟩:Bt).toList)=false->∀b:Bt->Prop,(∀c:Bt,(((n0.2.2 != 0)=true->PC Tp gl 97 [Arg.mk (.int .i64) n0.2.2] [.str] (λd:Bt=>xm (((⟨#[101]⟩:Bt)).size+d.size)/\xm (c.size+((⟨#[101]⟩:Bt)++d).size)/\R (c++((⟨#[101]⟩:Bt)++d))))/\((n0.2.2 != 0)=false->R c))->b c)->(n0.1=true->xm (((⟨#[45]⟩:Bt)).size+n0.2.1.size)/\b ((⟨#[45]⟩:Bt)++n0.2.1))/\(n0.1=false->b n0.2.1))))):
  PC Tp gl 56 [Arg.mk (.pair .bool (.pair .str (.int .i64))) n0] [.str] R:=
 PF ⟨[],[],[],[(8,⟨[(3,.one (.dat .str))],[],[1],[100192]⟩)]⟩ [.tmp 2] 26 Tryz.func56 H
theorem zqo(gl:Fr)(n0:Int)(R:(Bool×Bt×Int)->Prop)
  (H:PC Tp gl 97 [Arg.mk (.int .i64) n0] [.str] (λa:Bt=>PC Tp gl 98 [Arg.mk .str a] [.pair .bool (.pair .str (.int .i64)),.int .i64] (λb:(Bool×Bt×Int)×Int=>R (b.1.1,(b.1.2.1,b.1.2.2))))):
  PC Tp gl 57 [Arg.mk (.int .i64) n0] [.pair .bool (.pair .str (.int .i64))] R:=
 PF ⟨[],[],[],[]⟩ [.cell 2 78] 12 Tryz.func57 H
theorem zkt(gl:Fr)(s0:Bt)(R:(Int×Bool)->Prop)
  (H:PC Tp gl 141 [Arg.mk .str s0] [.bool] (λa:Bool=>(a=true->R ((s0.size:Int),true))/\(a=false->∃(b:(Bt×Nat)->Prop) (c:(Bt×Nat)->Nat),b (s0,0)/\∀O:Bt×Nat,b O->(((nxB O.1 O.2)=true->(nxB O.1 O.2)=true/\(nxB O.1 O.2)=true/\(((nxR O.1 O.2:Int) != 65533)=true->(b (O.1,nxP O.1 O.2)/\c (O.1,nxP O.1 O.2)<c O))/\(((nxR O.1 O.2:Int) != 65533)=false->(0<=(O.2:Int)/\(O.2:Int)<=(s0.size:Int)/\(s0.size:Int)<=(s0.size:Int))/\PC Tp gl 142 [Arg.mk .str (s0.extract (O.2:Int).toNat (s0.size:Int).toNat)] [.int .i32,.int .i64] (λd:Int×Int=>((d.2==1)=true->R ((O.2:Int),false))/\((d.2==1)=false->(b (O.1,nxP O.1 O.2)/\c (O.1,nxP O.1 O.2)<c O)))))/\((nxB O.1 O.2)=false->R ((s0.size:Int),true)))))):
  PC Tp gl 113 [Arg.mk .str s0] [.int .i64,.bool] R:=
 PF ⟨[],[],[(4,⟨[],[(13,[.dat .iter])],[],[1000832]⟩)],[]⟩ [.tmp 2,.tmp 3] 32 Tryz.func113 H
theorem zku(gl:Fr)(v0:Tr)(R:Bool->Prop)
  (H:PC Tp gl 78 [Arg.mk .tree (Tr.mk v0.kind v0.text v0.keys v0.items)] [.int .i64] (λa:Int=>∃b:Int->Prop,(decide (a<=4096)=true->PC Tp gl 79 [Arg.mk .tree (Tr.mk v0.kind v0.text v0.keys v0.items)] [.int .i64] b)/\∀c:Int,(decide (a<=4096)=true->b c)->R (bif (decide (a<=4096))then(decide (c<=32))else false))):
  PC Tp gl 44 [Arg.mk .tree v0] [.bool] R:=
 PF ⟨[],[],[],[]⟩ [.tmp 2] 11 Tryz.func44 H
theorem znm(gl:Fr)(v0:Tr)(R:Bool->Prop)
  (H:((v0.kind==5)=true->R (bif (!(decide ((v0.keys.length:Int)>0)))then(v0.text.toList==(⟨#[]⟩:Bt).toList)else false))/\((v0.kind==5)=false->((v0.kind==6)=true->PC Tp gl 82 [Arg.mk (.row .str) v0.keys,Arg.mk (.int .i64) (v0.items.length:Int)] [.bool] (λa:Bool=>R (bif a then(v0.text.toList==(⟨#[]⟩:Bt).toList)else false)))/\((v0.kind==6)=false->((bif (decide ((v0.keys.length:Int)>0))then true else(decide ((v0.items.length:Int)>0)))=true->R false)/\((bif (decide ((v0.keys.length:Int)>0))then true else(decide ((v0.items.length:Int)>0)))=false->((v0.kind==1)=true->R (v0.text.toList==(⟨#[]⟩:Bt).toList))/\((v0.kind==1)=false->((v0.kind==2)=true->R (bif (v0.text.toList==(⟨#[116,114,117,101]⟩:Bt).toList)then true else(v0.text.toList==(⟨#[102,97,108,115,101]⟩:Bt).toList)))/\((v0.kind==2)=false->((v0.kind==3)=true->PC Tp gl 83 [Arg.mk .str v0.text] [.pair .bool (.pair .str (.int .i64)),.bool] (λb:(Bool×Bt×Int)×Bool=>R b.2))/\((v0.kind==3)=false->((v0.kind==4)=true->PC Tp gl 84 [Arg.mk .str v0.text] [.bool] (λc:Bool=>R c))/\((v0.kind==4)=false->((v0.kind==7)=true->PC Tp gl 85 [Arg.mk .str v0.text] [.bool] (λd:Bool=>R d))/\((v0.kind==7)=false->R false))))))))):
  PC Tp gl 47 [Arg.mk .tree v0] [.bool] R:=
 PF ⟨[],[],[],[]⟩ [.tmp 2] 79 Tryz.func47 H
theorem zd1(gl:Fr)(v0:Tr)(R:Int->Prop)
  (H:∃(a:Int->Int->Prop) (b:Int->Int->Nat),a 1 0/\∀c d:Int,a c d->((decide (d<v0.items.length)=true->∃e,(0<=d/\v0.items[d.toNat]?=some e)/\PC Tp gl 65 [Arg.mk .tree (Tr.mk e.kind e.text e.keys e.items)] [.int .i64] (λf:Int=>(a (Aa .i64 (c+f)) (Aa .i64 (d+1))/\b (Aa .i64 (c+f)) (Aa .i64 (d+1))<b c d)))/\(decide (d<v0.items.length)=false->R c))):
  PC Tp gl 65 [Arg.mk .tree v0] [.int .i64] R:=
 PF ⟨[],[],[(3,⟨[(3,.one (.dat (.int .i64))),(4,.one (.dat (.int .i64)))],[],[1],[100192,100256]⟩)],[]⟩ [.tmp 2] 21 Tryz.func65 H
theorem zca(gl:Fr)(v0:Tr)(R:Int->Prop)
  (H:∃(a:Int->Int->Prop) (b:Int->Int->Nat),a 0 0/\∀c d:Int,a c d->((decide (d<v0.items.length)=true->∃e,(0<=d/\v0.items[d.toNat]?=some e)/\PC Tp gl 66 [Arg.mk .tree (Tr.mk e.kind e.text e.keys e.items)] [.int .i64] (λf:Int=>(a (if c<f then f else c) (Aa .i64 (d+1))/\b (if c<f then f else c) (Aa .i64 (d+1))<b c d)))/\(decide (d<v0.items.length)=false->R (Aa .i64 (c+1))))):
  PC Tp gl 66 [Arg.mk .tree v0] [.int .i64] R:=
 PF ⟨[],[],[(3,⟨[(3,.one (.dat (.int .i64))),(4,.one (.dat (.int .i64)))],[],[1],[100192,100256]⟩)],[]⟩ [.tmp 2] 22 Tryz.func66 H
theorem zcb(gl:Fr)(v0:Tr)(O:Bool)(R:Bool->Prop)
  (H:PC Tp gl 106 [Arg.mk .tree (Tr.mk v0.kind v0.text v0.keys v0.items)] [.bool] (λa:Bool=>((bif (!a)then true else(bif (v0.kind==7)then(!O)else false))=true->R false)/\((bif (!a)then true else(bif (v0.kind==7)then(!O)else false))=false->∃(b:Int->Prop) (c:Int->Nat),b 0/\∀d:Int,b d->((decide (d<v0.items.length)=true->∃e,(0<=d/\v0.items[d.toNat]?=some e)/\PC Tp gl 67 [Arg.mk .tree (Tr.mk e.kind e.text e.keys e.items),Arg.mk .bool O] [.bool] (λf:Bool=>((!f)=true->R false)/\((!f)=false->(b (Aa .i64 (d+1))/\c (Aa .i64 (d+1))<c d))))/\(decide (d<v0.items.length)=false->R true))))):
  PC Tp gl 67 [Arg.mk .tree v0,Arg.mk .bool O] [.bool] R:=
 PF ⟨[],[],[(5,⟨[(6,.one (.dat (.int .i64)))],[],[2],[100384]⟩)],[]⟩ [.tmp 4] 37 Tryz.func67 H
theorem zd2(gl:Fr)(s0:Bt)(O:Int)(R:Bool->Prop)
  (H:PC Tp gl 115 [Arg.mk .str s0,Arg.mk (.int .i64) O] [.int .i32,.int .i64] (λa:Int×Int=>R (bif (decide (a.2>0))then(!(bif (a.1==65533)then(a.2==1)else false))else false))):
  PC Tp gl 114 [Arg.mk .str s0,Arg.mk (.int .i64) O] [.bool] R:=
 PF ⟨[],[],[],[]⟩ [.tmp 4] 24 Tryz.func114 H
theorem zd3(gl:Fr)(s0:Bt)(O:Int)(R:(Int×Int)->Prop)
  (H:((bif (decide (O<0))then true else(decide (O>=s0.size)))=true->R (0,0))/\((bif (decide (O<0))then true else(decide (O>=s0.size)))=false->(0<=O/\O<s0.size)/\PC Tp gl 143 [Arg.mk (.int .i64) (Aa .i64 (zc s0 O.toNat))] [.int .i64] (λa:Int=>((bif (a==0)then true else(decide (a>(Aa .i64 ((s0.size:Int)-O)))))=true->R (65533,1))/\((bif (a==0)then true else(decide (a>(Aa .i64 ((s0.size:Int)-O)))))=false->(0<=O/\O<s0.size)/\∀b:Int->Prop,(∀c:Int,(∀d:Int->Prop,(∀e:Int,(∀f:Int->Prop,(∀g:Int,(∃(i:Int->Int->Prop) (j:Int->Int->Nat),i g 1/\∀k l:Int,i k l->((decide (l<a)=true->(0<=(Aa .i64 (O+l))/\(Aa .i64 (O+l))<(s0.size:Int))/\((bif (decide ((Aa .i64 (zc s0 (Aa .i64 (O+l):Int).toNat))<128))then true else(decide ((Aa .i64 (zc s0 (Aa .i64 (O+l):Int).toNat))>191)))=true->R (65533,1))/\((bif (decide ((Aa .i64 (zc s0 (Aa .i64 (O+l):Int).toNat))<128))then true else(decide ((Aa .i64 (zc s0 (Aa .i64 (O+l):Int).toNat))>191)))=false->(i (Aa .i64 ((Aa .i64 ((Aa .i64 (64*k))+(Aa .i64 (zc s0 (Aa .i64 (O+l)).toNat))))-128)) (Aa .i64 (l+1))/\j (Aa .i64 ((Aa .i64 ((Aa .i64 (64*k))+(Aa .i64 (zc s0 (Aa .i64 (O+l)).toNat))))-128)) (Aa .i64 (l+1))<j k l)))/\(decide (l<a)=false->((bif (bif (bif (bif (a==3)then(decide (k<2048))else false)then true else(bif (a==4)then(decide (k<65536))else false))then true else(decide (k>1114111)))then true else(bif (decide (k>=55296))then(decide (k<57344))else false))=true->R (65533,1))/\((bif (bif (bif (bif (a==3)then(decide (k<2048))else false)then true else(bif (a==4)then(decide (k<65536))else false))then true else(decide (k>1114111)))then true else(bif (decide (k>=55296))then(decide (k<57344))else false))=false->R (Aa .i32 k,a)))))->f g)->((a==4)=true->f (Aa .i64 (e-240)))/\((a==4)=false->f e))->d e)->((a==3)=true->d (Aa .i64 (c-224)))/\((a==3)=false->d c))->b c)->((a==2)=true->b (Aa .i64 ((Aa .i64 (zc s0 O.toNat))-192)))/\((a==2)=false->b (Aa .i64 (zc s0 O.toNat))))))):
  PC Tp gl 115 [Arg.mk .str s0,Arg.mk (.int .i64) O] [.int .i32,.int .i64] R:=
 PF ⟨[],[],[(14,⟨[(7,.one (.dat (.int .i64))),(8,.one (.dat (.int .i64)))],[],[],[100448,100512]⟩)],[(9,⟨[(7,.one (.dat (.int .i64)))],[],[],[100448]⟩),(11,⟨[(7,.one (.dat (.int .i64)))],[],[],[100448]⟩),(13,⟨[(7,.one (.dat (.int .i64)))],[],[],[100448]⟩)]⟩ [.tmp 4,.tmp 5] 100 Tryz.func115 H
theorem zix(gl:Fr)(n0:Bool×Bt×Int)(R:Bool->Prop)
  (H:(((n0.1==false)&&((n0.2.1.toList==(⟨#[]⟩:Bt).toList)&&((n0.2.2==0)&&true)))=true->R true)/\(((n0.1==false)&&((n0.2.1.toList==(⟨#[]⟩:Bt).toList)&&((n0.2.2==0)&&true)))=false->PC Tp gl 128 [Arg.mk .str n0.2.1] [.bool] (λa:Bool=>((!a)=true->((!a)=true->R false)/\((!a)=false->R (bif (decide (n0.2.2>=(-1000000)))then(decide (n0.2.2<=1000000))else false)))/\((!a)=false->(decide ((n0.2.1.size:Int)>1000)=true->(decide ((n0.2.1.size:Int)>1000)=true->R false)/\(decide ((n0.2.1.size:Int)>1000)=false->R (bif (decide (n0.2.2>=(-1000000)))then(decide (n0.2.2<=1000000))else false)))/\(decide ((n0.2.1.size:Int)>1000)=false->(0<=(0:Int)/\(0:Int)<(n0.2.1.size:Int))/\(((zc n0.2.1 (0:Int).toNat:Int)==48)=true->(((zc n0.2.1 (0:Int).toNat:Int)==48)=true->R false)/\(((zc n0.2.1 (0:Int).toNat:Int)==48)=false->R (bif (decide (n0.2.2>=(-1000000)))then(decide (n0.2.2<=1000000))else false)))/\(((zc n0.2.1 (0:Int).toNat:Int)==48)=false->(0<=(Aa .i64 ((n0.2.1.size:Int)-1))/\(Aa .i64 ((n0.2.1.size:Int)-1))<(n0.2.1.size:Int))/\(((zc n0.2.1 (Aa .i64 ((n0.2.1.size:Int)-1)).toNat:Int)==48)=true->R false)/\(((zc n0.2.1 (Aa .i64 ((n0.2.1.size:Int)-1)).toNat:Int)==48)=false->R (bif (decide (n0.2.2>=(-1000000)))then(decide (n0.2.2<=1000000))else false)))))))):
  PC Tp gl 96 [Arg.mk (.pair .bool (.pair .str (.int .i64))) n0] [.bool] R:=
 PF ⟨[],[],[],[]⟩ [.tmp 2] 34 Tryz.func96 H
theorem ziy(gl:Fr)(s0:Bt)(R:((Bool×Bt×Int)×Int)->Prop)
  (H:PC Tp gl 130 [Arg.mk .str s0] [.pair .bool (.pair .bool (.pair .str (.pair .str .str))),.bool] (λa:(Bool×Bool×Bt×Bt×Bt)×Bool=>PC Tp gl 131 [Arg.mk .str a.1.2.2.2.2,Arg.mk .str (⟨#[48]⟩:Bt)] [.str] (λb:Bt=>((!a.2)=true->R ((false,((⟨#[]⟩:Bt),0)),2))/\((!a.2)=false->((decide ((Aa .i64 ((a.1.2.2.1.size:Int)+(a.1.2.2.2.1.size:Int)))>1000))=true->R ((false,((⟨#[]⟩:Bt),0)),3))/\((decide ((Aa .i64 ((a.1.2.2.1.size:Int)+(a.1.2.2.2.1.size:Int)))>1000))=false->(decide ((b.size:Int)>9)=true->R ((false,((⟨#[]⟩:Bt),0)),4))/\(decide ((b.size:Int)>9)=false->∃(c:Int->Bool->Bt->Int->(Bt×Nat)->Prop) (d:Int->Bool->Bt->Int->(Bt×Nat)->Nat),c 0 false (⟨#[]⟩:Bt) 0 (b,0)/\∀e:Int,∀Z:Bool,∀ac:Bt,∀aa:Int,∀O:Bt×Nat,c e Z ac aa O->(((nxB O.1 O.2)=true->(nxB O.1 O.2)=true/\(c (Aa .i64 ((Aa .i64 (10*e))+(Aa .i64 (Aa .i32 ((nxR O.1 O.2)-48))))) Z ac aa (O.1,nxP O.1 O.2)/\d (Aa .i64 ((Aa .i64 (10*e))+(Aa .i64 (Aa .i32 ((nxR O.1 O.2)-48))))) Z ac aa (O.1,nxP O.1 O.2)<d e Z ac aa O))/\((nxB O.1 O.2)=false->∀f:Int->Bool->Bt->Int->Prop,(∀g:Int,∀ah:Bool,∀ae:Bt,∀af:Int,(xm (a.1.2.2.1.size+a.1.2.2.2.1.size)/\PC Tp gl 131 [Arg.mk .str (a.1.2.2.1++a.1.2.2.2.1),Arg.mk .str (⟨#[48]⟩:Bt)] [.str] (λi:Bt=>((i.toList==(⟨#[]⟩:Bt).toList)=true->R ((false,((⟨#[]⟩:Bt),0)),0))/\((i.toList==(⟨#[]⟩:Bt).toList)=false->PC Tp gl 132 [Arg.mk .str i,Arg.mk .str (⟨#[48]⟩:Bt)] [.str] (λj:Bt=>PC Tp gl 96 [Arg.mk (.pair .bool (.pair .str (.int .i64))) (a.1.1,(j,Aa .i64 ((Aa .i64 ((Aa .i64 (g-(a.1.2.2.2.1.size:Int)))+(i.size:Int)))-(j.size:Int))))] [.bool] (λk:Bool=>((!k)=true->R ((false,((⟨#[]⟩:Bt),0)),4))/\((!k)=false->R ((a.1.1,(j,Aa .i64 ((Aa .i64 ((Aa .i64 (g-(a.1.2.2.2.1.size:Int)))+(i.size:Int)))-(j.size:Int)))),0)))))))->f g ah ae af)->(a.1.2.1=true->f (Aa .i64 (0-e)) Z ac aa)/\(a.1.2.1=false->f e Z ac aa))))))))):
  PC Tp gl 98 [Arg.mk .str s0] [.pair .bool (.pair .str (.int .i64)),.int .i64] R:=
 PF ⟨[],[],[(11,⟨[(7,.one (.dat (.int .i64)))],[(2,[.dat .bool,.dat .str,.dat (.int .i64)]),(41,[.dat .iter])],[4],[100448,1000128,1000129,1000130,1002624]⟩)],[(16,⟨[(7,.one (.dat (.int .i64)))],[(2,[.dat .bool,.dat .str,.dat (.int .i64)])],[4],[100448,1000128,1000129,1000130]⟩)]⟩ [.cell 2 78,.tmp 3] 86 Tryz.func98 H
theorem Ym(gl:Fr)(s0:Bt)(R:Bool->Prop)
  (H:∃(a:Bt->Prop) (b:Bt->Nat),a s0/\∀c:Bt,a c->((decide ((c.size:Int)>0)=true->(0<=(0:Int)/\(0:Int)<(c.size:Int))/\(decide ((zc c (0:Int).toNat:Int)<128)=true->(0<=(1:Int)/\(1:Int)<=(c.size:Int)/\(c.size:Int)<=(c.size:Int))/\∃d:Int->Prop,((decide ((((c.extract (1:Int).toNat (c.size:Int).toNat).size:Int):Int)>8))=true->PC Tp gl 170 [Arg.mk .str (c.extract (1:Int).toNat (c.size:Int).toNat)] [.int .u64] d)/\∀e:Int,((decide ((((c.extract (1:Int).toNat (c.size:Int).toNat).size:Int):Int)>8))=true->d e)->((bif (decide ((((c.extract (1:Int).toNat (c.size:Int).toNat).size:Int):Int)>8))then((Aa .u64 (((Aw (Ap .u64) e) &&& (Aw (Ap .u64) 9259542123273814144)).toNat:Int):Int)==0)else false)=true->(0<=(8:Int)/\(8:Int)<=((c.extract (1:Int).toNat (c.size:Int).toNat).size:Int)/\(((c.extract (1:Int).toNat (c.size:Int).toNat).size:Int):Int)<=((c.extract (1:Int).toNat (c.size:Int).toNat).size:Int))/\((decide (((((c.extract (1:Int).toNat (c.size:Int).toNat).extract (8:Int).toNat (((c.extract (1:Int).toNat (c.size:Int).toNat).size:Int):Int).toNat).size:Int):Int)>16))=true->(0<=(8:Int)/\(8:Int)<=(((c.extract (1:Int).toNat (c.size:Int).toNat).extract (8:Int).toNat (((c.extract (1:Int).toNat (c.size:Int).toNat).size:Int):Int).toNat).size:Int)/\((((c.extract (1:Int).toNat (c.size:Int).toNat).extract (8:Int).toNat (((c.extract (1:Int).toNat (c.size:Int).toNat).size:Int):Int).toNat).size:Int):Int)<=(((c.extract (1:Int).toNat (c.size:Int).toNat).extract (8:Int).toNat (((c.extract (1:Int).toNat (c.size:Int).toNat).size:Int):Int).toNat).size:Int)))/\∃f:Int->Prop,((decide (((((c.extract (1:Int).toNat (c.size:Int).toNat).extract (8:Int).toNat (((c.extract (1:Int).toNat (c.size:Int).toNat).size:Int):Int).toNat).size:Int):Int)>16))=true->PC Tp gl 170 [Arg.mk .str ((c.extract (1:Int).toNat (c.size:Int).toNat).extract (8:Int).toNat (((c.extract (1:Int).toNat (c.size:Int).toNat).size:Int):Int).toNat)] [.int .u64] f)/\∀g:Int,((decide (((((c.extract (1:Int).toNat (c.size:Int).toNat).extract (8:Int).toNat (((c.extract (1:Int).toNat (c.size:Int).toNat).size:Int):Int).toNat).size:Int):Int)>16))=true->f g)->∃i:Int->Prop,((decide (((((c.extract (1:Int).toNat (c.size:Int).toNat).extract (8:Int).toNat (((c.extract (1:Int).toNat (c.size:Int).toNat).size:Int):Int).toNat).size:Int):Int)>16))=true->PC Tp gl 170 [Arg.mk .str (((c.extract (1:Int).toNat (c.size:Int).toNat).extract (8:Int).toNat (((c.extract (1:Int).toNat (c.size:Int).toNat).size:Int):Int).toNat).extract (8:Int).toNat ((((c.extract (1:Int).toNat (c.size:Int).toNat).extract (8:Int).toNat (((c.extract (1:Int).toNat (c.size:Int).toNat).size:Int):Int).toNat).size:Int):Int).toNat)] [.int .u64] i)/\∀j:Int,((decide (((((c.extract (1:Int).toNat (c.size:Int).toNat).extract (8:Int).toNat (((c.extract (1:Int).toNat (c.size:Int).toNat).size:Int):Int).toNat).size:Int):Int)>16))=true->i j)->((bif (decide (((((c.extract (1:Int).toNat (c.size:Int).toNat).extract (8:Int).toNat (((c.extract (1:Int).toNat (c.size:Int).toNat).size:Int):Int).toNat).size:Int):Int)>16))then((Aa .u64 (((Aw (Ap .u64) (Aa .u64 (((Aw (Ap .u64) g) ||| (Aw (Ap .u64) j)).toNat:Int))) &&& (Aw (Ap .u64) 9259542123273814144)).toNat:Int):Int)==0)else false)=true->(0<=(16:Int)/\(16:Int)<=(((c.extract (1:Int).toNat (c.size:Int).toNat).extract (8:Int).toNat (((c.extract (1:Int).toNat (c.size:Int).toNat).size:Int):Int).toNat).size:Int)/\((((c.extract (1:Int).toNat (c.size:Int).toNat).extract (8:Int).toNat (((c.extract (1:Int).toNat (c.size:Int).toNat).size:Int):Int).toNat).size:Int):Int)<=(((c.extract (1:Int).toNat (c.size:Int).toNat).extract (8:Int).toNat (((c.extract (1:Int).toNat (c.size:Int).toNat).size:Int):Int).toNat).size:Int))/\∃(k:Bt->Prop) (l:Bt->Nat),k (((c.extract (1:Int).toNat (c.size:Int).toNat).extract (8:Int).toNat (((c.extract (1:Int).toNat (c.size:Int).toNat).size:Int):Int).toNat).extract (16:Int).toNat ((((c.extract (1:Int).toNat (c.size:Int).toNat).extract (8:Int).toNat (((c.extract (1:Int).toNat (c.size:Int).toNat).size:Int):Int).toNat).size:Int):Int).toNat)/\∀m:Bt,k m->((decide ((m.size:Int)>32)=true->(0<=(8:Int)/\(8:Int)<=(m.size:Int)/\(m.size:Int)<=(m.size:Int)))/\(decide ((m.size:Int)>32)=true->(0<=(16:Int)/\(16:Int)<=(m.size:Int)/\(m.size:Int)<=(m.size:Int)))/\(decide ((m.size:Int)>32)=true->(0<=(24:Int)/\(24:Int)<=(m.size:Int)/\(m.size:Int)<=(m.size:Int)))/\∃n:Int->Prop,(decide ((m.size:Int)>32)=true->PC Tp gl 170 [Arg.mk .str m] [.int .u64] n)/\∀o:Int,(decide ((m.size:Int)>32)=true->n o)->∃p:Int->Prop,(decide ((m.size:Int)>32)=true->PC Tp gl 170 [Arg.mk .str (m.extract (8:Int).toNat (m.size:Int).toNat)] [.int .u64] p)/\∀q:Int,(decide ((m.size:Int)>32)=true->p q)->∃r:Int->Prop,(decide ((m.size:Int)>32)=true->PC Tp gl 170 [Arg.mk .str (m.extract (16:Int).toNat (m.size:Int).toNat)] [.int .u64] r)/\∀s:Int,(decide ((m.size:Int)>32)=true->r s)->∃t:Int->Prop,(decide ((m.size:Int)>32)=true->PC Tp gl 170 [Arg.mk .str (m.extract (24:Int).toNat (m.size:Int).toNat)] [.int .u64] t)/\∀u:Int,(decide ((m.size:Int)>32)=true->t u)->((bif (decide ((m.size:Int)>32))then((Aa .u64 (((Aw (Ap .u64) (Aa .u64 (((Aw (Ap .u64) (Aa .u64 (((Aw (Ap .u64) o) ||| (Aw (Ap .u64) q)).toNat:Int))) ||| (Aw (Ap .u64) (Aa .u64 (((Aw (Ap .u64) s) ||| (Aw (Ap .u64) u)).toNat:Int)))).toNat:Int))) &&& (Aw (Ap .u64) 9259542123273814144)).toNat:Int):Int)==0)else false)=true->(0<=(32:Int)/\(32:Int)<=(m.size:Int)/\(m.size:Int)<=(m.size:Int))/\(k (m.extract (32:Int).toNat (m.size:Int).toNat)/\l (m.extract (32:Int).toNat (m.size:Int).toNat)<l m))/\((bif (decide ((m.size:Int)>32))then((Aa .u64 (((Aw (Ap .u64) (Aa .u64 (((Aw (Ap .u64) (Aa .u64 (((Aw (Ap .u64) o) ||| (Aw (Ap .u64) q)).toNat:Int))) ||| (Aw (Ap .u64) (Aa .u64 (((Aw (Ap .u64) s) ||| (Aw (Ap .u64) u)).toNat:Int)))).toNat:Int))) &&& (Aw (Ap .u64) 9259542123273814144)).toNat:Int):Int)==0)else false)=false->(a m/\b m<b c))))/\((bif (decide (((((c.extract (1:Int).toNat (c.size:Int).toNat).extract (8:Int).toNat (((c.extract (1:Int).toNat (c.size:Int).toNat).size:Int):Int).toNat).size:Int):Int)>16))then((Aa .u64 (((Aw (Ap .u64) (Aa .u64 (((Aw (Ap .u64) g) ||| (Aw (Ap .u64) j)).toNat:Int))) &&& (Aw (Ap .u64) 9259542123273814144)).toNat:Int):Int)==0)else false)=false->(a ((c.extract (1:Int).toNat (c.size:Int).toNat).extract (8:Int).toNat (((c.extract (1:Int).toNat (c.size:Int).toNat).size:Int):Int).toNat)/\b ((c.extract (1:Int).toNat (c.size:Int).toNat).extract (8:Int).toNat (((c.extract (1:Int).toNat (c.size:Int).toNat).size:Int):Int).toNat)<b c)))/\((bif (decide ((((c.extract (1:Int).toNat (c.size:Int).toNat).size:Int):Int)>8))then((Aa .u64 (((Aw (Ap .u64) e) &&& (Aw (Ap .u64) 9259542123273814144)).toNat:Int):Int)==0)else false)=false->(a (c.extract (1:Int).toNat (c.size:Int).toNat)/\b (c.extract (1:Int).toNat (c.size:Int).toNat)<b c)))/\(decide ((zc c (0:Int).toNat:Int)<128)=false->(0<=(zc c (0:Int).toNat:Int)/\(zc c (0:Int).toNat:Int)<((256:Nat):Int))/\∃v,zid gl 0 (0+(zc c (0:Int).toNat:Int).toNat*1) (.int .u8 v)/\(0<=(v.fdiv (2 ^ 4):Int)/\(v.fdiv (2 ^ 4):Int)<((16:Nat):Int))/\∃w,zid gl 1 (0+(v.fdiv (2 ^ 4):Int).toNat*2) (.int .u8 w)/\∃x,zid gl 1 (0+(v.fdiv (2 ^ 4):Int).toNat*2+1) (.int .u8 x)/\(((Aa .i64 (Aa .u8 (((Aw (Ap .u8) v) &&& (Aw (Ap .u8) 7)).toNat:Int)):Int)==2)=true->((!(decide ((c.size:Int)<2)))=true->(0<=(1:Int)/\(1:Int)<(c.size:Int)))/\((!(bif (decide ((c.size:Int)<2))then true else(decide ((zc c (1:Int).toNat:Int)<w))))=true->(0<=(1:Int)/\(1:Int)<(c.size:Int)))/\((bif (bif (decide ((c.size:Int)<2))then true else(decide ((zc c (1:Int).toNat:Int)<w)))then true else(decide (x<(zc c (1:Int).toNat))))=true->R false)/\((bif (bif (decide ((c.size:Int)<2))then true else(decide ((zc c (1:Int).toNat:Int)<w)))then true else(decide (x<(zc c (1:Int).toNat))))=false->(0<=(2:Int)/\(2:Int)<=(c.size:Int)/\(c.size:Int)<=(c.size:Int))/\(a (c.extract (2:Int).toNat (c.size:Int).toNat)/\b (c.extract (2:Int).toNat (c.size:Int).toNat)<b c)))/\(((Aa .i64 (Aa .u8 (((Aw (Ap .u8) v) &&& (Aw (Ap .u8) 7)).toNat:Int)):Int)==2)=false->(((Aa .i64 (Aa .u8 (((Aw (Ap .u8) v) &&& (Aw (Ap .u8) 7)).toNat:Int)):Int)==3)=true->((!(decide ((c.size:Int)<3)))=true->(0<=(1:Int)/\(1:Int)<(c.size:Int)))/\((!(bif (decide ((c.size:Int)<3))then true else(decide ((zc c (1:Int).toNat:Int)<w))))=true->(0<=(1:Int)/\(1:Int)<(c.size:Int)))/\((!(bif (bif (decide ((c.size:Int)<3))then true else(decide ((zc c (1:Int).toNat:Int)<w)))then true else(decide (x<(zc c (1:Int).toNat)))))=true->(0<=(2:Int)/\(2:Int)<(c.size:Int)))/\((!(bif (bif (bif (decide ((c.size:Int)<3))then true else(decide ((zc c (1:Int).toNat:Int)<w)))then true else(decide (x<(zc c (1:Int).toNat))))then true else(decide ((zc c (2:Int).toNat:Int)<128))))=true->(0<=(2:Int)/\(2:Int)<(c.size:Int)))/\((bif (bif (bif (bif (decide ((c.size:Int)<3))then true else(decide ((zc c (1:Int).toNat:Int)<w)))then true else(decide (x<(zc c (1:Int).toNat))))then true else(decide ((zc c (2:Int).toNat:Int)<128)))then true else(decide ((191:Int)<(zc c (2:Int).toNat))))=true->R false)/\((bif (bif (bif (bif (decide ((c.size:Int)<3))then true else(decide ((zc c (1:Int).toNat:Int)<w)))then true else(decide (x<(zc c (1:Int).toNat))))then true else(decide ((zc c (2:Int).toNat:Int)<128)))then true else(decide ((191:Int)<(zc c (2:Int).toNat))))=false->(0<=(3:Int)/\(3:Int)<=(c.size:Int)/\(c.size:Int)<=(c.size:Int))/\(a (c.extract (3:Int).toNat (c.size:Int).toNat)/\b (c.extract (3:Int).toNat (c.size:Int).toNat)<b c)))/\(((Aa .i64 (Aa .u8 (((Aw (Ap .u8) v) &&& (Aw (Ap .u8) 7)).toNat:Int)):Int)==3)=false->(((Aa .i64 (Aa .u8 (((Aw (Ap .u8) v) &&& (Aw (Ap .u8) 7)).toNat:Int)):Int)==4)=true->((!(decide ((c.size:Int)<4)))=true->(0<=(1:Int)/\(1:Int)<(c.size:Int)))/\((!(bif (decide ((c.size:Int)<4))then true else(decide ((zc c (1:Int).toNat:Int)<w))))=true->(0<=(1:Int)/\(1:Int)<(c.size:Int)))/\((!(bif (bif (decide ((c.size:Int)<4))then true else(decide ((zc c (1:Int).toNat:Int)<w)))then true else(decide (x<(zc c (1:Int).toNat)))))=true->(0<=(2:Int)/\(2:Int)<(c.size:Int)))/\((!(bif (bif (bif (decide ((c.size:Int)<4))then true else(decide ((zc c (1:Int).toNat:Int)<w)))then true else(decide (x<(zc c (1:Int).toNat))))then true else(decide ((zc c (2:Int).toNat:Int)<128))))=true->(0<=(2:Int)/\(2:Int)<(c.size:Int)))/\((!(bif (bif (bif (bif (decide ((c.size:Int)<4))then true else(decide ((zc c (1:Int).toNat:Int)<w)))then true else(decide (x<(zc c (1:Int).toNat))))then true else(decide ((zc c (2:Int).toNat:Int)<128)))then true else(decide ((191:Int)<(zc c (2:Int).toNat)))))=true->(0<=(3:Int)/\(3:Int)<(c.size:Int)))/\((!(bif (bif (bif (bif (bif (decide ((c.size:Int)<4))then true else(decide ((zc c (1:Int).toNat:Int)<w)))then true else(decide (x<(zc c (1:Int).toNat))))then true else(decide ((zc c (2:Int).toNat:Int)<128)))then true else(decide ((191:Int)<(zc c (2:Int).toNat))))then true else(decide ((zc c (3:Int).toNat:Int)<128))))=true->(0<=(3:Int)/\(3:Int)<(c.size:Int)))/\((bif (bif (bif (bif (bif (bif (decide ((c.size:Int)<4))then true else(decide ((zc c (1:Int).toNat:Int)<w)))then true else(decide (x<(zc c (1:Int).toNat))))then true else(decide ((zc c (2:Int).toNat:Int)<128)))then true else(decide ((191:Int)<(zc c (2:Int).toNat))))then true else(decide ((zc c (3:Int).toNat:Int)<128)))then true else(decide ((191:Int)<(zc c (3:Int).toNat))))=true->R false)/\((bif (bif (bif (bif (bif (bif (decide ((c.size:Int)<4))then true else(decide ((zc c (1:Int).toNat:Int)<w)))then true else(decide (x<(zc c (1:Int).toNat))))then true else(decide ((zc c (2:Int).toNat:Int)<128)))then true else(decide ((191:Int)<(zc c (2:Int).toNat))))then true else(decide ((zc c (3:Int).toNat:Int)<128)))then true else(decide ((191:Int)<(zc c (3:Int).toNat))))=false->(0<=(4:Int)/\(4:Int)<=(c.size:Int)/\(c.size:Int)<=(c.size:Int))/\(a (c.extract (4:Int).toNat (c.size:Int).toNat)/\b (c.extract (4:Int).toNat (c.size:Int).toNat)<b c)))/\(((Aa .i64 (Aa .u8 (((Aw (Ap .u8) v) &&& (Aw (Ap .u8) 7)).toNat:Int)):Int)==4)=false->R false)))))/\(decide ((c.size:Int)>0)=false->R true))):
  PC Tp gl 141 [Arg.mk .str s0] [.bool] R:=
 PF ⟨[],[(7,8,[],[0,1,2,3,4,6,7,5],[]),(9,15,[],[0,1,2,3,4,6,7,10,11,13,14,5,8,9,12],[9])],[(1,⟨[(0,.one (.dat .str))],[],[],[100000]⟩),(9,⟨[(0,.one (.dat .str))],[],[],[100000]⟩)],[]⟩ [.tmp 2] 169 Tryz.func141 H
theorem znn(gl:Fr)(v0:Tr)(R:Int->Prop)
  (H:∃(a:Int->Int->Prop) (b:Int->Int->Nat),a 1 0/\∀c d:Int,a c d->((decide (d<v0.items.length)=true->∃e,(0<=d/\v0.items[d.toNat]?=some e)/\PC Tp gl 78 [Arg.mk .tree (Tr.mk e.kind e.text e.keys e.items)] [.int .i64] (λf:Int=>(a (Aa .i64 (c+f)) (Aa .i64 (d+1))/\b (Aa .i64 (c+f)) (Aa .i64 (d+1))<b c d)))/\(decide (d<v0.items.length)=false->R c))):
  PC Tp gl 78 [Arg.mk .tree v0] [.int .i64] R:=
 PF ⟨[],[],[(3,⟨[(3,.one (.dat (.int .i64))),(9,.one (.dat (.int .i64)))],[],[],[100192,100576]⟩)],[]⟩ [.tmp 2] 19 Tryz.func78 H
theorem zkv(gl:Fr)(v0:Tr)(R:Int->Prop)
  (H:∃(a:Int->Int->Prop) (b:Int->Int->Nat),a 0 0/\∀c d:Int,a c d->((decide (d<v0.items.length)=true->∃e,(0<=d/\v0.items[d.toNat]?=some e)/\PC Tp gl 79 [Arg.mk .tree (Tr.mk e.kind e.text e.keys e.items)] [.int .i64] (λf:Int=>(a (if c<f then f else c) (Aa .i64 (d+1))/\b (if c<f then f else c) (Aa .i64 (d+1))<b c d)))/\(decide (d<v0.items.length)=false->R (Aa .i64 (c+1))))):
  PC Tp gl 79 [Arg.mk .tree v0] [.int .i64] R:=
 PF ⟨[],[],[(3,⟨[(3,.one (.dat (.int .i64))),(9,.one (.dat (.int .i64)))],[],[],[100192,100576]⟩)],[]⟩ [.tmp 2] 20 Tryz.func79 H
theorem zgu(gl:Fr)(s0:Bt)(R:((Bool×Bt×Int)×Bool)->Prop)
  (H:PC Tp gl 98 [Arg.mk .str s0] [.pair .bool (.pair .str (.int .i64)),.int .i64] (λa:(Bool×Bt×Int)×Int=>∃b:Bt->Prop,((a.2==0)=true->PC Tp gl 56 [Arg.mk (.pair .bool (.pair .str (.int .i64))) (a.1.1,(a.1.2.1,a.1.2.2))] [.str] b)/\∀c:Bt,((a.2==0)=true->b c)->R ((a.1.1,(a.1.2.1,a.1.2.2)),bif (a.2==0)then(c.toList==s0.toList)else false))):
  PC Tp gl 83 [Arg.mk .str s0] [.pair .bool (.pair .str (.int .i64)),.bool] R:=
 PF ⟨[],[(2,9,[],[0,1,2,3,4,6,5,7,8],[6,7,8])],[],[]⟩ [.cell 2 78,.tmp 3] 20 Tryz.func83 H
theorem zkw(gl:Fr)(s0:Bt)(R:Bool->Prop)
  (H:PC Tp gl 113 [Arg.mk .str s0] [.int .i64,.bool] (λa:Int×Bool=>R a.2)):
  PC Tp gl 84 [Arg.mk .str s0] [.bool] R:=
 PF ⟨[],[],[],[]⟩ [.tmp 2] 11 Tryz.func84 H
theorem zno(gl:Fr)(s0:Bt)(R:Bool->Prop)
  (H:PC Tp gl 83 [Arg.mk .str s0] [.pair .bool (.pair .str (.int .i64)),.bool] (λa:(Bool×Bt×Int)×Bool=>PC Tp gl 119 [Arg.mk (.pair .bool (.pair .str (.int .i64))) (a.1.1,(a.1.2.1,a.1.2.2))] [.int .i64,.bool] (λb:Int×Bool=>R (bif (bif a.2 then b.2 else false)then(decide (b.1>=0))else false)))):
  PC Tp gl 85 [Arg.mk .str s0] [.bool] R:=
 PF ⟨[],[],[],[]⟩ [.tmp 2] 25 Tryz.func85 H
theorem ziz(gl:Fr)(v0:Tr)(O:Bt)(R:Int->Prop)
  (H:((v0.kind==6)=true->PC Tp gl 144 [Arg.mk (.row .str) v0.keys,Arg.mk .str O] [.int .i64] (λa:Int=>R a))/\((v0.kind==6)=false->((v0.kind==5)=true->PC Tp gl 145 [Arg.mk .str O] [.int .i64,.bool] (λb:Int×Bool=>((bif b.2 then(decide (b.1<v0.items.length))else false)=true->R b.1)/\((bif b.2 then(decide (b.1<v0.items.length))else false)=false->R (-1))))/\((v0.kind==5)=false->R (-1)))):
  PC Tp gl 117 [Arg.mk .tree v0,Arg.mk .str O] [.int .i64] R:=
 PF ⟨[],[],[],[]⟩ [.tmp 4] 31 Tryz.func117 H
theorem zd4(gl:Fr)(v0:Tr)(R:Bool->Prop)
  (H:((bif (bif (v0.kind != 6)then(decide ((v0.keys.length:Int)>0))else false)then true else(bif (bif (v0.kind != 6)then(v0.kind != 5)else false)then(decide ((v0.items.length:Int)>0))else false))=true->R false)/\((bif (bif (v0.kind != 6)then(decide ((v0.keys.length:Int)>0))else false)then true else(bif (bif (v0.kind != 6)then(v0.kind != 5)else false)then(decide ((v0.items.length:Int)>0))else false))=false->∀a:Bool->Prop,(∀b:Bool,((b=true->R (v0.text.toList==(⟨#[]⟩:Bt).toList))/\(b=false->((v0.kind==2)=true->R (bif (v0.text.toList==(⟨#[116,114,117,101]⟩:Bt).toList)then true else(v0.text.toList==(⟨#[102,97,108,115,101]⟩:Bt).toList)))/\((v0.kind==2)=false->((v0.kind==3)=true->PC Tp gl 138 [Arg.mk .str v0.text] [.pair .bool (.pair .str (.int .i64)),.bool] (λc:(Bool×Bt×Int)×Bool=>R c.2))/\((v0.kind==3)=false->((v0.kind==4)=true->PC Tp gl 139 [Arg.mk .str v0.text] [.bool] (λd:Bool=>R d))/\((v0.kind==4)=false->((v0.kind==7)=true->PC Tp gl 138 [Arg.mk .str v0.text] [.pair .bool (.pair .str (.int .i64)),.bool] (λe:(Bool×Bt×Int)×Bool=>PC Tp gl 140 [Arg.mk (.pair .bool (.pair .str (.int .i64))) (e.1.1,(e.1.2.1,e.1.2.2))] [.int .i64,.bool] (λf:Int×Bool=>R (bif (bif e.2 then f.2 else false)then(decide (f.1>=0))else false))))/\((v0.kind==7)=false->((v0.kind==6)=true->∃(g:Int->Prop) (i:Int->Nat),g 0/\∀j:Int,g j->((decide (j<v0.keys.length)=true->∃k,(0<=j/\v0.keys[j.toNat]?=some k)/\PC Tp gl 139 [Arg.mk .str k] [.bool] (λl:Bool=>((!l)=true->R false)/\((!l)=false->∃(m:Int->Prop) (n:Int->Nat),m 0/\∀o:Int,m o->((decide (o<j)=true->∃p,(0<=o/\v0.keys[o.toNat]?=some p)/\∃q,(0<=j/\v0.keys[j.toNat]?=some q)/\((p.toList==q.toList)=true->R false)/\((p.toList==q.toList)=false->(m (Aa .i64 (o+1))/\n (Aa .i64 (o+1))<n o)))/\(decide (o<j)=false->(g (Aa .i64 (j+1))/\i (Aa .i64 (j+1))<i j))))))/\(decide (j<v0.keys.length)=false->R (bif (v0.text.toList==(⟨#[]⟩:Bt).toList)then((v0.keys.length:Int)==(v0.items.length:Int))else false))))/\((v0.kind==6)=false->R false)))))))->a b)->((v0.kind==1)=true->a (v0.kind==1))/\((v0.kind==1)=false->a (v0.kind==5)))):
  PC Tp gl 106 [Arg.mk .tree v0] [.bool] R:=
 PF ⟨[],[],[(20,⟨[(9,.one (.dat (.int .i64)))],[],[1],[100576]⟩),(26,⟨[(11,.one (.dat (.int .i64)))],[],[],[100704]⟩)],[(6,⟨[(39,.one (.dat .bool))],[],[1],[102496]⟩)]⟩ [.tmp 2] 135 Tryz.func106 H
theorem zd5(gl:Fr)(c0:Int)(R:Int->Prop)
  (H:(decide (c0<128)=true->R 1)/\(decide (c0<128)=false->((bif (decide (c0>=194))then(decide (c0<=223))else false)=true->R 2)/\((bif (decide (c0>=194))then(decide (c0<=223))else false)=false->((bif (decide (c0>=224))then(decide (c0<=239))else false)=true->R 3)/\((bif (decide (c0>=224))then(decide (c0<=239))else false)=false->((bif (decide (c0>=240))then(decide (c0<=244))else false)=true->R 4)/\((bif (decide (c0>=240))then(decide (c0<=244))else false)=false->R 0))))):
  PC Tp gl 143 [Arg.mk (.int .i64) c0] [.int .i64] R:=
 PF ⟨[],[],[],[]⟩ [.tmp 2] 23 Tryz.func143 H
theorem zgv(gl:Fr)(s0:Bt)(R:Bool->Prop)
  (H:∃(a:(Bt×Nat)->Prop) (b:(Bt×Nat)->Nat),a (s0,0)/\∀O:Bt×Nat,a O->(((nxB O.1 O.2)=true->(nxB O.1 O.2)=true/\((bif (decide ((nxR O.1 O.2:Int)<48))then true else(decide ((nxR O.1 O.2:Int)>57)))=true->R false)/\((bif (decide ((nxR O.1 O.2:Int)<48))then true else(decide ((nxR O.1 O.2:Int)>57)))=false->(a (O.1,nxP O.1 O.2)/\b (O.1,nxP O.1 O.2)<b O)))/\((nxB O.1 O.2)=false->R (!(s0.toList==(⟨#[]⟩:Bt).toList))))):
  PC Tp gl 128 [Arg.mk .str s0] [.bool] R:=
 PF ⟨[],[],[(2,⟨[],[(6,[.dat .iter])],[],[1000384]⟩)],[]⟩ [.tmp 2] 18 Tryz.func128 H
theorem zkx(gl:Fr)(s0:Bt)(R:((Bool×Bool×Bt×Bt×Bt)×Bool)->Prop)
  (H:PC Tp gl 154 [Arg.mk .str s0,Arg.mk .str (⟨#[45]⟩:Bt)] [.str,.bool] (λa:Bt×Bool=>PC Tp gl 155 [Arg.mk .str a.1,Arg.mk .str (⟨#[101,69]⟩:Bt)] [.str,.str,.bool] (λb:Bt×Bt×Bool=>∀c:Bt->Bool->Bool->Bt->Bt->Bt->Prop,(∀d:Bt,∀ah af:Bool,∀aj ai ak:Bt,(PC Tp gl 155 [Arg.mk .str b.1,Arg.mk .str (⟨#[46]⟩:Bt)] [.str,.str,.bool] (λe:Bt×Bt×Bool=>PC Tp gl 128 [Arg.mk .str e.1] [.bool] (λf:Bool=>∃g:Bool->Prop,(((!(!f))&&e.2.2)=true->PC Tp gl 128 [Arg.mk .str e.2.1] [.bool] g)/\∀i:Bool,(((!(!f))&&e.2.2)=true->g i)->((bif (!f)then true else(bif e.2.2 then(!i)else false))=true->R ((ah,(af,(e.1,(e.2.1,d)))),false))/\((bif (!f)then true else(bif e.2.2 then(!i)else false))=false->((!(e.1.toList==(⟨#[48]⟩:Bt).toList))=true->(0<=(0:Int)/\(0:Int)<(e.1.size:Int)))/\R ((ah,(af,(e.1,(e.2.1,d)))),bif (e.1.toList==(⟨#[48]⟩:Bt).toList)then true else((zc e.1 (0:Int).toNat:Int) != 48))))))->c d ah af aj ai ak)->(b.2.2=true->PC Tp gl 154 [Arg.mk .str b.2.1,Arg.mk .str (⟨#[45]⟩:Bt)] [.str,.bool] (λj:Bt×Bool=>∀k:Bt->Bool->Bool->Bt->Bt->Bt->Prop,(∀l:Bt,∀Z O:Bool,∀ac ae aa:Bt,(PC Tp gl 128 [Arg.mk .str l] [.bool] (λm:Bool=>((!m)=true->R ((Z,(O,(ac,(ae,aa)))),false))/\((!m)=false->c l Z O ac ae aa)))->k l Z O ac ae aa)->((!j.2)=true->PC Tp gl 156 [Arg.mk .str j.1,Arg.mk .str (⟨#[43]⟩:Bt)] [.str] (λn:Bt=>k n a.2 j.2 (⟨#[]⟩:Bt) (⟨#[]⟩:Bt) (⟨#[]⟩:Bt)))/\((!j.2)=false->k j.1 a.2 j.2 (⟨#[]⟩:Bt) (⟨#[]⟩:Bt) (⟨#[]⟩:Bt))))/\(b.2.2=false->c b.2.1 a.2 false (⟨#[]⟩:Bt) (⟨#[]⟩:Bt) (⟨#[]⟩:Bt))))):
  PC Tp gl 130 [Arg.mk .str s0] [.pair .bool (.pair .bool (.pair .str (.pair .str .str))),.bool] R:=
 PF ⟨[],[(14,8,[],[0,1,2,3,4,5,6,7],[4,5,6,7])],[],[(9,⟨[(4,.one (.dat .str))],[(2,[.dat .bool,.dat .bool,.dat .str,.dat .str,.dat .str])],[],[100256,1000128,1000129,1000130,1000131,1000132]⟩),(7,⟨[(4,.one (.dat .str))],[(2,[.dat .bool,.dat .bool,.dat .str,.dat .str,.dat .str])],[],[100256,1000128,1000129,1000130,1000131,1000132]⟩)]⟩ [.cell 2 140,.tmp 3] 69 Tryz.func130 H
theorem Yn(gl:Fr)(s0:Bt)(R:Int->Prop)
  (H:(false=true->(0<=(0:Int)/\(0:Int)<(s0.size:Int))/\(0<=(1:Int)/\(1:Int)<(s0.size:Int))/\(0<=(2:Int)/\(2:Int)<(s0.size:Int))/\(0<=(3:Int)/\(3:Int)<(s0.size:Int))/\R (Aa .u64 (((Aw (Ap .u64) (Aa .u64 (((Aw (Ap .u64) (Aa .u64 (((Aw (Ap .u64) (Aa .u64 (zc s0 (0:Int).toNat))) ||| (Aw (Ap .u64) (Aa .u64 ((Aa .u64 (zc s0 (1:Int).toNat))*2 ^ 8)))).toNat:Int))) ||| (Aw (Ap .u64) (Aa .u64 ((Aa .u64 (zc s0 (2:Int).toNat))*2 ^ 16)))).toNat:Int))) ||| (Aw (Ap .u64) (Aa .u64 ((Aa .u64 (zc s0 (3:Int).toNat))*2 ^ 24)))).toNat:Int)))/\(false=false->(0<=(0:Int)/\(0:Int)<(s0.size:Int))/\(0<=(1:Int)/\(1:Int)<(s0.size:Int))/\(0<=(2:Int)/\(2:Int)<(s0.size:Int))/\(0<=(3:Int)/\(3:Int)<(s0.size:Int))/\(0<=(4:Int)/\(4:Int)<(s0.size:Int))/\(0<=(5:Int)/\(5:Int)<(s0.size:Int))/\(0<=(6:Int)/\(6:Int)<(s0.size:Int))/\(0<=(7:Int)/\(7:Int)<(s0.size:Int))/\R (Aa .u64 (((Aw (Ap .u64) (Aa .u64 (((Aw (Ap .u64) (Aa .u64 (((Aw (Ap .u64) (Aa .u64 (((Aw (Ap .u64) (Aa .u64 (((Aw (Ap .u64) (Aa .u64 (((Aw (Ap .u64) (Aa .u64 (((Aw (Ap .u64) (Aa .u64 (zc s0 (0:Int).toNat))) ||| (Aw (Ap .u64) (Aa .u64 ((Aa .u64 (zc s0 (1:Int).toNat))*2 ^ 8)))).toNat:Int))) ||| (Aw (Ap .u64) (Aa .u64 ((Aa .u64 (zc s0 (2:Int).toNat))*2 ^ 16)))).toNat:Int))) ||| (Aw (Ap .u64) (Aa .u64 ((Aa .u64 (zc s0 (3:Int).toNat))*2 ^ 24)))).toNat:Int))) ||| (Aw (Ap .u64) (Aa .u64 ((Aa .u64 (zc s0 (4:Int).toNat))*2 ^ 32)))).toNat:Int))) ||| (Aw (Ap .u64) (Aa .u64 ((Aa .u64 (zc s0 (5:Int).toNat))*2 ^ 40)))).toNat:Int))) ||| (Aw (Ap .u64) (Aa .u64 ((Aa .u64 (zc s0 (6:Int).toNat))*2 ^ 48)))).toNat:Int))) ||| (Aw (Ap .u64) (Aa .u64 ((Aa .u64 (zc s0 (7:Int).toNat))*2 ^ 56)))).toNat:Int)))):
  PC Tp gl 170 [Arg.mk .str s0] [.int .u64] R:=
 PF ⟨[],[],[],[]⟩ [.tmp 2] 59 Tryz.func170 H
theorem znp(gl:Fr)(n0:Bool×Bt×Int)(R:(Int×Bool)->Prop)
  (H:PC Tp gl 96 [Arg.mk (.pair .bool (.pair .str (.int .i64))) (n0.1,(n0.2.1,n0.2.2))] [.bool] (λa:Bool=>((bif (bif (!a)then true else(decide (n0.2.2<0)))then true else(decide ((Aa .i64 ((n0.2.1.size:Int)+n0.2.2))>19)))=true->R (0,false))/\((bif (bif (!a)then true else(decide (n0.2.2<0)))then true else(decide ((Aa .i64 ((n0.2.1.size:Int)+n0.2.2))>19)))=false->PC Tp gl 146 [Arg.mk .str (⟨#[48]⟩:Bt),Arg.mk (.int .i64) n0.2.2] [.str] (λb:Bt=>xm (n0.2.1.size+b.size)/\∀c:Bt->Prop,(∀d:Bt,(((d.toList==(⟨#[]⟩:Bt).toList)=true->R (0,true))/\((d.toList==(⟨#[]⟩:Bt).toList)=false->PC Tp gl 147 [Arg.mk .str d,Arg.mk (.int .i64) 10,Arg.mk (.int .i64) 64] [.int .i64,.err] (λe:Int×Bool=>((!e.2)=true->R (0,false))/\((!e.2)=false->R (e.1,true)))))->c d)->(n0.1=true->xm (((⟨#[45]⟩:Bt)).size+(n0.2.1++b).size)/\c ((⟨#[45]⟩:Bt)++(n0.2.1++b)))/\(n0.1=false->c (n0.2.1++b)))))):
  PC Tp gl 119 [Arg.mk (.pair .bool (.pair .str (.int .i64))) n0] [.int .i64,.bool] R:=
 PF ⟨[],[(3,5,[],[0,1,2,3,4],[])],[],[(6,⟨[(4,.one (.dat .str))],[],[],[100256]⟩)]⟩ [.tmp 2,.tmp 3] 44 Tryz.func119 H
theorem X1(gl:Fr)(s0:Bt)(R:((Bool×Bt×Int)×Bool)->Prop)
  (H:PC Tp gl 167 [Arg.mk .str s0] [.pair .bool (.pair .str (.int .i64)),.int .i64] (λa:(Bool×Bt×Int)×Int=>∃b:Bt->Prop,((a.2==0)=true->PC Tp gl 168 [Arg.mk (.pair .bool (.pair .str (.int .i64))) (a.1.1,(a.1.2.1,a.1.2.2))] [.str] b)/\∀c:Bt,((a.2==0)=true->b c)->R ((a.1.1,(a.1.2.1,a.1.2.2)),bif (a.2==0)then(c.toList==s0.toList)else false))):
  PC Tp gl 138 [Arg.mk .str s0] [.pair .bool (.pair .str (.int .i64)),.bool] R:=
 PF ⟨[],[(2,9,[],[0,1,2,3,4,6,5,7,8],[6,7,8])],[],[]⟩ [.cell 2 78,.tmp 3] 20 Tryz.func138 H
theorem zfk(gl:Fr)(s0:Bt)(R:Bool->Prop)
  (H:PC Tp gl 76 [Arg.mk .str s0] [.int .i64,.bool] (λa:Int×Bool=>R a.2)):
  PC Tp gl 139 [Arg.mk .str s0] [.bool] R:=
 PF ⟨[],[],[],[]⟩ [.tmp 2] 11 Tryz.func139 H
theorem zfl(gl:Fr)(n0:Bool×Bt×Int)(R:(Int×Bool)->Prop)
  (H:PC Tp gl 169 [Arg.mk (.pair .bool (.pair .str (.int .i64))) (n0.1,(n0.2.1,n0.2.2))] [.bool] (λa:Bool=>((bif (bif (!a)then true else(decide (n0.2.2<0)))then true else(decide ((Aa .i64 ((n0.2.1.size:Int)+n0.2.2))>19)))=true->R (0,false))/\((bif (bif (!a)then true else(decide (n0.2.2<0)))then true else(decide ((Aa .i64 ((n0.2.1.size:Int)+n0.2.2))>19)))=false->∃(b:Int->Int->Prop) (c:Int->Int->Nat),b 0 0/\∀d e:Int,b d e->(((decide (e<(Aa .i64 ((n0.2.1.size:Int)+n0.2.2))))=true->∀f:Int->Prop,(∀g:Int,(CH=CH/\(10:Int)≠0/\((decide (d<(Aa .i64 ((Aa .i64 ((-9223372036854775808)+g)).tdiv 10))))=true->R (0,false))/\((decide (d<(Aa .i64 ((Aa .i64 ((-9223372036854775808)+g)).tdiv 10))))=false->(b (Aa .i64 ((Aa .i64 (10*d))-g)) (Aa .i64 (e+1))/\c (Aa .i64 ((Aa .i64 (10*d))-g)) (Aa .i64 (e+1))<c d e)))->f g)->(decide (e<n0.2.1.size)=true->(0<=e/\e<n0.2.1.size)/\f (Aa .i64 (Aa .u8 ((zc n0.2.1 e.toNat)-48))))/\(decide (e<n0.2.1.size)=false->f 0))/\((decide (e<(Aa .i64 ((n0.2.1.size:Int)+n0.2.2))))=false->(n0.1=true->R (d,true))/\(n0.1=false->((d==(-9223372036854775808))=true->R (0,false))/\((d==(-9223372036854775808))=false->R (Aa .i64 (0-d),true)))))))):
  PC Tp gl 140 [Arg.mk (.pair .bool (.pair .str (.int .i64))) n0] [.int .i64,.bool] R:=
 PF ⟨[],[],[(6,⟨[(5,.one (.dat (.int .i64))),(6,.one (.dat (.int .i64)))],[],[1],[100320,100384]⟩)],[(11,⟨[(7,.one (.dat (.int .i64)))],[],[],[100448]⟩)]⟩ [.tmp 2,.tmp 3] 63 Tryz.func140 H
theorem znq(gl:Fr)(s0:Bt)(O:Bt)(R:(Bt×Bt×Bool)->Prop)
  (H:∃(a:Int->Prop) (b:Int->Nat),a 0/\∀c:Int,a c->((decide (c<s0.size)=true->(0<=c/\c<s0.size)/\PC Tp gl 191 [Arg.mk .str O,Arg.mk (.int .u8) (zc s0 c.toNat)] [.int .i64] (λd:Int=>(decide (d>=0)=true->(0<=(0:Int)/\(0:Int)<=c/\c<=s0.size)/\(0<=(Aa .i64 (c+1))/\(Aa .i64 (c+1))<=(s0.size:Int)/\(s0.size:Int)<=(s0.size:Int))/\R (s0.extract (0:Int).toNat c.toNat,s0.extract (Aa .i64 (c+1)).toNat (s0.size:Int).toNat,true))/\(decide (d>=0)=false->(a (Aa .i64 (c+1))/\b (Aa .i64 (c+1))<b c))))/\(decide (c<s0.size)=false->R (s0,(⟨#[]⟩:Bt),false)))):
  PC Tp gl 155 [Arg.mk .str s0,Arg.mk .str O] [.str,.str,.bool] R:=
 PF ⟨[],[],[(2,⟨[(10,.one (.dat (.int .i64)))],[],[],[100640]⟩)],[]⟩ [.tmp 4,.tmp 5,.tmp 6] 28 Tryz.func155 H
theorem zcc(gl:Fr)(s0:Bt)(R:((Bool×Bt×Int)×Int)->Prop)
  (H:PC Tp gl 198 [Arg.mk .str s0] [.bool,.str,.str,.bool,.str,.bool] (λa:Bool×Bt×Bt×Bool×Bt×Bool=>((!a.2.2.2.2.2)=true->R ((false,((⟨#[]⟩:Bt),0)),2))/\((!a.2.2.2.2.2)=false->((decide ((Aa .i64 ((a.2.1.size:Int)+(a.2.2.1.size:Int)))>1000))=true->R ((false,((⟨#[]⟩:Bt),0)),3))/\((decide ((Aa .i64 ((a.2.1.size:Int)+(a.2.2.1.size:Int)))>1000))=false->∃(b:Bt->Bool->Bt->Int->Prop) (c:Bt->Bool->Bt->Int->Nat),b a.2.2.2.2.1 false (⟨#[]⟩:Bt) 0/\∀d:Bt,∀am:Bool,∀ak:Bt,∀al:Int,b d am ak al->((decide ((d.size:Int)>1)=true->(0<=(0:Int)/\(0:Int)<(d.size:Int)))/\((bif (decide ((d.size:Int)>1))then((zc d (0:Int).toNat:Int)==48)else false)=true->(0<=(1:Int)/\(1:Int)<=(d.size:Int)/\(d.size:Int)<=(d.size:Int))/\(b (d.extract (1:Int).toNat (d.size:Int).toNat) am ak al/\c (d.extract (1:Int).toNat (d.size:Int).toNat) am ak al<c d am ak al))/\((bif (decide ((d.size:Int)>1))then((zc d (0:Int).toNat:Int)==48)else false)=false->(decide ((d.size:Int)>9)=true->R ((false,((⟨#[]⟩:Bt),0)),4))/\(decide ((d.size:Int)>9)=false->∃(e:Int->Int->Bool->Bt->Int->Prop) (f:Int->Int->Bool->Bt->Int->Nat),e 0 0 am ak al/\∀g i:Int,∀af:Bool,∀ae:Bt,∀O:Int,e g i af ae O->((decide (i<d.size)=true->(0<=i/\i<d.size)/\(e (Aa .i64 ((Aa .i64 (10*g))+(Aa .i64 (Aa .u8 ((zc d i.toNat)-48))))) (Aa .i64 (i+1)) af ae O/\f (Aa .i64 ((Aa .i64 (10*g))+(Aa .i64 (Aa .u8 ((zc d i.toNat)-48))))) (Aa .i64 (i+1)) af ae O<f g i af ae O))/\(decide (i<d.size)=false->∀j:Int->Bool->Bt->Int->Prop,(∀k:Int,∀ap:Bool,∀ar:Bt,∀an:Int,(xm (a.2.1.size+a.2.2.1.size)/\∃(l:Bt->Bool->Bt->Int->Prop) (m:Bt->Bool->Bt->Int->Nat),l (a.2.1++a.2.2.1) ap ar an/\∀n:Bt,∀ac:Bool,∀Z:Bt,∀aa:Int,l n ac Z aa->((decide ((n.size:Int)>0)=true->(0<=(0:Int)/\(0:Int)<(n.size:Int)))/\((bif (decide ((n.size:Int)>0))then((zc n (0:Int).toNat:Int)==48)else false)=true->(0<=(1:Int)/\(1:Int)<=(n.size:Int)/\(n.size:Int)<=(n.size:Int))/\(l (n.extract (1:Int).toNat (n.size:Int).toNat) ac Z aa/\m (n.extract (1:Int).toNat (n.size:Int).toNat) ac Z aa<m n ac Z aa))/\((bif (decide ((n.size:Int)>0))then((zc n (0:Int).toNat:Int)==48)else false)=false->((n.toList==(⟨#[]⟩:Bt).toList)=true->R ((false,((⟨#[]⟩:Bt),0)),0))/\((n.toList==(⟨#[]⟩:Bt).toList)=false->∃(o:Int->Bt->Bool->Bt->Int->Prop) (p:Int->Bt->Bool->Bt->Int->Nat),o (Aa .i64 (k-(a.2.2.1.size:Int))) n ac Z aa/\∀q:Int,∀r:Bt,∀aj:Bool,∀ah:Bt,∀ai:Int,o q r aj ah ai->((0<=(Aa .i64 ((r.size:Int)-1))/\(Aa .i64 ((r.size:Int)-1))<(r.size:Int))/\(((zc r (Aa .i64 ((r.size:Int)-1)).toNat:Int)==48)=true->(0<=(0:Int)/\(0:Int)<=(Aa .i64 ((r.size:Int)-1))/\(Aa .i64 ((r.size:Int)-1))<=(r.size:Int))/\(o (Aa .i64 (q+1)) (r.extract (0:Int).toNat (Aa .i64 ((r.size:Int)-1)).toNat) aj ah ai/\p (Aa .i64 (q+1)) (r.extract (0:Int).toNat (Aa .i64 ((r.size:Int)-1)).toNat) aj ah ai<p q r aj ah ai))/\(((zc r (Aa .i64 ((r.size:Int)-1)).toNat:Int)==48)=false->((bif (decide (q<(-1000000)))then true else(decide (q>1000000)))=true->R ((false,((⟨#[]⟩:Bt),0)),4))/\((bif (decide (q<(-1000000)))then true else(decide (q>1000000)))=false->R ((a.1,(r,q)),0))))))))->j k ap ar an)->(a.2.2.2.1=true->j (Aa .i64 (0-g)) af ae O)/\(a.2.2.2.1=false->j g af ae O)))))))))):
  PC Tp gl 167 [Arg.mk .str s0] [.pair .bool (.pair .str (.int .i64)),.int .i64] R:=
 PF ⟨[],[],[(6,⟨[(8,.one (.dat .str))],[(2,[.dat .bool,.dat .str,.dat (.int .i64)])],[],[100512,1000128,1000129,1000130]⟩),(12,⟨[(10,.one (.dat (.int .i64))),(11,.one (.dat (.int .i64)))],[(2,[.dat .bool,.dat .str,.dat (.int .i64)])],[],[100640,100704,1000128,1000129,1000130]⟩),(19,⟨[(12,.one (.dat .str))],[(2,[.dat .bool,.dat .str,.dat (.int .i64)])],[],[100768,1000128,1000129,1000130]⟩),(23,⟨[(10,.one (.dat (.int .i64))),(12,.one (.dat .str))],[(2,[.dat .bool,.dat .str,.dat (.int .i64)])],[],[100640,100768,1000128,1000129,1000130]⟩)],[(17,⟨[(10,.one (.dat (.int .i64)))],[(2,[.dat .bool,.dat .str,.dat (.int .i64)])],[],[100640,1000128,1000129,1000130]⟩)]⟩ [.cell 2 78,.tmp 3] 107 Tryz.func167 H
theorem zd6(gl:Fr)(n0:Bool×Bt×Int)(R:Bt->Prop)
  (H:PC Tp gl 169 [Arg.mk (.pair .bool (.pair .str (.int .i64))) (n0.1,(n0.2.1,n0.2.2))] [.bool] (λa:Bool=>((!a)=true->R (⟨#[]⟩:Bt))/\((!a)=false->PC Tp gl 199 [Arg.mk (.pair .bool (.pair .str (.int .i64))) (n0.1,(n0.2.1,n0.2.2))] [.bool] (λb:Bool=>(b=true->R (⟨#[48]⟩:Bt))/\(b=false->∀c:Bt->Prop,(∀d:Bt,(((n0.2.2 != 0)=true->xm (d.size+((⟨#[101]⟩:Bt)).size)/\PC Tp gl 200 [Arg.mk (.int .i64) n0.2.2] [.str] (λe:Bt=>xm ((d++(⟨#[101]⟩:Bt)).size+e.size)/\R ((d++(⟨#[101]⟩:Bt))++e)))/\((n0.2.2 != 0)=false->R d))->c d)->(n0.1=true->xm (((⟨#[45]⟩:Bt)).size+n0.2.1.size)/\c ((⟨#[45]⟩:Bt)++n0.2.1))/\(n0.1=false->c n0.2.1)))))):
  PC Tp gl 168 [Arg.mk (.pair .bool (.pair .str (.int .i64))) n0] [.str] R:=
 PF ⟨[],[],[],[(9,⟨[(4,.one (.dat .str))],[],[1],[100256]⟩)]⟩ [.tmp 2] 27 Tryz.func168 H
theorem zcd(gl:Fr)(n0:Bool×Bt×Int)(R:Bool->Prop)
  (H:PC Tp gl 199 [Arg.mk (.pair .bool (.pair .str (.int .i64))) (n0.1,(n0.2.1,n0.2.2))] [.bool] (λa:Bool=>(a=true->R true)/\(a=false->PC Tp gl 201 [Arg.mk .str n0.2.1] [.bool] (λb:Bool=>((bif b then(decide ((n0.2.1.size:Int)<=1000))else false)=true->(0<=(0:Int)/\(0:Int)<(n0.2.1.size:Int)))/\((bif (bif b then(decide ((n0.2.1.size:Int)<=1000))else false)then((zc n0.2.1 (0:Int).toNat:Int) != 48)else false)=true->(0<=(Aa .i64 ((n0.2.1.size:Int)-1))/\(Aa .i64 ((n0.2.1.size:Int)-1))<(n0.2.1.size:Int)))/\R (bif (bif (bif (bif (bif b then(decide ((n0.2.1.size:Int)<=1000))else false)then((zc n0.2.1 (0:Int).toNat:Int) != 48)else false)then((zc n0.2.1 (Aa .i64 ((n0.2.1.size:Int)-1)).toNat:Int) != 48)else false)then(decide (n0.2.2>=(-1000000)))else false)then(decide (n0.2.2<=1000000))else false))))):
  PC Tp gl 169 [Arg.mk (.pair .bool (.pair .str (.int .i64))) n0] [.bool] R:=
 PF ⟨[],[],[],[]⟩ [.tmp 2] 42 Tryz.func169 H
theorem zce(gl:Fr)(s0:Bt)(R:(Bool×Bt×Bt×Bool×Bt×Bool)->Prop)
  (H:(decide ((s0.size:Int)>0)=true->(0<=(0:Int)/\(0:Int)<(s0.size:Int)))/\∀a:Bt->Prop,(∀b:Bt,(∃(c:Int->Prop) (d:Int->Nat),c 0/\∀e:Int,c e->((decide (e<b.size)=true->(0<=e/\e<b.size))/\((bif (decide (e<b.size))then((zc b e.toNat:Int) != 101)else false)=true->(0<=e/\e<b.size))/\((bif (bif (decide (e<b.size))then((zc b e.toNat:Int) != 101)else false)then((zc b e.toNat:Int) != 69)else false)=true->(c (Aa .i64 (e+1))/\d (Aa .i64 (e+1))<d e))/\((bif (bif (decide (e<b.size))then((zc b e.toNat:Int) != 101)else false)then((zc b e.toNat:Int) != 69)else false)=false->∀f:Bt->Bool->Prop,(∀g:Bt,∀i:Bool,((0<=(0:Int)/\(0:Int)<=e/\e<=b.size)/\∃(j:Int->Prop) (k:Int->Nat),j 0/\∀l:Int,j l->(((decide (l<((b.extract (0:Int).toNat e.toNat).size:Int)))=true->(0<=l/\l<((b.extract (0:Int).toNat e.toNat).size:Int)))/\((bif (decide (l<((b.extract (0:Int).toNat e.toNat).size:Int)))then((zc (b.extract (0:Int).toNat e.toNat) l.toNat:Int) != 46)else false)=true->(j (Aa .i64 (l+1))/\k (Aa .i64 (l+1))<k l))/\((bif (decide (l<((b.extract (0:Int).toNat e.toNat).size:Int)))then((zc (b.extract (0:Int).toNat e.toNat) l.toNat:Int) != 46)else false)=false->(0<=(0:Int)/\(0:Int)<=l/\l<=((b.extract (0:Int).toNat e.toNat).size:Int))/\∀m:Bt->Prop,(∀n:Bt,(PC Tp gl 201 [Arg.mk .str ((b.extract (0:Int).toNat e.toNat).extract (0:Int).toNat l.toNat)] [.bool] (λo:Bool=>∃p:Bool->Prop,(o=true->PC Tp gl 201 [Arg.mk .str n] [.bool] p)/\∀q:Bool,(o=true->p q)->∃r:Bool->Prop,((bif o then q else false)=true->PC Tp gl 201 [Arg.mk .str g] [.bool] r)/\∀s:Bool,((bif o then q else false)=true->r s)->(((bif (bif o then q else false)then s else false)&&(!(((b.extract (0:Int).toNat e.toNat).extract (0:Int).toNat l.toNat:Bt).toList==(⟨#[48]⟩:Bt).toList)))=true->(0<=(0:Int)/\(0:Int)<(((b.extract (0:Int).toNat e.toNat).extract (0:Int).toNat l.toNat).size:Int)))/\∀t:Bt->Prop,(∀u:Bt,(R (bif (decide ((s0.size:Int)>0))then((zc s0 (0:Int).toNat:Int)==45)else false,(b.extract (0:Int).toNat e.toNat).extract (0:Int).toNat l.toNat,u,i,g,bif (bif (bif o then q else false)then s else false)then(bif (((b.extract (0:Int).toNat e.toNat).extract (0:Int).toNat l.toNat:Bt).toList==(⟨#[48]⟩:Bt).toList)then true else((zc ((b.extract (0:Int).toNat e.toNat).extract (0:Int).toNat l.toNat) (0:Int).toNat:Int) != 48))else false))->t u)->((l==((b.extract (0:Int).toNat e.toNat).size:Int))=true->t (⟨#[]⟩:Bt))/\((l==((b.extract (0:Int).toNat e.toNat).size:Int))=false->t n)))->m n)->((decide (l<((b.extract (0:Int).toNat e.toNat).size:Int)))=true->(0<=(Aa .i64 (l+1))/\(Aa .i64 (l+1))<=((b.extract (0:Int).toNat e.toNat).size:Int)/\(((b.extract (0:Int).toNat e.toNat).size:Int):Int)<=((b.extract (0:Int).toNat e.toNat).size:Int))/\m ((b.extract (0:Int).toNat e.toNat).extract (Aa .i64 (l+1)).toNat (((b.extract (0:Int).toNat e.toNat).size:Int):Int).toNat))/\((decide (l<((b.extract (0:Int).toNat e.toNat).size:Int)))=false->m (⟨#[48]⟩:Bt)))))->f g i)->(decide (e<b.size)=true->(0<=(Aa .i64 (e+1))/\(Aa .i64 (e+1))<=(b.size:Int)/\(b.size:Int)<=(b.size:Int))/\((decide ((((b.extract (Aa .i64 (e+1)).toNat (b.size:Int).toNat).size:Int):Int)>0))=true->(0<=(0:Int)/\(0:Int)<((b.extract (Aa .i64 (e+1)).toNat (b.size:Int).toNat).size:Int)))/\(((!(bif (decide ((((b.extract (Aa .i64 (e+1)).toNat (b.size:Int).toNat).size:Int):Int)>0))then((zc (b.extract (Aa .i64 (e+1)).toNat (b.size:Int).toNat) (0:Int).toNat:Int)==45)else false))&&(decide ((((b.extract (Aa .i64 (e+1)).toNat (b.size:Int).toNat).size:Int):Int)>0)))=true->(0<=(0:Int)/\(0:Int)<((b.extract (Aa .i64 (e+1)).toNat (b.size:Int).toNat).size:Int)))/\((bif (bif (decide ((((b.extract (Aa .i64 (e+1)).toNat (b.size:Int).toNat).size:Int):Int)>0))then((zc (b.extract (Aa .i64 (e+1)).toNat (b.size:Int).toNat) (0:Int).toNat:Int)==45)else false)then true else(bif (decide ((((b.extract (Aa .i64 (e+1)).toNat (b.size:Int).toNat).size:Int):Int)>0))then((zc (b.extract (Aa .i64 (e+1)).toNat (b.size:Int).toNat) (0:Int).toNat:Int)==43)else false))=true->(0<=(1:Int)/\(1:Int)<=((b.extract (Aa .i64 (e+1)).toNat (b.size:Int).toNat).size:Int)/\(((b.extract (Aa .i64 (e+1)).toNat (b.size:Int).toNat).size:Int):Int)<=((b.extract (Aa .i64 (e+1)).toNat (b.size:Int).toNat).size:Int))/\f ((b.extract (Aa .i64 (e+1)).toNat (b.size:Int).toNat).extract (1:Int).toNat (((b.extract (Aa .i64 (e+1)).toNat (b.size:Int).toNat).size:Int):Int).toNat) (bif (decide ((((b.extract (Aa .i64 (e+1)).toNat (b.size:Int).toNat).size:Int):Int)>0))then((zc (b.extract (Aa .i64 (e+1)).toNat (b.size:Int).toNat) (0:Int).toNat:Int)==45)else false))/\((bif (bif (decide ((((b.extract (Aa .i64 (e+1)).toNat (b.size:Int).toNat).size:Int):Int)>0))then((zc (b.extract (Aa .i64 (e+1)).toNat (b.size:Int).toNat) (0:Int).toNat:Int)==45)else false)then true else(bif (decide ((((b.extract (Aa .i64 (e+1)).toNat (b.size:Int).toNat).size:Int):Int)>0))then((zc (b.extract (Aa .i64 (e+1)).toNat (b.size:Int).toNat) (0:Int).toNat:Int)==43)else false))=false->f (b.extract (Aa .i64 (e+1)).toNat (b.size:Int).toNat) (bif (decide ((((b.extract (Aa .i64 (e+1)).toNat (b.size:Int).toNat).size:Int):Int)>0))then((zc (b.extract (Aa .i64 (e+1)).toNat (b.size:Int).toNat) (0:Int).toNat:Int)==45)else false)))/\(decide (e<b.size)=false->f (⟨#[48]⟩:Bt) false))))->a b)->((bif (decide ((s0.size:Int)>0))then((zc s0 (0:Int).toNat:Int)==45)else false)=true->(0<=(1:Int)/\(1:Int)<=(s0.size:Int)/\(s0.size:Int)<=(s0.size:Int))/\a (s0.extract (1:Int).toNat (s0.size:Int).toNat))/\((bif (decide ((s0.size:Int)>0))then((zc s0 (0:Int).toNat:Int)==45)else false)=false->a s0)):
  PC Tp gl 198 [Arg.mk .str s0] [.bool,.str,.str,.bool,.str,.bool] R:=
 PF ⟨[],[],[(5,⟨[(9,.one (.dat (.int .i64)))],[],[],[100576]⟩),(16,⟨[(9,.one (.dat (.int .i64)))],[],[],[100576]⟩)],[(4,⟨[(0,.one (.dat .str))],[],[],[100000]⟩),(14,⟨[(10,.one (.dat .str)),(11,.one (.dat .bool))],[],[],[100640,100704]⟩),(22,⟨[(13,.one (.dat .str))],[],[],[100832]⟩),(25,⟨[(13,.one (.dat .str))],[],[],[100832]⟩)]⟩ [.tmp 2,.tmp 3,.tmp 4,.tmp 5,.tmp 6,.tmp 7] 128 Tryz.func198 H
theorem za6(gl:Fr)(n0:Bool×Bt×Int)(R:Bool->Prop)
  (H:R ((n0.1==false)&&((n0.2.1.toList==(⟨#[]⟩:Bt).toList)&&((n0.2.2==0)&&true)))):
  PC Tp gl 199 [Arg.mk (.pair .bool (.pair .str (.int .i64))) n0] [.bool] R:=
 PF ⟨[],[],[],[]⟩ [.tmp 2] 6 Tryz.func199 H
theorem X3(gl:Fr)(n0:Int)(R:Bt->Prop)
  (H:((bif (decide (n0>=0))then(decide (n0<10))else false)=true->(0<=n0/\n0<=(Aa .i64 (n0+1))/\(Aa .i64 (n0+1))<=(((⟨#[48,49,50,51,52,53,54,55,56,57]⟩:Bt)).size:Int))/\R (((⟨#[48,49,50,51,52,53,54,55,56,57]⟩:Bt)).extract n0.toNat (Aa .i64 (n0+1)).toNat))/\((bif (decide (n0>=0))then(decide (n0<10))else false)=false->(decide (n0>0)=true->CH=CH/\(10:Int)≠0/\CH=CH/\(10:Int)≠0/\CH=CH/\(10:Int)≠0/\(0<=(n0.tmod 10:Int)/\(n0.tmod 10:Int)<=(Aa .i64 ((n0.tmod 10)+1))/\(Aa .i64 ((n0.tmod 10)+1))<=(((⟨#[48,49,50,51,52,53,54,55,56,57]⟩:Bt)).size:Int))/\PC Tp gl 200 [Arg.mk (.int .i64) (Aa .i64 (n0.tdiv 10))] [.str] (λa:Bt=>xm (a.size+(((⟨#[48,49,50,51,52,53,54,55,56,57]⟩:Bt)).extract (n0.tmod 10:Int).toNat (Aa .i64 ((n0.tmod 10)+1)).toNat).size)/\R (a++(((⟨#[48,49,50,51,52,53,54,55,56,57]⟩:Bt)).extract (n0.tmod 10:Int).toNat (Aa .i64 ((n0.tmod 10)+1)).toNat))))/\(decide (n0>0)=false->(decide (n0>(-10))=true->(0<=(Aa .i64 (0-n0))/\(Aa .i64 (0-n0))<=(Aa .i64 ((Aa .i64 (0-n0))+1))/\(Aa .i64 ((Aa .i64 (0-n0))+1))<=(((⟨#[48,49,50,51,52,53,54,55,56,57]⟩:Bt)).size:Int))/\xm (((⟨#[45]⟩:Bt)).size+(((⟨#[48,49,50,51,52,53,54,55,56,57]⟩:Bt)).extract (Aa .i64 (0-n0)).toNat (Aa .i64 ((Aa .i64 (0-n0))+1)).toNat).size)/\R ((⟨#[45]⟩:Bt)++(((⟨#[48,49,50,51,52,53,54,55,56,57]⟩:Bt)).extract (Aa .i64 (0-n0)).toNat (Aa .i64 ((Aa .i64 (0-n0))+1)).toNat)))/\(decide (n0>(-10))=false->CH=CH/\(10:Int)≠0/\CH=CH/\(10:Int)≠0/\CH=CH/\(10:Int)≠0/\(0<=(Aa .i64 (0-(n0.tmod 10)))/\(Aa .i64 (0-(n0.tmod 10)))<=(Aa .i64 ((Aa .i64 (0-(n0.tmod 10)))+1))/\(Aa .i64 ((Aa .i64 (0-(n0.tmod 10)))+1):Int)<=(((⟨#[48,49,50,51,52,53,54,55,56,57]⟩:Bt)).size:Int))/\PC Tp gl 200 [Arg.mk (.int .i64) (Aa .i64 (n0.tdiv 10))] [.str] (λb:Bt=>xm (b.size+(((⟨#[48,49,50,51,52,53,54,55,56,57]⟩:Bt)).extract (Aa .i64 (0-(n0.tmod 10))).toNat (Aa .i64 ((Aa .i64 (0-(n0.tmod 10)))+1):Int).toNat).size)/\R (b++(((⟨#[48,49,50,51,52,53,54,55,56,57]⟩:Bt)).extract (Aa .i64 (0-(n0.tmod 10))).toNat (Aa .i64 ((Aa .i64 (0-(n0.tmod 10)))+1):Int).toNat))))))):
  PC Tp gl 200 [Arg.mk (.int .i64) n0] [.str] R:=
 PF ⟨[],[(5,10,[],[0,1,3,4,5,6,7,8,9,2],[]),(8,12,[],[0,1,3,4,5,6,7,8,9,10,11,2],[])],[],[]⟩ [.tmp 2] 51 Tryz.func200 H
theorem za7(gl:Fr)(s0:Bt)(R:Bool->Prop)
  (H:∃(a:Int->Prop) (b:Int->Nat),a 0/\∀c:Int,a c->((decide (c<s0.size)=true->(0<=c/\c<s0.size)/\((!(decide ((zc s0 c.toNat:Int)<48)))=true->(0<=c/\c<s0.size))/\((bif (decide ((zc s0 c.toNat:Int)<48))then true else(decide ((zc s0 c.toNat:Int)>57)))=true->R false)/\((bif (decide ((zc s0 c.toNat:Int)<48))then true else(decide ((zc s0 c.toNat:Int)>57)))=false->(a (Aa .i64 (c+1))/\b (Aa .i64 (c+1))<b c)))/\(decide (c<s0.size)=false->R (decide ((s0.size:Int)>0))))):
  PC Tp gl 201 [Arg.mk .str s0] [.bool] R:=
 PF ⟨[],[],[(2,⟨[(3,.one (.dat (.int .i64)))],[],[],[100192]⟩)],[]⟩ [.tmp 2] 23 Tryz.func201 H
end
section
abbrev bl(l:List UInt8):Bt:=⟨l.toArray⟩
abbrev lb(s:Bt):List UInt8:=s.data.toList
@[simp] theorem wh(l:List UInt8):lb (bl l)=l:=by simp[lb]
@[simp] theorem Jc(s:Bt):bl (lb s)=s:=by cases s;simp[lb,bl]
theorem zmb{s t:Bt}:lb s=lb t↔s=t:=⟨λh=>by rw[<-Jc s,h,Jc],λh=>by rw[h]⟩
theorem Yo(s:Bt):(lb s).length=s.size:=by cases s;simp[lb,ByteArray.size]
theorem z0d(s t:Bt):lb (s++t)=lb s++lb t:=by
 cases s;cases t
 simp[lb]
theorem zxi(s:Bt)(a b:Nat):lb (s.extract a b)=((lb s).drop a).take (b-a):=by
 cases s
 simp[lb,ByteArray.data_extract,List.extract_eq_take_drop]
theorem zd7(s:Bt)(i:Nat):zc s i=((((lb s)[i]?).getD 0).toNat:Int):=by
 cases s;simp[lb,zc]
theorem z9x(s:Bt)(i:Nat):s.get! i=((lb s)[i]?).getD 0:=by
 cases s with
 |mk d=>simp[lb,ByteArray.get!,Array.getElem!_eq_getD];rfl
theorem jg(s:Bt)(i:Nat):0<=zc s i/\zc s i<256:=by
 rw[zd7]
 have:=(((lb s)[i]?).getD 0).toNat_lt
 omega
def dec(l:List UInt8):Nat×Nat:=Go.Lib.decodeN l.length (l.getD 0 0).toNat (l.getD 1 0).toNat (l.getD 2 0).toNat (l.getD 3 0).toNat
theorem z0e(s:Bt)(i:Nat):Utf8.decode s i=dec ((lb s).drop i):=by
 rw[Go.Lib.decode_at,dec]
 simp only[z9x,Bl,AJ,AY,Yo,C8]
theorem Ql(l:List UInt8):1<=(dec l).2/\(dec l).2<=4:=by
 unfold dec Go.Lib.decodeN
 repeat' split
 all_goals simp
theorem zuy{l:List UInt8}(h:l≠[]):(dec l).2<=l.length:=by
 have:0<l.length:=A3.2 h
 unfold dec Go.Lib.decodeN
 repeat' split
 all_goals simp only
 all_goals omega
def zi0(d:Nat×Nat):Bool:=d.1==65533&&d.2==1
def jr(l:List UInt8):Bool:=if h:l=[]then true else if zi0 (dec l)then false else jr (l.drop (dec l).2)
termination_by l.length
decreasing_by
 have h1:=Ql l
 have h2:0<l.length:=A3.2 h
 simp only[AY];omega
theorem zd8:jr []=true:=by unfold jr;simp
theorem xp{l:List UInt8}(h:l≠[]):jr l=if zi0 (dec l)then false else jr (l.drop (dec l).2):=by
 rw[jr];simp[h]
theorem X4{c:UInt8}{l:List UInt8}(h:c.toNat<128):dec (c::l)=(c.toNat,1):=by
 simp[dec,Go.Lib.decodeN,h]
theorem zxj{c:UInt8}{l:List UInt8}(h:c.toNat<128):zi0 (dec (c::l))=false:=by
 rw[X4 h,zi0]
 have:(c.toNat==65533)=false:=by simp;omega
 simp[this]
theorem Zk{c:UInt8}{l:List UInt8}(h:c.toNat<128):jr (c::l)=jr l:=by
 rw[xp (by simp),zxj h,X4 h];simp
theorem z5h{l m:List UInt8}(h:l≠[])(hg:zi0 (dec l)=false):dec (l++m)=dec l:=by
 have hn:0<l.length:=A3.2 h
 have g:∀i,i<l.length->(l++m).getD i 0=l.getD i 0:=λi hi=>by
  simp only[Bl,Bo hi]
 have g0:=g 0 hn
 rw[dec]at hg
 rw[dec,dec,g0]
 by_cases h4:4<=l.length
 ·rw[g 1 (by omega),g 2 (by omega),g 3 (by omega)]
  unfold Go.Lib.decodeN
  have e1:(1<(l++m).length)=(1<l.length):=by simp;omega
  have e2:(2<(l++m).length)=(2<l.length):=by simp;omega
  have e3:(3<(l++m).length)=(3<l.length):=by simp;omega
  simp only[e1,e2,e3]
 ·generalize (l.getD 0 0).toNat=b0 at *
  have d1:∀i,l.length<=i->l.getD i 0=0:=λi hi=>by simp[Bl,Bu hi]
  have O:l.length<=(l++m).length:=by simp
  have k1:1<l.length->(l++m).getD 1 0=l.getD 1 0:=g 1
  have k2:2<l.length->(l++m).getD 2 0=l.getD 2 0:=g 2
  generalize ah:(l++m).getD 1 0=a1 at *
  generalize aa:(l++m).getD 2 0=a2 at *
  generalize Z:(l++m).getD 3 0=a3 at *
  generalize ae:l.getD 1 0=b1 at *
  generalize af:l.getD 2 0=b2 at *
  generalize ac:l.getD 3 0=b3 at *
  generalize l.length=n at *
  generalize (l++m).length=n' at *
  unfold Go.Lib.decodeN zi0 at hg
  unfold Go.Lib.decodeN
  by_cases c0:b0<128
  ·simp[c0]
  ·rw[if_neg c0]at hg ⊢
   rw[if_neg c0]
   by_cases c1:b0 / 32=6/\1<n/\b1.toNat / 64=2
   ·rw[if_pos c1]at hg ⊢
    rw[k1 c1.2.1,if_pos ⟨c1.1,by omega,c1.2.2⟩]
   ·rw[if_neg c1]at hg ⊢
    by_cases c2:b0 / 16=14/\(1<n/\b1.toNat / 64=2)/\2<n/\b2.toNat / 64=2
    ·rw[if_pos c2]at hg ⊢
     rw[k1 c2.2.1.1,k2 c2.2.2.1,if_neg (by omega),if_pos ⟨c2.1,⟨by omega,c2.2.1.2⟩,by omega,c2.2.2.2⟩]
    ·rw[if_neg c2]at hg
     rw[if_neg (by omega)]at hg
     simp at hg
theorem z5i{l m:List UInt8}{c:UInt8}(h:l≠[])(hc:c.toNat<128)(hg:zi0 (dec l)=true):zi0 (dec (l++c::m))=true:=by
 have hn:0<l.length:=A3.2 h
 have g:∀i,i<l.length->(l++c::m).getD i 0=l.getD i 0:=λi hi=>by
  simp only[Bl,Bo hi]
 have gc:(l++c::m).getD l.length 0=c:=by simp[Bl]
 have g0:=g 0 hn
 have O:c.toNat / 64≠2:=by omega
 rw[dec]at hg
 rw[dec,g0]
 by_cases h4:4<=l.length
 ·rw[g 1 (by omega),g 2 (by omega),g 3 (by omega)]
  unfold Go.Lib.decodeN at *
  have e1:(1<(l++c::m).length)=(1<l.length):=by simp;omega
  have e2:(2<(l++c::m).length)=(2<l.length):=by simp;omega
  have e3:(3<(l++c::m).length)=(3<l.length):=by simp;omega
  simp only[e1,e2,e3];exact hg
 ·have k1:1<l.length->(l++c::m).getD 1 0=l.getD 1 0:=g 1
  have k2:2<l.length->(l++c::m).getD 2 0=l.getD 2 0:=g 2
  have q1:l.length=1->(l++c::m).getD 1 0=c:=λe=>by rw[e]at gc;exact gc
  have q2:l.length=2->(l++c::m).getD 2 0=c:=λe=>by rw[e]at gc;exact gc
  have q3:l.length=3->(l++c::m).getD 3 0=c:=λe=>by rw[e]at gc;exact gc
  have Z:l.length+1<=(l++c::m).length:=by simp
  generalize (l.getD 0 0).toNat=b0 at *
  generalize (l++c::m).getD 1 0=a1 at *
  generalize (l++c::m).getD 2 0=a2 at *
  generalize (l++c::m).getD 3 0=a3 at *
  generalize l.getD 1 0=b1 at *
  generalize l.getD 2 0=b2 at *
  generalize l.getD 3 0=b3 at *
  generalize l.length=n at *
  generalize (l++c::m).length=n' at *
  unfold Go.Lib.decodeN at *
  have hn:n=1\/n=2\/n=3:=by omega
  rcases hn with rfl|rfl|rfl
  ·simp only[q1 rfl]at *
   by_cases c0:b0<128
   ·simp only[c0,if_true]at hg ⊢;exact hg
   ·simp[c0,O];rfl
  ·simp only[q2 rfl,k1 (by omega)]at *
   by_cases c0:b0<128
   ·simp only[c0,if_true]at hg ⊢;exact hg
   ·by_cases c1:b0 / 32=6/\b1.toNat / 64=2
    ·simp[c0,c1]at hg ⊢
     rw[if_pos (by omega)];exact hg
    ·simp[c0,O]
     rw[if_neg (by omega)];rfl
  ·simp only[q3 rfl,k1 (by omega),k2 (by omega)]at *
   by_cases c0:b0<128
   ·simp only[c0,if_true]at hg ⊢;exact hg
   ·by_cases c1:b0 / 32=6/\b1.toNat / 64=2
    ·simp[c0,c1]at hg ⊢
     rw[if_pos (by omega)];exact hg
    ·simp only[c0,O,if_false]at hg ⊢
     by_cases c2:b0 / 16=14/\b1.toNat / 64=2/\b2.toNat / 64=2
     ·simp[c2]at hg ⊢
      rw[if_neg (by omega)]at hg ⊢
      rw[if_pos (by omega)];exact hg
     ·simp[O]
      rw[if_neg (by omega),if_neg (by omega)];rfl
theorem zay{l m:List UInt8}{c:UInt8}(hc:c.toNat<128):jr (l++c::m)=(jr l&&jr m):=by
 by_cases hl:l=[]
 ·subst hl;rw[BP,Zk hc,zd8];simp
 ·rw[xp (l:=l) hl,xp (l:=l++c::m) (by simp)]
  cases hb:zi0 (dec l)with
  |true=>rw[z5i hl hc hb];simp
  |false=>
   have hd:=z5h (m:=c::m) hl hb
   have hw:=Ql l
   have O:=zuy hl
   rw[hd,hb,List.drop_append_of_le_length O]
   simp only[AW,if_false]
   exact zay hc
termination_by l.length
decreasing_by
 have h2:0<l.length:=A3.2 hl
 simp only[AY];omega
end
end Go.X
end
section
namespace Go.X
open Go Go.Lib
section
variable {i:Nat}
abbrev Bs:=List UInt8
theorem X5{sub:Bs}{b:UInt8}{l:Bs}(h:sub.isPrefixOf (b::l)=true):index (b::l) sub=0:=by unfold index;rw[if_pos h]
theorem zhg{sub:Bs}{b:UInt8}{l:Bs}(h:sub.isPrefixOf (b::l)=false)(h':index l sub=-1):index (b::l) sub=-1:=by unfold index;rw[if_neg (by simp[h]),if_pos (by simp[h'])]
theorem zd9{sub:Bs}{b:UInt8}{l:Bs}(h:sub.isPrefixOf (b::l)=false)(h':index l sub=i):index (b::l) sub=((i+1:Nat):Int):=by
 unfold index
 have:((i:Int)==-1)=false:=by rw[beq_eq_false_iff_ne];omega
 rw[if_neg (by simp[h]),h',if_neg (by simp[this])];omega
theorem Zt(l sub:Bs):index l sub=-1\/∃i:Nat,index l sub=i:=by
 have:=index_ge l sub
 by_cases h:index l sub=-1
 ·exact .inl h
 ·exact .inr ⟨(index l sub).toNat,by omega⟩
theorem zea{sub:Bs}(h:sub≠[]):index [] sub=-1:=by
 unfold index;cases sub with
 |nil=>exact absurd rfl h
 |cons a t=>rfl
theorem zi1{l sub:Bs}(h:index l sub=i):i+sub.length<=l.length:=by
 have:=index_room l sub (by omega);omega
def zph(old new:Bs)(s:Bs):Bs:=
 if h:old=[]\/index s old=-1 then s else s.take (index s old).toNat++new++zph old new (s.drop ((index s old).toNat+old.length))
termination_by s.length
decreasing_by
 have h1:old≠[]:=λe=>h (.inl e)
 have h2:0<old.length:=A3.2 h1
 have h3:=index_ge s old
 have h4:index s old≠-1:=λe=>h (.inr e)
 have h5:=index_room s old (by omega)
 simp only[AY];omega
theorem X6{old new s:Bs}(h:index s old=-1):zph old new s=s:=by rw[zph,dif_pos (.inr h)]
theorem zhh{old new s:Bs}(ho:old≠[])(h:index s old=i):zph old new s=s.take i++new++zph old new (s.drop (i+old.length)):=by
 rw[zph,dif_neg (λe=>e.elim ho λe=>by omega),h];simp
theorem countFrom_fuel{sub:Bs}(ho:sub≠[]):∀(f:Nat) (s:Bs),s.length<f->∀g,s.length<g->countFrom sub f s=countFrom sub g s
 |0,_,h,_,_=>absurd h (Nat.not_lt_zero _)
 |f+1,s,hf,0,hg=>absurd hg (Nat.not_lt_zero _)
 |f+1,s,hf,g+1,hg=>by
  unfold countFrom
  rcases Zt s sub with e|⟨i,e⟩
  ·simp[e]
  ·have hb:((i:Int)==-1)=false:=by rw[beq_eq_false_iff_ne];omega
   rw[e,if_neg (by simp[hb]),if_neg (by simp[hb])]
   have h1:=zi1 e
   have h2:0<sub.length:=A3.2 ho
   rw[countFrom_fuel ho f _ (by simp only[AY,Ad];omega) g (by simp only[AY,Ad];omega)]
theorem zuz{sub s:Bs}(h:index s sub=-1):count s sub=0:=by rw[count,countFrom,h];rfl
theorem count_hit{sub s:Bs}(ho:sub≠[])(e:index s sub=i):count s sub=1+count (s.drop (i+sub.length)) sub:=by
 have hb:((i:Int)==-1)=false:=by rw[beq_eq_false_iff_ne];omega
 have h1:=zi1 e
 have h2:0<sub.length:=A3.2 ho
 rw[count,countFrom,e,if_neg (by simp[hb]),count,Ad,countFrom_fuel ho s.length _ (by simp only[AY];omega) ((s.drop (i+sub.length)).length+1) (by omega)]
theorem zeb{old new:Bs}(ho:old≠[]):∀(k:Nat) (s:Bs),count s old<=k->replaceK old new k s=zph old new s
 |0,s,h=>by
  rcases Zt s old with e|⟨i,e⟩
  ·rw[X6 e];rfl
  ·rw[count_hit ho e]at h;omega
 |k+1,s,h=>by
  rcases Zt s old with e|⟨i,e⟩
  ·rw[X6 e,replaceK,if_pos (by simp[e])]
  ·rw[zhh ho e,replaceK_hit _ _ _ _ _ e,zeb ho k]
   rw[count_hit ho e]at h;omega
theorem Zl{old new s:Bs}(ho:old≠[])(hn:old≠new):replaceAll s old new=zph old new s:=by
 unfold replaceAll replace
 rw[if_neg (by simpa using hn),replaceNum,if_pos (.inl (by omega))]
 exact zeb ho _ _ (Ae _)
theorem zec{old new:Bs}(ho:old≠[]):zph old new []=[]:=X6 (zea ho)
theorem Zu{old new:Bs}(ho:old≠[])(b:UInt8)(l:Bs):zph old new (b::l)=if old.isPrefixOf (b::l)then new++zph old new ((b::l).drop old.length)else b::zph old new l:=by
 cases hp:old.isPrefixOf (b::l)with
 |true=>rw[zhh (i:=0) ho (X5 hp)];simp
 |false=>
  simp only[AW,if_false]
  rcases Zt l old with e|⟨i,e⟩
  ·rw[X6 (zhg hp e),X6 e]
  ·rw[zhh ho (zd9 hp e),zhh ho e,show i+1+old.length=(i+old.length)+1 by omega];simp
theorem z0f{sub:Bs}(ho:sub≠[]):count [] sub=0:=by
 unfold count countFrom
 simp[zea ho]
theorem count_cons{sub:Bs}(ho:sub≠[])(b:UInt8)(l:Bs):count (b::l) sub=if sub.isPrefixOf (b::l)then 1+count ((b::l).drop sub.length) sub else count l sub:=by
 cases hp:sub.isPrefixOf (b::l)with
 |true=>
  simp only[if_true]
  rw[count_hit (i:=0) ho (X5 hp),AH]
 |false=>
  simp only[AW,if_false]
  rcases Zt l sub with e|⟨i,e⟩
  ·rw[zuz (zhg hp e),zuz e]
  ·rw[count_hit ho (zd9 hp e),count_hit ho e,show i+1+sub.length=(i+sub.length)+1 by omega,List.drop_succ_cons]
theorem count_one(c:UInt8):∀l:Bs,count l [c]=l.count c
 |[]=>by rw[z0f (by simp)];rfl
 |b::l=>by
  rw[count_cons (by simp),List.count_cons]
  simp only[BD,CL,beq_iff_eq,Cj,List.drop_succ_cons,A2]
  rw[count_one c l]
  by_cases h:c=b
  ·subst h;simp;omega
  ·rw[if_neg h,if_neg (λe=>h e.symm)];omega
theorem zhi(c:UInt8)(new:Bs):∀l:Bs,zph [c] new l=l.flatMap λx=>if x=c then new else [x]
 |[]=>zec (by simp)
 |b::l=>by
  rw[Zu (by simp),D2]
  simp only[BD,CL,beq_iff_eq,Cj,List.drop_succ_cons,A2]
  rw[zhi c new l]
  by_cases h:c=b
  ·subst h;simp
  ·rw[if_neg h,if_neg (λe=>h e.symm)];simp
def z7u(sep:Bs)(s:Bs):List Bs:=
 if h:sep=[]\/index s sep=-1 then [s]else s.take (index s sep).toNat::z7u sep (s.drop ((index s sep).toNat+sep.length))
termination_by s.length
decreasing_by
 have h1:sep≠[]:=λe=>h (.inl e)
 have h2:0<sep.length:=A3.2 h1
 have h3:=index_ge s sep
 have h4:index s sep≠-1:=λe=>h (.inr e)
 have h5:=index_room s sep (by omega)
 simp only[AY];omega
theorem X7{sep s:Bs}(h:index s sep=-1):z7u sep s=[s]:=by rw[z7u,dif_pos (.inr h)]
theorem zhj{sep s:Bs}(ho:sep≠[])(h:index s sep=i):z7u sep s=s.take i::z7u sep (s.drop (i+sep.length)):=by
 rw[z7u,dif_neg (λe=>e.elim ho λe=>by omega),h];simp
theorem zi2{sep:Bs}(ho:sep≠[]):∀(k:Nat) (s:Bs),count s sep<=k->splitK sep 0 k s=z7u sep s
 |0,s,h=>by
  rcases Zt s sep with e|⟨i,e⟩
  ·rw[X7 e];rfl
  ·rw[count_hit ho e]at h;omega
 |k+1,s,h=>by
  rcases Zt s sep with e|⟨i,e⟩
  ·rw[X7 e,splitK,if_pos (by simp[e])]
  ·have hb:((i:Int)==-1)=false:=by rw[beq_eq_false_iff_ne];omega
   rw[zhj ho e,splitK,e,if_neg (by simp[hb]),Ad,zi2 ho k]
   ·simp
   ·rw[count_hit ho e]at h;omega
def Wb(c:UInt8):Bs->List Bs
 |[]=>[[]]
 |b::l=>if b=c then []::Wb c l else match Wb c l with
  |[]=>[[b]]
  |x::r=>(b::x)::r
theorem zi3(c:UInt8):∀l,Wb c l≠[]
 |[]=>by simp[Wb]
 |b::l=>by
  unfold Wb
  split
  ·simp
  ·split <;> simp
theorem zu0(c:UInt8):∀l:Bs,z7u [c] l=Wb c l
 |[]=>X7 (zea (by simp))
 |b::l=>by
  have ih:=zu0 c l
  by_cases h:b=c
  ·subst h
   rw[zhj (i:=0) (by simp) (X5 (by simp[BD])),Wb,if_pos rfl,<-ih];simp
  ·have hp:[c].isPrefixOf (b::l)=false:=by simp[BD];exact λe=>h e.symm
   rw[Wb,if_neg h,<-ih]
   rcases Zt l [c]with e|⟨i,e⟩
   ·rw[X7 (zhg hp e),X7 e]
   ·rw[zhj (by simp) (zd9 hp e),zhj (by simp) e,show i+1+[c].length=(i+[c].length)+1 by rfl];simp
theorem zcf(c:UInt8):∀l,(Wb c l).length=l.count c+1
 |[]=>rfl
 |b::l=>by
  have ih:=zcf c l
  unfold Wb
  rw[List.count_cons]
  by_cases h:b=c
  ·subst h;simp[ih]
  ·rw[if_neg h]
   simp only[beq_iff_eq,h,if_false,C8]
   split
   ·rename_i e;exact absurd e (zi3 c l)
   ·rename_i x r e;rw[e]at ih;simpa using ih
end
end Go.X
end
section
namespace Go.X
section
variable {n b0 b1 b2 b3:Nat} {gl:Fr}
theorem z9y{α:Type}{B:α->Prop}{c:Bool}{a b:α}(h:B (bif c then a else b)):∀K:α->Prop,(∀v,B v->K v)->(c=true->K a)/\(c=false->K b):=
 λK hK=>⟨λhc=>hK _ (by subst hc;exact h),λhc=>hK _ (by subst hc;exact h)⟩
theorem qfi(s:Bt)(i:Nat):Aa .i64 (zc s i)=zc s i:=by
 have:=jg s i
 exact wrap64 (by omega) (by omega)
theorem zi4{n:Int}(h1:-2147483648<=n)(h2:n<=2147483647):Aa .i32 n=n:=by
 unfold Aa
 have e:(2:Int) ^ Ap .i32=4294967296:=by decide
 have e':(2:Int) ^ (Ap .i32-1)=2147483648:=by decide
 simp only[e,e']
 have hs:Ec .i32=true:=rfl
 simp only[hs,Bi,decide_eq_true_eq]
 split <;> omega
theorem z0g(s:Bt)(a:Nat):dec ((lb s).drop a)=Lib.decodeN (s.size-a) (zc s a).toNat (zc s (a+1)).toNat (zc s (a+2)).toNat (zc s (a+3)).toNat:=by
 simp only[dec,zd7,Bl,AJ,AY,Yo,C8,Ad]
def z5j(c:Int):Int:=if c<128 then 1 else if 194<=c/\c<=223 then 2 else if 224<=c/\c<=239 then 3 else if 240<=c/\c<=244 then 4 else 0
theorem z9z{c:Int}{R:Int->Prop}(h:R (z5j c)):PC Tp gl 143 [Arg.mk (.int .i64) c] [.int .i64] R:=by
 apply zd5
 unfold z5j at h
 grind
theorem qfj(h:b0<128):Lib.decodeN n b0 b1 b2 b3=(b0,1):=by
 unfold Lib.decodeN;rw[if_pos h]
theorem qf7(h:128<=b0/\b0<194\/245<=b0/\b0<256):Lib.decodeN n b0 b1 b2 b3=(65533,1):=by
 refine Lib.bad_eq _ _ _ _ _ (by omega) ?_
 unfold Lib.firstT
 repeat' split
 all_goals first|rfl|(exfalso;omega)
theorem qfk(h:194<=b0/\b0<224)(h1:b1<256):Lib.decodeN n b0 b1 b2 b3=if 2<=n/\128<=b1/\b1<=191 then((b0-192)*64+(b1-128),2)else(65533,1):=by
 unfold Lib.decodeN
 rw[if_neg (by omega)]
 by_cases hc:2<=n/\128<=b1/\b1<=191
 ·have e:b0 % 32*64+b1 % 64=(b0-192)*64+(b1-128):=by omega
  rw[if_pos (by omega),if_pos (by omega),if_pos hc,e]
 ·rw[if_neg (by omega),if_neg (by omega),if_neg (by omega),if_neg hc]
theorem qfl(h:224<=b0/\b0<240)(h1:b1<256)(h2:b2<256):Lib.decodeN n b0 b1 b2 b3=
  if 3<=n/\(128<=b1/\b1<=191)/\(128<=b2/\b2<=191)/\2048<=((b0-224)*64+(b1-128))*64+(b2-128)/\(((b0-224)*64+(b1-128))*64+(b2-128)<55296\/57344<=((b0-224)*64+(b1-128))*64+(b2-128))
  then(((b0-224)*64+(b1-128))*64+(b2-128),3)else(65533,1):=by
 unfold Lib.decodeN
 rw[if_neg (by omega),if_neg (by omega)]
 by_cases hc:3<=n/\(128<=b1/\b1<=191)/\(128<=b2/\b2<=191)
 ·rw[if_pos (by omega)]
  have e:b0 % 16*4096+b1 % 64*64+b2 % 64=((b0-224)*64+(b1-128))*64+(b2-128):=by omega
  rw[e]
  split <;> rename_i hx
  ·rw[if_pos (by omega)]
  ·rw[if_neg (by omega)]
 ·rw[if_neg (by omega),if_neg (by omega),if_neg (by omega)]
theorem qfm(h:240<=b0/\b0<245)(h1:b1<256)(h2:b2<256)(h3:b3<256):Lib.decodeN n b0 b1 b2 b3=
  if 4<=n/\(128<=b1/\b1<=191)/\(128<=b2/\b2<=191)/\(128<=b3/\b3<=191)/\65536<=(((b0-240)*64+(b1-128))*64+(b2-128))*64+(b3-128)/\(((b0-240)*64+(b1-128))*64+(b2-128))*64+(b3-128)<=1114111
  then((((b0-240)*64+(b1-128))*64+(b2-128))*64+(b3-128),4)else(65533,1):=by
 unfold Lib.decodeN
 rw[if_neg (by omega),if_neg (by omega),if_neg (by omega)]
 by_cases hc:4<=n/\(128<=b1/\b1<=191)/\(128<=b2/\b2<=191)/\(128<=b3/\b3<=191)
 ·rw[if_pos (by omega)]
  have e:b0 % 8*262144+b1 % 64*4096+b2 % 64*64+b3 % 64=(((b0-240)*64+(b1-128))*64+(b2-128))*64+(b3-128):=by omega
  rw[e]
  split <;> rename_i hx
  ·rw[if_pos (by omega)]
  ·rw[if_neg (by omega)]
 ·rw[if_neg (by omega),if_neg (by omega)]
def z0h(s:Bt)(O:Int):Int×Int:=if O<0\/O>=s.size then(0,0)else(((dec ((lb s).drop O.toNat)).1:Int),((dec ((lb s).drop O.toNat)).2:Int))
set_option maxHeartbeats 1000000 in
theorem z0i{s:Bt}{aa:Int}{R:Int×Int->Prop}(hs:(s.size:Int)<=4611686018427387904)(h:R (z0h s aa)):PC Tp gl 115 [Arg.mk .str s,Arg.mk (.int .i64) aa] [.int .i32,.int .i64] R:=by
 apply zd3
 unfold z0h at h
 refine⟨λhc=>?_,λhc=>?_⟩
 ·rw[if_pos (by grind)]at h;exact h
 ·have hb:0<=aa/\aa<(s.size:Int):=by grind
  rw[if_neg (by omega),z0g]at h
  refine⟨hb,z9z ?_⟩
  obtain⟨a,rfl⟩:∃a:Nat,aa=(a:Int):=⟨aa.toNat,by omega⟩
  simp only[Ad,qfi]at h ⊢
  have r0:=jg s a;have r1:=jg s (a+1);have r2:=jg s (a+2);have r3:=jg s (a+3)
  have ix:∀i:Int,1<=i->i<=4->(Aa .i64 ((a:Int)+i))=(a:Int)+i:=λi h1 h2=>wrap64 (by omega) (by omega)
  have e1:((a:Int)+1).toNat=a+1:=by omega
  have e2:((a:Int)+2).toNat=a+2:=by omega
  have e3:((a:Int)+3).toNat=a+3:=by omega
  have an:Aa .i64 ((s.size:Int)-(a:Int))=(s.size:Int)-(a:Int):=wrap64 (by omega) (by omega)
  rw[an]
  generalize hn:z5j (zc s a)=n
  unfold z5j at hn
  generalize aB:zc s a=b0 at *
  refine⟨λak=>?_,λak=>⟨hb,?_⟩⟩
  ·have:Lib.decodeN (s.size-a) b0.toNat (zc s (a+1)).toNat (zc s (a+2)).toNat (zc s (a+3)).toNat=(65533,1):=by
    have au:n=0\/n>(s.size:Int)-a:=by grind
    unfold Lib.decodeN
    repeat' split
    all_goals first|rfl|(exfalso;split at hn <;> first|omega|(split at hn <;> first|omega|(split at hn <;> first|omega|(split at hn <;> omega))))
   rw[this]at h;exact h
  ·have au:n≠0/\n<=(s.size:Int)-a:=by grind
   apply z9y;apply z9y;apply z9y
   have hv:(bif n==4 then Aa .i64 ((bif n==3 then Aa .i64 ((bif n==2 then Aa .i64 (b0-192)else b0)-224)else bif n==2 then Aa .i64 (b0-192)else b0)-240)else bif n==3 then Aa .i64 ((bif n==2 then Aa .i64 (b0-192)else b0)-224)else bif n==2 then Aa .i64 (b0-192)else b0)
     = (if n=4 then b0-240 else if n=3 then b0-224 else if n=2 then b0-192 else b0):=by
    have w1:Aa .i64 (b0-192)=b0-192:=wrap64 (by omega) (by omega)
    have w2:Aa .i64 (b0-224)=b0-224:=wrap64 (by omega) (by omega)
    have w3:Aa .i64 (b0-240)=b0-240:=wrap64 (by omega) (by omega)
    grind
   rw[hv]
   generalize aA:(if n=4 then b0-240 else if n=3 then b0-224 else if n=2 then b0-192 else b0)=v1
   have ay:0<=v1/\v1<128:=by grind
   have az:n=4->v1<=4:=by grind
   generalize ai:zc s (a+1)=b1 at *
   generalize aj:zc s (a+2)=b2 at *
   generalize ah:zc s (a+3)=b3 at *
   have q1:=jg s (a+1);have q2:=jg s (a+2);have q3:=jg s (a+3)
   rw[ai]at q1;rw[aj]at q2;rw[ah]at q3
   obtain⟨N,hN⟩:∃N:Nat,s.size-a=N:=⟨_,rfl⟩
   have aC:(N:Int)=s.size-a:=by omega
   rw[hN]at h
   have al:n=1\/n=2\/n=3\/n=4:=by grind
   have am:∀v:Int,(n=1->v=v1)->(n=2->(128<=b1/\b1<=191)/\v=64*v1+b1-128)->(n=3->(128<=b1/\b1<=191)/\(128<=b2/\b2<=191)/\v=64*(64*v1+b1-128)+b2-128) ->
     (n=4->(128<=b1/\b1<=191)/\(128<=b2/\b2<=191)/\(128<=b3/\b3<=191)/\v=64*(64*(64*v1+b1-128)+b2-128)+b3-128) ->
     (((n=3/\v<2048)\/(n=4/\v<65536)\/v>1114111\/(v>=55296/\v<57344))->R (65533,1))/\(¬((n=3/\v<2048)\/(n=4/\v<65536)\/v>1114111\/(v>=55296/\v<57344))->R (Aa .i32 v,n)):=by
    intro v k1 k2 k3 k4
    rcases al with rfl|rfl|rfl|rfl
    ·have O:b0<128:=by grind
     have:=k1 rfl
     have ac:v1=b0:=by grind
     rw[qfj (by omega)]at h
     refine⟨λhx=>by omega,λ_=>?_⟩
     rw[zi4 (by omega) (by omega)]
     have e:((b0.toNat:Nat):Int)=v:=by omega
     simp only[e]at h
     exact h
    ·have O:194<=b0/\b0<224:=by grind
     obtain⟨c1,hv⟩:=k2 rfl
     have ac:v1=b0-192:=by grind
     rw[qfk (by omega) (by omega),if_pos (by omega)]at h
     refine⟨λhx=>by omega,λ_=>?_⟩
     rw[zi4 (by omega) (by omega)]
     have e:(((b0.toNat-192)*64+(b1.toNat-128):Nat):Int)=v:=by omega
     simp only[e]at h
     exact h
    ·have O:224<=b0/\b0<240:=by grind
     obtain⟨c1,c2,hv⟩:=k3 rfl
     have ac:v1=b0-224:=by grind
     have e:((((b0.toNat-224)*64+(b1.toNat-128))*64+(b2.toNat-128):Nat):Int)=v:=by omega
     rw[qfl (by omega) (by omega) (by omega)]at h
     refine⟨λhx=>?_,λhx=>?_⟩
     ·rw[if_neg (by omega)]at h;exact h
     ·rw[if_pos (by omega)]at h
      rw[zi4 (by omega) (by omega)]
      simp only[e]at h
      exact h
    ·have O:240<=b0/\b0<245:=by grind
     obtain⟨c1,c2,c3,hv⟩:=k4 rfl
     have ac:v1=b0-240:=by grind
     have e:(((((b0.toNat-240)*64+(b1.toNat-128))*64+(b2.toNat-128))*64+(b3.toNat-128):Nat):Int)=v:=by omega
     rw[qfm (by omega) (by omega) (by omega) (by omega)]at h
     refine⟨λhx=>?_,λhx=>?_⟩
     ·rw[if_neg (by omega)]at h;exact h
     ·rw[if_pos (by omega)]at h
      rw[zi4 (by omega) (by omega)]
      simp only[e]at h
      exact h
   have ap:∀i:Int,1<=i->i<n->((i=1/\¬(128<=b1/\b1<=191))\/(i=2/\¬(128<=b2/\b2<=191))\/(i=3/\¬(128<=b3/\b3<=191)))->R (65533,1):=by
    intro i i1 i2 hx
    rcases al with rfl|rfl|rfl|rfl
    ·omega
    ·have O:194<=b0/\b0<224:=by grind
     rw[qfk (by omega) (by omega),if_neg (by omega)]at h;exact h
    ·have O:224<=b0/\b0<240:=by grind
     rw[qfl (by omega) (by omega) (by omega),if_neg (by omega)]at h;exact h
    ·have O:240<=b0/\b0<245:=by grind
     rw[qfm (by omega) (by omega) (by omega) (by omega),if_neg (by omega)]at h;exact h
   clear h hn hv hc ak
   refine⟨λv i=>1<=i/\i<=n/\(0<=v/\v<2097152)/\(i=1->v=v1)/\(i=2->(128<=b1/\b1<=191)/\v=64*v1+b1-128)/\(i=3->(128<=b1/\b1<=191)/\(128<=b2/\b2<=191)/\v=64*(64*v1+b1-128)+b2-128)
    /\ (i=4->(128<=b1/\b1<=191)/\(128<=b2/\b2<=191)/\(128<=b3/\b3<=191)/\v=64*(64*(64*v1+b1-128)+b2-128)+b3-128),λv i=>(n-i).toNat,by omega,λv i hi=>⟨λhl=>?_,λhl=>?_⟩⟩
   ·have af:i<n:=by simpa using hl
    obtain⟨i1,i2,j0,j1,j2,j3,j4⟩:=hi
    rw[ix i i1 (by omega)]
    obtain⟨b,ae⟩:∃b,zc s ((a:Int)+i).toNat=b:=⟨_,rfl⟩
    have Z:(i=1->b=b1)/\(i=2->b=b2)/\(i=3->b=b3):=by
     refine⟨λe=>?_,λe=>?_,λe=>?_⟩ <;> subst e
     ·rw[<-ae,e1,ai]
     ·rw[<-ae,e2,aj]
     ·rw[<-ae,e3,ah]
    rw[ae]
    have ax:=jg s ((a:Int)+i).toNat
    rw[ae]at ax
    refine⟨by omega,λhq=>ap i i1 af ?_,λhq=>?_⟩
    ·have:b<128\/b>191:=by grind
     omega
    ·have aD:¬(b<128\/b>191):=by grind
     have w1:Aa .i64 (64*v)=64*v:=wrap64 (by omega) (by omega)
     have w2:Aa .i64 (64*v+b)=64*v+b:=wrap64 (by omega) (by omega)
     have w3:Aa .i64 (64*v+b-128)=64*v+b-128:=wrap64 (by omega) (by omega)
     have w4:Aa .i64 (i+1)=i+1:=wrap64 (by omega) (by omega)
     rw[w1,w2,w3,w4]
     have ar:i=1\/i=2\/i=3:=by omega
     dsimp only
     refine⟨⟨by omega,by omega,?_,by omega,?_,?_,?_⟩,by omega⟩
     ·rcases ar with rfl|rfl|rfl
      ·have:=j1 rfl;have:=Z.1 rfl;omega
      ·have:=j2 rfl;have:=Z.2.1 rfl;omega
      ·have:=j3 rfl;have:=Z.2.2 rfl;omega
     ·intro e
      have e':i=1:=by omega
      have:=j1 e';have:=Z.1 e';omega
     ·intro e
      have e':i=2:=by omega
      have:=j2 e';have:=Z.2.1 e';omega
     ·intro e
      have e':i=3:=by omega
      have:=j3 e';have:=Z.2.2 e';omega
   ·have af:i=n:=by(have:¬i<n:=by simpa using hl);omega
    subst af
    obtain⟨i1,i2,j0,j1,j2,j3,j4⟩:=hi
    obtain⟨g1,g2⟩:=am v j1 j2 j3 j4
    refine⟨λhx=>g1 ?_,λhx=>g2 ?_⟩
    ·grind
    ·grind
def z5k(s:Bt)(a:Nat):Bool:=!zi0 (dec ((lb s).drop a))
theorem z90{s:Bt}{a:Nat}{R:Bool->Prop}(ha:a<s.size)(hs:(s.size:Int)<=4611686018427387904)(h:R (z5k s a)):PC Tp gl 114 [Arg.mk .str s,Arg.mk (.int .i64) a] [.bool] R:=by
 apply zd2
 refine z0i hs ?_
 have hw:=Ql ((lb s).drop a)
 unfold z5k zi0 at h
 have e:z0h s (a:Int)=(((dec ((lb s).drop a)).1:Int),((dec ((lb s).drop a)).2:Int)):=by
  unfold z0h
  rw[if_neg (by omega)];rfl
 rw[e]
 obtain⟨d,hd⟩:∃d,dec ((lb s).drop a)=d:=⟨_,rfl⟩
 rw[hd]at h hw ⊢
 have e1:decide (((d.2:Nat):Int)>0)=true:=by simp;omega
 have e2:((((d.1:Nat):Int))==65533)=(d.1==65533):=by rw[AB];simp;omega
 have e3:((((d.2:Nat):Int))==1)=(d.2==1):=by rw[AB];simp;omega
 show R (bif decide (((d.2:Nat):Int)>0)then !bif (((d.1:Nat):Int))==65533 then(((d.2:Nat):Int))==1 else false else false)
 rw[e1,e2,e3]
 simpa only[cond_true,Bg]using h
theorem zsw{s:Bt}{R:Int×Bool->Prop}(hs:(s.size:Int)<=4611686018427387904)(h:∀k,R (k,jr (lb s))):PC Tp gl 76 [Arg.mk .str s] [.int .i64,.bool] R:=by
 apply zb9
 refine⟨λa=>0<=a/\a<=(s.size:Int)/\jr (lb s)=jr ((lb s).drop a.toNat),λa=>((s.size:Int)-a).toNat,⟨by omega,by omega,by simp⟩,λa ⟨h0,h1,h2⟩=>⟨λhc=>?_,λhc=>?_⟩⟩
 ·have Z:a<(s.size:Int):=by simpa using hc
  obtain⟨k,rfl⟩:∃k:Nat,a=(k:Int):=⟨a.toNat,by omega⟩
  simp only[Ad]at h2
  have O:(lb s).drop k≠[]:=by
   intro e
   have:=congrArg Bb e
   simp only[AY,Yo,Dh]at this;omega
  rw[xp O]at h2
  refine z90 (by omega) hs ⟨λhg=>?_,λhg=>?_⟩
  ·have:zi0 (dec ((lb s).drop k))=true:=by simpa[z5k]using hg
   rw[this]at h2
   have:=h k
   rw[h2]at this;exact this
  ·have hb:zi0 (dec ((lb s).drop k))=false:=by simpa[z5k]using hg
   rw[hb]at h2
   simp only[AW,if_false,Cd]at h2
   refine z0i hs ?_
   unfold z0h
   rw[if_neg (by omega)]
   simp only[Ad]
   have hw:=Ql ((lb s).drop k)
   have hl:=zuy O
   simp only[AY,Yo]at hl
   have w:Aa .i64 ((k:Int)+((dec ((lb s).drop k)).2:Int))=((k+(dec ((lb s).drop k)).2:Nat):Int):=by rw[wrap64 (by omega) (by omega)];omega
   rw[w]
   refine⟨⟨by omega,by omega,?_⟩,by omega⟩
   rw[Ad];exact h2
 ·have Z:¬a<(s.size:Int):=by simpa using hc
  have:(lb s).drop a.toNat=[]:=A6 (by rw[Yo];omega)
  rw[this,zd8]at h2
  rw[<-h2];exact h _
end
end Go.X
end
