/- A part of the proof: nothing is stated here for its own sake. -/
import Derived.Test.YtjohlemfgcmaoaaGreatDoorPqB
import Derived.ProofKit
import Derived.OpenShut
import Derived.ShutString
import Derived.SizedLaws
import Derived.LaidSub
import Derived.Lib.LaidU8
import Derived.Test.YtjohlemfgcmaoaaGreatDoorProg
import Derived.Lib.Replace
import Derived.Shelf.Strings.Trim
import Derived.Shelf.Small.Bits
import Derived.Shelf.Small.Wraps
import Derived.Shelf.Strings.BuilderRune
import Derived.Shelf.Utf8.AppendRune
import Derived.Shelf.Utf8.AppendRunePlain
import Derived.Shelf.Strconv.Itoa3
import Derived.Shelf.Strconv.AtoiErr
import Derived.Shelf.Strconv.ErrVarAll
import Derived.Shelf.Strconv.ErrVarParseInt
import Derived.Shelf.Pu.ParseUintPublic10
import Derived.Shelf.Sort.Plain
import Derived.Shelf.Unicode.Decode
import Derived.Shelf.Strings.IndexAnyAll
import Derived.Shelf.Strings.Repeat
import Derived.Shelf.Unicode.DecodeLast
import Derived.Shelf.Strings.BuilderCap
import Derived.Shelf.Slices.Turned
import Derived.Shelf.Slices.Clone
import Derived.Shelf.Slices.SearchI
import Derived.Shelf.Slices.In.SortNone
import Derived.Shelf.SlicesE.Clone
open _root_.Go.Addr renaming add->Ai
open _root_.Array renaming getD_eq_getD_getElem?->BB,getElem?_append_left->CI,getElem?_eq_getElem->A0,getElem?_eq_some_iff->Ad,getElem?_push->BV,getElem?_toList->BP,range->Ex,replicate->Bn,toList_map->C6
open _root_.BitVec renaming ofInt->Ao
open _root_.Bool renaming and_eq_true->As,cond_true_left->Ca,eq_iff_iff->AJ,false_and->DG,false_or->Du,or_eq_false_iff->BX,or_eq_true->Br,true_and->BZ
open _root_.Go.Builtin renaming append_->AB
open _root_.Go.Code renaming cond->Ej,region->Eo
open _root_.Go.Instr renaming fill->EA
open _root_.Int renaming toNat_natCast->Al
open _root_.Go.IntKind renaming bits->Ak,signed->Dj,wrap->Aa
open _root_.List renaming all_eq_true->AD,append_assoc->AM,append_nil->A3,cons_append->AE,drop_drop->Bj,drop_eq_getElem_cons->Ba,drop_eq_nil_of_le->BL,drop_zero->Cc,eq_nil_of_length_eq_zero->AO,exists_cons_of_ne_nil->A9,ext_getElem?->BC,getElem?_drop->AQ,getElem?_eq_getElem->Aq,getElem?_eq_none->BS,getElem?_eq_some_iff->AF,getElem?_map->BN,getElem?_take->AL,getElem_mem->AN,length->Cr,length_append->Ag,length_cons->Ap,length_drop->AI,length_eq_zero_iff->A7,length_erase_of_mem->Dd,length_map->AH,length_pos_iff->Bf,mapM_cons->Ef,map_cons->Az,mem_append->Aw,mem_append_left->Ar,mem_append_right->Ay,mem_cons->Af,mem_cons_of_mem->Ae,mem_cons_self->Aj,mem_map->Bc,mem_range->Bw,mem_singleton->A6,nodup_range->DO,pairwise_cons->BH,range->Cb,take_append_drop->BQ,take_length->AW,take_of_length_le->Ct,take_succ_cons->C3,take_succ_eq_append_getElem->Av
open _root_.List.cons renaming injEq->BM
open _root_.Nat renaming add_zero->CW,blt_eq->Cu,eq_of_beq_eq_true->Ah,le_mul_of_pos_right->Dk,le_of_ble_eq_true->BR,le_refl->Ac,le_trans->CV,lt_of_lt_of_le->C7,lt_or_ge->A1,pow_succ->DU,strongRecOn->Dt,zero_add->AK,zero_le->Cv,zero_mul->Dp
open _root_.Go.Next renaming value->Dl
open _root_.Option renaming bind_some->CP
open _root_.Option.some renaming inj->Au,injEq->Ab
open _root_.Pure renaming pure->Dc
open _root_.Go.Proofs.Tryz renaming func154->Es,func212->Eg,isAgg0->CX,isAgg181->En,isAgg20->Et,isAgg21->Dq,isAgg3->Co,isAgg4->Cy,isAgg5->Cp,isAgg9->Cq,prog->AY,sizeOf0->CK,sizeOf181->Eh,sizeOf20->Em,sizeOf21->Df,sizeOf3->Ce,sizeOf4->Ck,sizeOf5->Cf,sizeOf9->Cg,underlying0->Cd,underlying181->C9,underlying20->Dz,underlying21->CL,underlying3->Bo,underlying4->BD,underlying5->Bq,underlying9->Bm,zeroValue0->Ci,zeroValue20->DT,zeroValue21->CU,zeroValue3->BI,zeroValue4->BO,zeroValue5->BJ,zeroValue9->BK
open _root_.UInt8 renaming ofNat->A4,toNat_inj->D7
open _root_.Go.Utf8 renaming decode->Ew
open _root_.Go.Value.slice renaming injEq->AX
set_option linter.unusedVariables false
set_option maxRecDepth 100000
namespace Go.X
end Go.X
namespace Go.Proofs
end Go.Proofs
open Go Go.X Go.Proofs
section
namespace Go.X
section
variable {P:Program} {t tr tx:TypeId} {n d m i id:Nat} {cs R C:CS} {γ:Gh} {h:za} {o:Oper} {sv:AV} {gl:Fr} {c:zz} {ops:Array Oper} {pu ord:List Nat} {listed pl:Array Bool} {a:Act}
variable {h0 : za} {W : Nat -> Prop} {M0 : Fr}
structure It where
 k:Nat
 dst:Option Nat
 ch:zz
 av:AV
 nb:Option (Nat×Ch)
 us:Option Nat:=none
def itE:List It->qj
 |[]=>[]
 |i::l=>match i.dst with
  |some s=>(s,i.ch,i.av)::itE l
  |none=>itE l
def itC:List It->CS
 |[]=>[]
 |i::l=>match i.nb with
  |some b=>b::itC l
  |none=>itC l
theorem Xy{x:Nat×zz×AV}:∀{l:List It},x∈itE l↔∃i∈l,i.dst=some x.1/\i.ch=x.2.1/\i.av=x.2.2
 |[]=>by simp[itE]
 |i::l=>by
  simp only[itE]
  split
  ·rename_i s hs
   rw[Af,Xy (l:=l)]
   constructor
   ·rintro(rfl|⟨j,hj,h⟩)
    ·exact⟨i,Aj,hs,rfl,rfl⟩
    ·exact⟨j,Ae _ hj,h⟩
   ·rintro⟨j,hj,h1,h2,h3⟩
    rcases Af.1 hj with rfl|hj
    ·left;rw[hs]at h1;cases h1;rw[h2,h3]
    ·exact .inr ⟨j,hj,h1,h2,h3⟩
  ·rename_i hs
   rw[Xy (l:=l)]
   constructor
   ·rintro⟨j,hj,h⟩;exact⟨j,Ae _ hj,h⟩
   ·rintro⟨j,hj,h1,h2,h3⟩
    rcases Af.1 hj with rfl|hj
    ·rw[hs]at h1;cases h1
    ·exact⟨j,hj,h1,h2,h3⟩
def W5(S:List Nat):qj->qj
 |[]=>[]
 |(i,c,v)::e=>bif memN S i then(i,c,v)::W5 S e else W5 S e
theorem Je{S:List Nat}{x:Nat×zz×AV}:∀{e:qj},x∈W5 S e->x∈e/\x.1∈S
 |[],h=>by cases h
 |(i,c,v)::e,h=>by
  simp only[W5]at h
  cases hm:memN S i with
  |true=>
   rw[hm]at h
   rcases Af.1 h with rfl|h
   ·exact⟨Aj,zo8 hm⟩
   ·exact⟨Ae _ (Je h).1,(Je h).2⟩
  |false=>rw[hm]at h;exact⟨Ae _ (Je h).1,(Je h).2⟩
def qgf(P:Program)(tr:TypeId)(t:TypeId)(n:Nat)(ps:List (Nat×AV))(cs:CS)(K:AV->Prop):Prop:=
 match z4t P t with
 |some el=>match z8a P tr 8 el,zeo P el (n*qn P el)with
  |some ty,some zs=>bif Nat.beq (qn P el) (sz ty)then(bif Nat.ble (n*qn P el) 16777216 then(bif Nat.blt 0 (qn P el)then(match zox (λi=>some (i*qn P el,qn P el)) (zs.map .v) ps with
   |some r=>match Wc cs ty n r with
    |some (ys,[])=>K (.g (.a (.dc ty ys)))
    |_=>False
   |none=>False)else False)else False)else False
  |_,_=>False
 |none=>False
theorem zjg{t el:TypeId}(hu:P.underlying t=some (.slice el))(af:qd P el=true)(ah:n*qn P el<=16777216){zs:List Value}(Z:zeo P el (n*qn P el)=some zs){ps:Array (Nat×Value)}{c1:List Value}
  (e6:EA (λi=>some (i*qn P el,qn P el)) zs.toArray ps.toList=some c1.toArray) (B:World) (e:Nat) (h:za):
  (Instr.buildSlice t n ps).run P (mk B e h)=.ok (.slice (some ⟨h.size,0,none⟩) n n) (mk B e (h.push (.cells c1.toArray el))):=by
 have hq:=QExec.underlying (h:=h) hu B e
 have hs:=QExec.sizeOf (P:=P) (h:=h) (yw af).choose_spec B e
 unfold Instr.buildSlice
 rw[Sem.run_bind,hq]
 simp only[Result.andThen_ok]
 rw[Sem.run_bind,hs]
 simp only[Result.andThen_ok]
 rw[if_neg (by omega)]
 unfold zeo at Z
 by_cases aa:n*qn P el=0
 ·rw[if_pos aa]
  rw[aa]at Z ⊢
  simp at Z
  subst Z
  simp only[Sem.run_bind,Sem.run_pure,Result.andThen_ok]
  have e7:Array.map (λx=>(#[]:Array Value)[x % (#[]:Array Value).size]!) (Ex 0)=([]:List Value).toArray:=by simp
  rw[e7,e6]
  rfl
 ·rw[if_neg aa]
  have hb:Nat.beq (n*qn P el) 0=false:=by
   cases hh:Nat.beq (n*qn P el) 0 with
   |false=>rfl
   |true=>exact absurd (Ah hh) aa
  rw[hb]at Z
  simp only[cond_false]at Z
  split at Z
  ·rename_i z ab
   have ae:=Jd ab h B e
   simp only[Ab]at Z
   rw[Sem.run_bind,ae]
   simp only[Result.andThen_ok,Sem.run_bind,Sem.run_pure]
   have e7:Array.map (λx=>z.cells[x % z.cells.size]!) (Ex (n*qn P el))=zs.toArray:=by
    rw[<-Z]
   rw[e7,e6]
   rfl
  ·cases Z
theorem Inv.newFrozen(I:Inv h0 W M0 cs γ h)(Z:Array Value)(el:TypeId):Inv h0 W M0 cs (zfi γ h.size Z) (h.push (.cells Z el))/\Gx none γ (zfi γ h.size Z)/\(zfi γ h.size Z).M h.size=some Z:=by
 have aa:γ.M h.size=none:=I.ag.none (Ac _)
 have hM:Fr.le γ.M (zfi γ h.size Z).M:=by
  intro b cc eM
  have:Nat.beq b h.size=false:=by
   cases hb:Nat.beq b h.size with
   |false=>rfl
   |true=>rw[Ah hb,aa]at eM;cases eM
  simp[zfi,this,eM]
 have ab:AgM (zfi γ h.size Z).M (h.push (.cells Z el)):=by
  intro b cc eM
  by_cases hb:b=h.size
  ·subst hb
   have:cc=Z:=by simp[zfi]at eM;exact eM.symm
   subst this
   exact⟨_,_,yb _ _⟩
  ·have:Nat.beq b h.size=false:=by
    cases hb':Nat.beq b h.size with
    |false=>rfl
    |true=>exact absurd (Ah hb') hb
   simp only[zfi,this,cond_false]at eM
   obtain⟨T',m,e'⟩:=I.ag b cc eM
   exact⟨T',m,by rw[BV,if_neg hb];exact e'⟩
 refine⟨I.call (Keep.push h _ (Ac _)) hM (λb hb=>?_) ab,⟨hM,λ_ _=>⟨rfl,rfl⟩⟩,by simp[zfi]⟩
 have:Nat.beq b h.size=false:=by
  cases hb':Nat.beq b h.size with
  |false=>rfl
  |true=>have:=Ah hb';omega
 simp[this]
def qag:Option (Nat×Ch)->CS->CS
 |none,C=>C
 |some c,C=>J9 c.1 C
def zhq(h0:za)(W:Nat->Prop)(M0:Fr)(P:Program)(o:Oper)(a:Act)(γ:Gh)(h:za)(cs:CS)(nb:Option (Nat×Ch))(Ka:AV->Prop)(eat:Option (Nat×Ch):=none):Prop:=
 ExA P (execOp a.eval o) h λv h'=>∃av γ',Ka av/\DenV γ' av v/\Inv h0 W M0 (nb.toList++qag eat cs) γ' h'/\Gx (nb.map (·.1)) γ γ'
theorem qah{Z:Array (Nat×Operand)}(ho:o.op=.buildSlice t n Z){ps:List (Nat×AV)}{ρ:Operand->Option AV}(aj:zdc ρ Z.toList=some ps){K:AV->Prop}(H:qgf P tr t n ps cs K):
  ∃av,K av/\∀(γ:Gh) (h:za) (a:Act) (Y:CS),Inv h0 W M0 (Y++cs) γ h->(∀x av,ρ x=some av->DenV γ av (a.eval x))->zhq h0 W M0 P o a γ h (Y++cs) none (· = av):=by
 unfold qgf at H
 split at H
 ·rename_i el af
  obtain⟨hu,am⟩:=Jb af
  split at H
  ·rename_i ty zs ar ah
   cases hz:Nat.beq (qn P el) (sz ty)with
   |false=>rw[hz]at H;exact H.elim
   |true=>
   rw[hz]at H
   cases hb1:Nat.ble (n*qn P el) 16777216 with
   |false=>rw[hb1]at H;exact H.elim
   |true=>
   rw[hb1]at H
   cases hb2:Nat.blt 0 (qn P el)with
   |false=>rw[hb2]at H;exact H.elim
   |true=>
   rw[hb2]at H
   simp only[cond_true]at H
   split at H
   ·rename_i r hr
    split at H
    ·rename_i ys an
     refine⟨_,H,λγ h a Y I hρ=>?_⟩
     have I1:Inv h0 W M0 cs γ h:=I.sub (by simp)
     obtain⟨ws,e1,e2⟩:=Wb hr (Zz γ zs) (zas hρ aj)
     obtain⟨c1,c2,rfl,r3,r4,r5⟩:=zbv I1.fz an e2
     cases c2 with
     |cons _ _=>exact r5.elim
     |nil=>
     rw[A3]at *
     have aa:=Ah hz
     have ae:0<qn P el:=by simpa[Cu]using hb2
     have ak:n*qn P el<=16777216:=BR hb1
     have hn:n<=n*qn P el:=Dk _ ae
     have ap:c1.length=n*qn P el:=by rw[r3.1,r4,aa]
     obtain⟨I2,g2,ai⟩:=I.newFrozen c1.toArray el
     intro B e
     refine .inl ⟨.slice (some ⟨h.size,0,none⟩) n n,e,_,?_,_,_,rfl,?_,I2,g2⟩
     ·have e5:(Z.map λx=>(x.1,a.eval x.2)).toList=Z.toList.map λx=>(x.1,a.eval x.2):=by rw[C6]
      simp only[execOp,ho]
      refine Yi ?_
      exact zjg hu am ak ah (by
       show EA _ _ (Z.map λx=>(x.1,a.eval x.2)).toList=_
       rw[e5];exact e1) B e h
     ·have ab:=(r3.mono g2.1).rd (b:=h.size) (o:=0) (c:=n) (cs:=c1.toArray) ai (by rw[Cc,Ct (by rw[r4,<-aa];simp;omega)]) ⟨by omega,by omega⟩
      rw[r4]at ab
      exact⟨⟨some ⟨h.size,0,none⟩,n,n⟩,rfl,rfl,ab⟩
    ·exact H.elim
   ·exact H.elim
  ·exact H.elim
 ·exact H.elim
def qgg:AV->Bool
 |.g (.a (.dc _ _))=>true
 |_=>false
theorem qai{bv sv:AV}{c:Call}(ho:o.op=.call c)(hc:c.callee=.builtin .append){s x:Operand}(aj:c.args.toList=[s,x])(an:c.argTypes.toList=[t,tx]){K:AV->Prop}(ak:qgg bv=true)
  (H:Xx P tr t tx bv sv 0 [] cs (λav _ _=>K av)) {ρ:Operand->Option AV} (hs:ρ s=some bv) (hx:ρ x=some sv):
  ∀(γ:Gh) (h:za) (a:Act) (Y:CS),Inv h0 W M0 (Y++cs) γ h->(∀x av,ρ x=some av->DenV γ av (a.eval x))->zhq h0 W M0 P o a γ h (Y++cs) none K:=by
 intro γ h a Y I hρ
 have aF:=hρ _ _ hs
 have aA:=hρ _ _ hx
 have I1:Inv h0 W M0 ([]++cs) γ h:=I.sub (by simp)
 have key:∀{K':Value->za->Prop},Z5 P (AB #[t,tx] o.type #[a.eval s,a.eval x]) h K'->ExA P (execOp a.eval o) h K':=by
  intro K' aB B e
  obtain⟨v,d',h',r,hp⟩:=aB B e
  refine .inl ⟨v,d',h',?_,hp⟩
  have ee:execOp a.eval o=(AB c.argTypes o.type (c.args.map a.eval) >>= λx=>(Dc (Dl x):Sem Next)):=by
   simp only[execOp,ho,resolve,hc]
   rfl
  rw[ee,toList_eq aj,toList_eq an]
  refine Yi ?_
  simpa using r
 refine key ?_
 clear key
 unfold Xx at H
 split at H
 ·rename_i el aE
  obtain⟨hu,aP⟩:=Jb aE
  split at H
  ·rename_i ty aO
   split at H
   ·rename_i b ys hb aC
    obtain⟨⟨z,T⟩,au⟩:=zkp hu hb
    obtain⟨news,ae,af⟩:=zt4 I1 aC T.pos aA
    split at H
    ·cases ak
    ·cases ak
    ·rename_i t' aS
     split at H
     ·rename_i xs ai
      obtain⟨ap,hK⟩:=H
      have ax:=zdg au ap
      obtain⟨e1,e2⟩:=Q4 ai
      subst e1
      simp only at e2
      subst e2
      generalize a.eval s=u at *
      generalize a.eval x=v at *
      obtain⟨s2,e,aM,am⟩:=(show ∃s:Sl,u=slV s/\s.cap=s.len/\Rd γ.M (.row t') xs [u]from aF)
      subst e
      obtain⟨s3,e,Z,aL,cells,aa,ay⟩:=am.rowC I.ag
      have e':s2=s3:=by cases s2;cases s3;simp only[slV,AX]at e;simp[e]
      subst e'
      have ab:cells.length=s2.len*sz t':=by rw[Z];exact aa.1
      intro B dr
      by_cases hm:ys.length=0
      ·have aH:ys=[]:=AO hm
       subst aH
       have aJ:news=[]:=AO (by rw[ae.1];simp)
       subst aJ
       have hr:=Q3 (P:=P) (ty:=o.type) T (s:=s2) (h':=h) (af B dr) (by simp;omega) (λp hp=>by simp[storeCells]) (λ_=>rfl)
       refine⟨_,dr,h,hr,_,γ,hK,?_,I,Gx.refl _ _⟩
       rw[A3]
       exact am
      ·obtain⟨cp,ah,hr,aI,aQ,aN,aG⟩:=We (P:=P) (ty:=o.type) (base:=0) T ab (λB d=>Q2 ay ab T.pos B d) af (by rw[Z];exact ap) (by rw[Z];exact ax) (Cv _) (by omega) B dr
       obtain⟨I2,g2,az⟩:=I.newFrozen ah el
       refine⟨_,dr+1,_,hr,_,_,hK,?_,I2,g2⟩
       have ar:=((aa.append ae).mono g2.1).rd (b:=h.size) (o:=0) (c:=cp) (cs:=ah) az (by rw[Cc,Ag,<-Z];exact aG) (by rw[Ag,<-Z];exact⟨by rw[Z];exact ax,aI⟩)
       rw[Ag,<-Z]at ar
       exact ar
     ·exact H.elim
    ·exact H.elim
   ·exact H.elim
  ·exact H.elim
 ·exact H.elim
def qaj(P:Program)(gl:Fr)(tr:TypeId)(o:Oper)(ρ:Operand->Option AV)(cs:CS)(K:AV->Prop):Prop:=
 match o.op with
 |.call c=>match c.callee with
  |.value x=>match qdg x with
   |some f=>bif zj P f then(match z98 P tr f,zr1 ρ c.args.toList with
    |some (ts,rt),some vs=>match jg cs ts vs with
     |some args=>PC P gl f args rt λr=>K (qcq rt r)
     |none=>False
    |_,_=>False)else False
   |none=>False
  |_=>False
 |_=>False
theorem z5c(ab:Fr.le gl M0){ρ:Operand->Option AV}{K:AV->Prop}(H:qaj P gl tr o ρ cs K):
  ∀(γ:Gh) (h:za) (a:Act) (Y:CS),Inv h0 W M0 (Y++cs) γ h->(∀x av,ρ x=some av->DenV γ av (a.eval x))->zhq h0 W M0 P o a γ h (Y++cs) none K:=by
 intro γ h a Y I hρ
 unfold qaj at H
 split at H
 ·rename_i c ho
  split at H
  ·rename_i x hx
   split at H
   ·rename_i f hf
    cases hcal:zj P f with
    |false=>rw[hcal]at H;exact H.elim
    |true=>
     rw[hcal]at H
     simp only[cond_true]at H
     split at H
     ·rename_i ts rt vs hs aa
      split at H
      ·rename_i args Z
       intro B d
       have e:=zl5 hf
       subst e
       have I1:Inv h0 W M0 cs γ h:=I.sub (by simp)
       have ha:=wl I1.fz Z (Xw hρ aa)
       refine .inr (.inr ⟨f,c.args.map a.eval,zde ho hx hcal rfl _,?_⟩)
       have e2:c.args.map a.eval=(c.args.toList.map a.eval).toArray:=by rw[<-C6]
       rw[e2]
       refine(zl6 ab H I ha).mono ?_
       rintro v h' ⟨r,γ',h1,h2,h3,h4,_⟩
       exact⟨_,γ',h1,h2,h3,h4⟩
      ·exact H.elim
     ·exact H.elim
   ·exact H.elim
  ·exact H.elim
 ·exact H.elim
theorem zww(ab:Fr.le gl M0){ρ:Operand->Option AV}{b:Bool}{K:AV->Prop}(H:zwn P gl tr o ρ b cs K)(hb:b=true):
  ∀(γ:Gh) (h:za) (a:Act) (Y:CS),Inv h0 W M0 (Y++cs) γ h->(∀x av,ρ x=some av->DenV γ av (a.eval x))->zhq h0 W M0 P o a γ h (Y++cs) none K:=by
 intro γ h a Y I hρ
 unfold zwn at H
 split at H
 ·rename_i c ho
  split at H
  ·rename_i x hx
   split at H
   ·rename_i f hf
    cases hcal:zj P f with
    |false=>rw[hcal]at H;exact H.elim
    |true=>
     rw[hcal]at H
     simp only[cond_true]at H
     split at H
     ·rename_i ts rt vs hs aa
      split at H
      ·rename_i args Z
       obtain⟨J,h1,h2⟩:=H
       intro B d
       have e:=zl5 hf
       subst e
       have I1:Inv h0 W M0 cs γ h:=I.sub (by simp)
       have ha:=wl I1.fz Z (Xw hρ aa)
       refine .inr (.inr ⟨f,c.args.map a.eval,zde ho hx hcal rfl _,?_⟩)
       have e2:c.args.map a.eval=(c.args.toList.map a.eval).toArray:=by rw[<-C6]
       rw[e2]
       refine(zl6 ab (h1 hb) I ha).mono ?_
       rintro v h' ⟨r,γ',g1,g2,g3,g4,_⟩
       exact⟨_,γ',h2 r (λ_=>g1),g2,g3,g4⟩
      ·exact H.elim
     ·exact H.elim
   ·exact H.elim
  ·exact H.elim
 ·exact H.elim
theorem zzn(ho:o.op=.alloc t){z:Value}(hz:zeroOf P t=some z)(Z:itB (z.cells.toList.map .v)=false):
  ∀(γ:Gh) (h:za) (a:Act) (Y:CS),Inv h0 W M0 (Y++cs) γ h->ql d (Y++cs)=true->zhq h0 W M0 P o a γ h (Y++cs) (some (d,.box (z.cells.toList.map .v))) (· = .g (.a (.box d 0))):=by
 intro γ h a Y I hR B e
 refine .inl ⟨.pointer (some ⟨h.size,0,none⟩),e,h.push (.cells z.cells t),?_,_,zx6 γ d h.size,rfl,?_,?_,Xs _ _ _⟩
 ·have aa:=Jd hz h B e
  simp only[execOp,ho]
  refine Yi ?_
  unfold Instr.alloc
  rw[Sem.run_bind,aa]
  simp only[Result.andThen_ok]
  rw[Sem.run_bind,zat]
  rfl
 ·simp only[DenV,DenG,DenA,Zx]
 ·have:=Inv.newBox (C:=[]) (R:=Y++cs) (by simpa using I) (c:=d) hR (Zz γ z.cells.toList) (zen d _) Z t
  simpa[qp,qag]using this
theorem qak{x:Operand}(ho:o.op=.box t x){l:List AA}(hm:zn0 d l=false)(Z:itB l=false):
  ∀(γ:Gh) (h:za) (a:Act) (Y:CS),Inv h0 W M0 (Y++cs) γ h->ql d (Y++cs)=true->All2 (DenA γ) l (a.eval x).cells.toList->zhq h0 W M0 P o a γ h (Y++cs) (some (d,.box l)) (· = .g (.a (.box d 0))):=by
 intro γ h a Y I hR hl B e
 refine .inl ⟨.pointer (some ⟨h.size,0,none⟩),e,h.push (.cells (a.eval x).cells t),?_,_,zx6 γ d h.size,rfl,?_,?_,Xs _ _ _⟩
 ·simp only[execOp,ho]
  refine Yi ?_
  unfold Instr.box
  rw[Sem.run_bind,zat]
  rfl
 ·simp only[DenV,DenG,DenA,Zx]
 ·have:=Inv.newBox (C:=[]) (R:=Y++cs) (by simpa using I) (c:=d) hR hl hm Z t
  simpa[qp,qag]using this
def ym(o:Oper):Bool:=match o.op with
 |.call c=>match c.callee with
  |.builtin .append=>true
  |.builtin _=>false
  |_=>true
 |_=>false
def zdj:List AA->Bool
 |[]=>true
 |.v _::l=>zdj l
 |.d _ _::l=>zdj l
 |.elt _ _ _::l=>zdj l
 |.dc _ _::l=>zdj l
 |_::_=>false
theorem Qu{c:Nat}:∀{l:List AA},zdj l=true->zn0 c l=false
 |[],_=>rfl
 |.v _::l,h=>by simp only[zn0,zwf,cond_false];exact Qu (l:=l) h
 |.d _ _::l,h=>by simp only[zn0,zwf,cond_false];exact Qu (l:=l) h
 |.elt _ _ _::l,h=>by simp only[zn0,zwf,cond_false];exact Qu (l:=l) h
 |.dc _ _::l,h=>by simp only[zn0,zwf,cond_false];exact Qu (l:=l) h
 |.box _ _::_,h=>by cases h
 |.own _::_,h=>by cases h
 |.oelt _ _ _ _::_,h=>by cases h
theorem zfk:∀l:List Value,zdj (l.map .v)=true
 |[]=>rfl
 |_::l=>zfk l
def zzo(P:Program)(gl:Fr)(tr:TypeId)(o:Oper)(e:qj)(ch:zz)(cs:CS)(K:AV->Option (Nat×Ch)->Prop):Prop:=
 match o.op with
 |.alloc t=>match ch,o.dst,zeroOf P t with
  |[],some d,some z=>bif ql d cs then(bif itB (z.cells.toList.map .v)then False else K (.g (.a (.box d 0))) (some (d,.box (z.cells.toList.map .v))))else False
  |_,_,_=>False
 |.box t x=>match ch,o.dst,zfp e [] x with
  |[],some d,some av=>match zwl av with
   |some l=>bif ql d cs then(bif zdj l then(bif itB l then False else K (.g (.a (.box d 0))) (some (d,.box l)))else False)else False
   |none=>False
  |_,_,_=>False
 |.buildSlice t n Z=>match ch,zdc (zfp e []) Z.toList with
  |[],some ps=>qgf P tr t n ps cs λav=>K av none
  |_,_=>False
 |.call c=>match c.callee with
  |.builtin .append=>match ch,c.args.toList,c.argTypes.toList with
   |[],[s,x],[t,tx]=>match zfp e [] s,zfp e [] x with
    |some bv,some sv=>bif qgg bv then Xx P tr t tx bv sv 0 [] cs (λav _ _=>K av none)else False
    |_,_=>False
   |_,_,_=>False
  |.builtin _=>z5b P gl o e ch cs λav=>K av none
  |_=>match ch with
   |[]=>qaj P gl tr o (zfp e []) cs λav=>K av none
   |_=>match Wa e ch with
    |some (some b)=>zwn P gl tr o (zfp e ch) b cs λav=>K av none
    |_=>False
 |_=>z5b P gl o e ch cs λav=>K av none
structure Spec (h0:za) (W:Nat->Prop) (M0:Fr) (P:Program) (o:Oper) (e:qj) (ch:zz) (cs:CS) (nb:Option (Nat×Ch)) (Kan:AV->Prop) (eat:Option (Nat×Ch):=none):Prop where
 yes:∀(n:Nat) (γ:Gh) (h:za) (a:Act) (Y:CS),SatA n e γ a->Inv h0 W M0 (Y++cs) γ h->(∀b,nb=some b->ql b.1 (Y++cs)=true)->(∀c,eat=some c->c∈Y++cs/\∀x∈Y++cs,x.1=c.1->x.2=c.2)->(∀d,o.dst=some d->eat≠none->ql d (Y++cs)=true)->valid (zo a) ch->zhq h0 W M0 P o a γ h (Y++cs) nb Kan eat
 no:∀(n:Nat) (γ:Gh) (a:Act),SatA n e γ a->¬valid (zo a) ch->nb=none/\eat=none/\∃av,Kan av
 box:∀b,nb=some b->ql b.1 cs=true/\o.dst=some b.1/\(((∃l,b.2=.box l/\zdj l=true)/\Kan=(· = .g (.a (.box b.1 0))))\/((∃e t xs,b.2=.row e t xs)/\Kan=(· = .g (.a (.own b.1)))))
 dn:eat≠none->∃d,o.dst=some d/\ql d cs=true
theorem Spec.ofQ(Z:Fr.le gl M0){e:qj}{ch:zz}{K:AV->Option (Nat×Ch)->Prop}(H:z5b P gl o e ch cs λav=>K av none):∃nb Kan,Spec h0 W M0 P o e ch cs nb Kan/\(∀av,Kan av->K av nb)/\∃av,Kan=(· = av):=by
 obtain⟨av,h1,h2⟩:=zkv (h0:=h0) (W:=W) (M0:=M0) Z H
 refine⟨none,(· = av),⟨λn γ h a Y hs I _ _ _ hv=>?_,λn γ a hs hv=>⟨rfl,rfl,av,rfl⟩,λb hb=>(by cases hb),λhx=>absurd rfl hx⟩,λaa e=>e ▸ h1,av,rfl⟩
 obtain⟨v,hd,hq⟩:=h2 n γ a h hs (I.sub (by simp)) hv
 exact λB d=>.inl ⟨v,d,h,hq B d,av,γ,rfl,hd,I,Gx.refl _ _⟩
theorem zr5(aa:Fr.le gl M0){e:qj}{ch:zz}{K:AV->Option (Nat×Ch)->Prop}(H:zzo P gl tr o e ch cs K):
  ∃nb Kan,Spec h0 W M0 P o e ch cs nb Kan/\(∀av,Kan av->K av nb)/\(ym o=false->∃av,Kan=(· = av)):=by
 unfold zzo at H
 split at H
 ·rename_i t ho
  split at H
  ·rename_i d z hd hz
   cases hR:ql d cs with
   |false=>rw[hR]at H;exact H.elim
   |true=>
    rw[hR]at H
    cases hit:itB (z.cells.toList.map .v)with
    |true=>rw[hit]at H;exact H.elim
    |false=>
    rw[hit]at H
    refine⟨_,(· = .g (.a (.box d 0))),⟨λn γ h a Y hs I hn _ _ _=>zzn ho hz hit γ h a Y I (hn _ rfl),λn γ a hs hv=>absurd trivial hv,λb hb=>?_,λhx=>absurd rfl hx⟩,λav e=>e ▸ H,λ_=>⟨_,rfl⟩⟩
    cases hb
    exact⟨hR,hd,.inl ⟨⟨_,rfl,zfk _⟩,rfl⟩⟩
  ·exact H.elim
 ·rename_i t x ho
  split at H
  ·rename_i d av hd aj
   split at H
   ·rename_i l hl
    cases hR:ql d cs with
    |false=>rw[hR]at H;exact H.elim
    |true=>
     rw[hR]at H
     cases hm:zdj l with
     |false=>rw[hm]at H;exact H.elim
     |true=>
      rw[hm]at H
      cases hit:itB l with
      |true=>rw[hit]at H;exact H.elim
      |false=>
      rw[hit]at H
      refine⟨_,(· = .g (.a (.box d 0))),⟨λn γ h a Y hs I hn _ _ _=>qak ho (Qu hm) hit γ h a Y I (hn _ rfl) (zda hl (zq hs (c:=[]) trivial aj)),λn γ a hs hv=>absurd trivial hv,λb hb=>?_,λhx=>absurd rfl hx⟩,λav e=>e ▸ H,λ_=>⟨_,rfl⟩⟩
      cases hb
      exact⟨hR,hd,.inl ⟨⟨_,rfl,hm⟩,rfl⟩⟩
   ·exact H.elim
  ·exact H.elim
 ·rename_i t n af ho
  split at H
  ·rename_i ps ak
   obtain⟨av,h1,h2⟩:=qah (h0:=h0) (W:=W) (M0:=M0) ho ak H
   exact⟨none,(· = av),⟨λn γ h a Y hs I _ _ _ _=>h2 γ h a Y I λx av hx=>zq hs (c:=[]) trivial hx,λn γ a hs hv=>absurd trivial hv,λb hb=>(by cases hb),λhx=>absurd rfl hx⟩,λap e=>e ▸ h1,λ_=>⟨_,rfl⟩⟩
  ·exact H.elim
 ·rename_i c ho
  split at H
  ·rename_i hc
   have Z:ym o=true:=by simp[ym,ho,hc]
   split at H
   ·rename_i s x t tx ab ae
    split at H
    ·rename_i bv sv ah ai
     cases hdc:qgg bv with
     |false=>rw[hdc]at H;exact H.elim
     |true=>
      rw[hdc]at H
      simp only[cond_true]at H
      exact⟨none,λav=>K av none,⟨λn γ h a Y hs I _ _ _ _=>qai ho hc ab ae hdc H ah ai γ h a Y I λx av hx=>zq hs (c:=[]) trivial hx,λn γ a hs hv=>absurd trivial hv,λb hb=>(by cases hb),λhx=>absurd rfl hx⟩,λav e=>e,λhn=>by rw[Z]at hn;cases hn⟩
    ·exact H.elim
   ·exact H.elim
  ·obtain⟨nb,Kan,h1,h2,h3⟩:=Spec.ofQ (h0:=h0) (W:=W) (M0:=M0) aa H
   exact⟨nb,Kan,h1,h2,λ_=>h3⟩
  ·rename_i an am
   have Z:ym o=true:=by
    simp only[ym,ho]
   split at H
   ·exact⟨none,λav=>K av none,⟨λn γ h a Y hs I _ _ _ _=>z5c aa H γ h a Y I λx av hx=>zq hs (c:=[]) trivial hx,λn γ a hs hv=>absurd trivial hv,λb hb=>(by cases hb),λhx=>absurd rfl hx⟩,λav e=>e,λhn=>by rw[Z]at hn;cases hn⟩
   ·split at H
    ·rename_i b hb
     refine⟨none,λav=>K av none,⟨λn γ h a Y hs I _ _ _ hv=>zww aa H (xd hs hb hv) γ h a Y I λx av hx=>zq hs hv hx,λn γ a hs hv=>⟨rfl,rfl,?_⟩,λb hb=>(by cases hb),λhx=>absurd rfl hx⟩,λav e=>e,λhn=>by rw[Z]at hn;cases hn⟩
     have:=zbp hs hb hv
     simp only[Ab]at this
     exact(zbt (h0:=#[]) (W:=λ_=>False) (M0:=λ_=>none) H).1 this
    ·exact H.elim
 ·obtain⟨nb,Kan,h1,h2,h3⟩:=Spec.ofQ (h0:=h0) (W:=W) (M0:=M0) aa H
  exact⟨nb,Kan,h1,h2,λ_=>h3⟩
def z5d:List Nat->Nat->Option (Option Nat)
 |[],_=>none
 |x::l,k=>bif Nat.ble 2000000 x then(bif Nat.beq (x-2000000) k then some none else z5d l k)else(bif Nat.ble 1000000 x then(bif Nat.beq ((x-1000000) / 1000) k then some (some ((x-1000000) % 1000))else z5d l k)else z5d l k)
def zep(k:Nat):List It->Option (Nat×Ch)
 |[]=>none
 |i::l=>bif (match i.us with
  |some j=>Nat.beq j k
  |none=>false)then(match i.nb with
  |some b=>some b
  |none=>zep k l)else zep k l
theorem zbz{k:Nat}{c:Nat×Ch}:∀{l:List It},zep k l=some c->∃i∈l,i.nb=some c/\i.us=some k
 |[],h=>by cases h
 |i::l,h=>by
  simp only[zep]at h
  cases hb:(match i.us with
   |some j=>Nat.beq j k
   |none=>false)with
  |false=>
   rw[hb]at h
   obtain⟨x,hx,q⟩:=zbz h
   exact⟨x,Ae _ hx,q⟩
  |true=>
   rw[hb]at h
   simp only[cond_true]at h
   split at h
   ·rename_i b Z
    cases h
    refine⟨i,Aj,Z,?_⟩
    split at hb
    ·rename_i j hj;rw[hj,Ah hb]
    ·cases hb
   ·obtain⟨x,hx,q⟩:=zbz h
    exact⟨x,Ae _ hx,q⟩
def qgh(P:Program)(tr:TypeId)(t:TypeId)(n:Nat)(K:Ch->Prop):Prop:=bif Nat.beq n 0 then(match z4t P t with
 |some el=>match z8a P tr 8 el,zeo P el (0*qn P el)with
  |some ty,some []=>bif Nat.beq (qn P el) (sz ty)then(bif Nat.ble (0*qn P el) 16777216 then(bif Nat.blt 0 (qn P el)then K (.row el ty [])else False)else False)else False
  |_,_=>False
 |none=>False)else False
theorem qal{Z:Array (Nat×Operand)}(ho:o.op=.buildSlice t n Z)(hp:Z.toList=[]){K:Ch->Prop}(H:qgh P tr t n K):
  ∃el ty,K (.row el ty [])/\∀(γ:Gh) (h:za) (a:Act) (L:CS),Inv h0 W M0 L γ h->ql d L=true->ExA P (execOp a.eval o) h (zbs h0 W M0 L γ λav C' c=>av=.g (.a (.own d))/\C'=[(d,.row el ty [])]/\c=some d):=by
 unfold qgh at H
 cases hn:Nat.beq n 0 with
 |false=>rw[hn]at H;exact H.elim
 |true=>
  rw[hn]at H
  obtain rfl:=Ah hn
  simp only[cond_true]at H
  split at H
  ·rename_i el aa
   split at H
   ·rename_i ty ae ab
    cases h1:Nat.beq (qn P el) (sz ty)with
    |false=>rw[h1]at H;exact H.elim
    |true=>
     rw[h1]at H
     cases h2:Nat.ble (0*qn P el) 16777216 with
     |false=>rw[h2]at H;exact H.elim
     |true=>
      rw[h2]at H
      cases h3:Nat.blt 0 (qn P el)with
      |false=>rw[h3]at H;exact H.elim
      |true=>
       rw[h3]at H
       refine⟨el,ty,H,λγ h a L I hd=>?_⟩
       refine zbb (tr:=tr) (ps:=[]) ho (ρ:=λ_=>none) (by rw[hp];rfl) (C:=[]) (R:=L) (d:=d) ?_ (by simpa using I) (λx av hx=>by cases hx)
       unfold Wd
       rw[aa]
       simp only
       rw[ae,ab]
       simp only
       rw[h1,h2,h3,hd]
       simp[zox,Wc,qdh,W0,frzL,qp]
   ·exact H.elim
  ·exact H.elim
def qgi(P:Program)(tx:TypeId)(ty:Ty):AV->Option (List (El ty))
 |.g (.a (.d (.row t) xs))=>match P.underlying tx with
  |some (.slice _)=>Z9 (.row t) (.row ty) xs
  |_=>none
 |.g (.a (.dc t xs))=>match P.underlying tx with
  |some (.slice _)=>Z9 (.row t) (.row ty) xs
  |_=>none
 |.g (.a (.v (.slice none 0 0)))=>match P.underlying tx with
  |some (.slice _)=>some []
  |_=>none
 |_=>none
def qgj(P:Program)(tr:TypeId)(t tx:TypeId)(e0:TypeId)(t0:Ty)(xs:List (El t0))(sv:AV)(K:TypeId->(ty:Ty)->List (El ty)->Prop):Prop:=match z4t P t with
 |some el=>match z8a P tr 8 el with
  |some ty=>match zgk P el ty,qgi P tx ty sv with
   |some b,some ys=>match Z9 (.row t0) (.row ty) xs with
    |some xs=>bif Nat.beq e0 el then((xs.length+ys.length)*b<=140737488355328/\K el ty (xs++ys))else False
    |none=>False
   |_,_=>False
  |none=>False
 |none=>False
theorem zzp{L:CS}{ty:Ty}{ys:List (El ty)}(h:qgi P tx ty sv=some ys):qac P L tx ty sv=some ys:=by
 unfold qgi at h
 split at h
 ·rename_i t xs
  split at h
  ·rename_i e he
   simp only[qac,he,rowOf]
   exact h
  ·cases h
 ·rename_i t xs
  split at h
  ·rename_i e he
   simp only[qac,he,rowOf]
   exact h
  ·cases h
 ·split at h
  ·rename_i e he
   simp only[qac,he]
   exact h
  ·cases h
 ·cases h
theorem zpa{c:Nat}:∀{l:CS},ql c l=true->qp c l=l
 |[],_=>rfl
 |(j,k)::l,h=>by
  simp only[ql]at h
  cases hb:(bif Nat.beq j c then true else zek c k)with
  |true=>rw[hb]at h;cases h
  |false=>
   rw[hb]at h
   simp only[qp]
   rw[hb,cond_false,zpa h]
theorem zdk{c d:Nat}:∀{l:CS},ql c l=true->ql c (J9 d l)=true
 |[],_=>rfl
 |(j,k)::l,h=>by
  simp only[ql]at h
  cases hb:(bif Nat.beq j c then true else zek c k)with
  |true=>rw[hb]at h;cases h
  |false=>
   rw[hb]at h
   simp only[J9]
   cases Nat.beq j d with
   |true=>exact zdk h
   |false=>
    simp only[cond_false,ql]
    rw[hb]
    exact zdk h
theorem zkw{c:Nat×Ch}:∀{l:CS},c∈l->(∀x∈l,x.1=c.1->x.2=c.2)->Qz l c.1=some c.2
 |[],h,_=>by cases h
 |(j,k)::l,h,hu=>by
  simp only[Qz]
  cases hb:Nat.beq c.1 j with
  |true=>
   have:=Ah hb
   have:=hu (j,k) Aj this.symm
   simp only at this
   rw[cond_true,this]
  |false=>
   rw[cond_false]
   rcases Af.1 h with rfl|h
   ·simp at hb
   ·exact zkw h λx hx=>hu x (Ae _ hx)
theorem qam{c:Call}(ho:o.op=.call c)(hc:c.callee=.builtin .append){s x:Operand}(ab:c.args.toList=[s,x])(af:c.argTypes.toList=[t,tx]){e0:TypeId}{t0:Ty}{xs:List (El t0)}{K:TypeId->(ty:Ty)->List (El ty)->Prop}
  (H:qgj P tr t tx e0 t0 xs sv K):∃el ty ys,K el ty ys/\∀(γ:Gh) (h:za) (a:Act) (L:CS) (c0:Nat),Inv h0 W M0 L γ h->Qz L c0=some (.row e0 t0 xs)->DenV γ (.g (.a (.own c0))) (a.eval s)->DenV γ sv (a.eval x) ->
   ExA P (execOp a.eval o) h (zbs h0 W M0 [] γ λav C' cc=>av=.g (.a (.own d))/\C'=(d,.row el ty ys)::qp d (J9 c0 L)/\cc=some d):=by
 unfold qgj at H
 split at H
 ·rename_i el ai
  split at H
  ·rename_i ty ak
   split at H
   ·rename_i b ys hb aj
    split at H
    ·rename_i ae aa
     cases hee:Nat.beq e0 el with
     |false=>rw[hee]at H;exact H.elim
     |true=>
      rw[hee]at H
      obtain⟨Z,hK⟩:=H
      refine⟨el,ty,ae++ys,hK,λγ h a L c0 I hf hs hx=>?_⟩
      have ah:Xx P tr t tx (.g (.a (.own c0))) sv d L [] (λav C' cc=>av=.g (.a (.own d))/\C'=(d,.row el ty (ae++ys))::qp d (J9 c0 L)/\cc=some d):=by
       unfold Xx
       rw[ai]
       simp only
       rw[ak]
       simp only
       rw[hb,A3,zzp aj]
       simp only
       rw[hf]
       simp only
       rw[aa]
       simp only
       rw[hee]
       first|exact⟨Z,rfl,rfl,rfl⟩|exact⟨Z,trivial,trivial,trivial⟩|exact⟨Z,by simp⟩
      have:=zkq (ty':=o.type) ah (by simpa using I) hs hx
      intro B e
      obtain⟨v,d',h',r,hp⟩:=this B e
      refine .inl ⟨v,d',h',?_,hp⟩
      have ee:execOp a.eval o=(AB c.argTypes o.type (c.args.map a.eval) >>= λx=>(Dc (Dl x):Sem Next)):=by
       simp only[execOp,ho,resolve,hc]
       rfl
      rw[ee,toList_eq ab,toList_eq af]
      refine Yi ?_
      simpa using r
    ·exact H.elim
   ·exact H.elim
  ·exact H.elim
 ·exact H.elim
def qan(P:Program)(tr:TypeId)(o:Oper)(k:Nat)(e:qj)(IL:List It)(cs:CS)(own:Bool)(K:AV->Option (Nat×Ch)->Option (Nat×Ch)->Prop):Prop:=
 match o.op,o.dst with
 |.buildSlice t n parts,some d=>bif own then(bif ql d cs then(match parts.toList with
  |[]=>qgh P tr t n λch=>K (.g (.a (.own d))) (some (d,ch)) none
  |_=>False)else False)else False
 |.call c,some d=>match c.callee,c.args.toList,c.argTypes.toList,zep k IL with
  |.builtin .append,[s,x],[t,tx],some (c0,.row e0 t0 xs)=>match zfp e [] s,zfp e [] x with
   |some (.g (.a (.own c1))),some sv=>bif Nat.beq c1 c0 then(bif ql d cs then qgj P tr t tx e0 t0 xs sv (λel ty ys=>bif own then K (.g (.a (.own d))) (some (d,.row el ty ys)) (some (c0,.row e0 t0 xs))else K (.g (.a (.d (.row ty) ys))) none (some (c0,.row e0 t0 xs)))else False)else False
   |_,_=>False
  |_,_,_,_=>False
 |_,_=>False
theorem zr6{k:Nat}{e:qj}{IL:List It}{own:Bool}{K:AV->Option (Nat×Ch)->Option (Nat×Ch)->Prop}(H:qan P tr o k e IL cs own K):
  ∃nb eat av,Spec h0 W M0 P o e [] cs nb (· = av) eat/\K av nb eat/\∀c,eat=some c->zep k IL=some c:=by
 unfold qan at H
 split at H
 ·rename_i t n ai d ho hd
  cases own with
  |false=>exact H.elim
  |true=>
   simp only[cond_true]at H
   cases hR:ql d cs with
   |false=>rw[hR]at H;exact H.elim
   |true=>
    rw[hR]at H
    simp only[cond_true]at H
    split at H
    ·rename_i hp
     obtain⟨el,ty,hK,hx⟩:=qal (h0:=h0) (W:=W) (M0:=M0) (d:=d) ho hp H
     refine⟨_,none,_,⟨λn γ h a Y hs I hn _ _ _=>?_,λn γ a hs hv=>absurd trivial hv,λb hb=>?_,λhx=>absurd rfl hx⟩,hK,λc hc=>by cases hc⟩
     ·refine(hx γ h a (Y++cs) I (hn _ rfl)).mono ?_
      rintro v h' ⟨av,C',c,γ',⟨rfl,rfl,rfl⟩,h2,h3,h4⟩
      exact⟨_,γ',rfl,h2,h3,h4⟩
     ·cases hb
      exact⟨hR,hd,.inr ⟨⟨_,_,_,rfl⟩,rfl⟩⟩
    ·exact H.elim
 ·rename_i c d ho hd
  split at H
  ·rename_i s x t tx c0 e0 t0 xs hc Z af aa
   split at H
   ·rename_i c1 sv am ak
    cases hb:Nat.beq c1 c0 with
    |false=>rw[hb]at H;exact H.elim
    |true=>
     obtain rfl:=Ah hb
     rw[hb]at H
     simp only[cond_true]at H
     cases hR:ql d cs with
     |false=>rw[hR]at H;exact H.elim
     |true=>
      rw[hR]at H
      simp only[cond_true]at H
      obtain⟨el,ty,ys,hK,hx⟩:=qam (h0:=h0) (W:=W) (M0:=M0) (d:=d) ho hc Z af H
      have run:∀(n:Nat) (γ:Gh) (h:za) (a:Act) (Y:CS),SatA n e γ a->Inv h0 W M0 (Y++cs) γ h->(∀cc,(some (c1,Ch.row e0 t0 xs):Option (Nat×Ch))=some cc->cc∈Y++cs/\∀x∈Y++cs,x.1=cc.1->x.2=cc.2)->ql d (Y++cs)=true ->
        ExA P (execOp a.eval o) h λv h'=>∃γ',DenV γ' (.g (.a (.own d))) v/\Inv h0 W M0 ((d,.row el ty ys)::J9 c1 (Y++cs)) γ' h'/\Gx (some d) γ γ':=by
       intro n γ h a Y hs I he hn
       obtain⟨h1,h2⟩:=he _ rfl
       have hf:=zkw h1 h2
       refine(hx γ h a (Y++cs) c1 I hf (zq hs (c:=[]) trivial am) (zq hs (c:=[]) trivial ak)).mono ?_
       rintro v h' ⟨av,C',cc,γ',⟨rfl,rfl,rfl⟩,q2,q3,q4⟩
       rw[A3,zpa (zdk hn)]at q3
       exact⟨γ',q2,q3,q4⟩
      cases own with
      |true=>
       refine⟨some (d,.row el ty ys),some (c1,.row e0 t0 xs),.g (.a (.own d)),⟨λn γ h a Y hs I hn he ah _=>?_,λn γ a hs hv=>absurd trivial hv,λb hb=>?_,λ_=>⟨d,hd,hR⟩⟩,hK,λc hc=>by cases hc;exact aa⟩
       ·refine(run n γ h a Y hs I he (hn _ rfl)).mono ?_
        rintro v h' ⟨γ',q2,q3,q4⟩
        exact⟨_,γ',rfl,q2,q3,q4⟩
       ·cases hb
        exact⟨hR,hd,.inr ⟨⟨_,_,_,rfl⟩,rfl⟩⟩
      |false=>
       refine⟨none,some (c1,.row e0 t0 xs),.g (.a (.d (.row ty) ys)),⟨λn γ h a Y hs I hn he ah _=>?_,λn γ a hs hv=>absurd trivial hv,λb hb=>(by cases hb),λ_=>⟨d,hd,hR⟩⟩,hK,λc hc=>by cases hc;exact aa⟩
       have ab:=ah d hd (by simp)
       refine(run n γ h a Y hs I he ab).mono ?_
       rintro v h' ⟨γ',q2,q3,q4⟩
       obtain⟨γ2,I2,g2⟩:=Inv.freeze1 (A:=[]) q3
       have aj:Rd γ2.M (.row ty) ys [slV (γ2.σ d)]:=I2.den (d,.fz ty ys) (by simp)
       have hv:v=slV (γ'.σ d):=q2
       have hσ:γ2.σ d=γ'.σ d:=(g2.2 d (by simp)).2
       have ae:=Q0 (zdk (d:=c1) ab)
       refine⟨_,{ γ2 with β:=γ.β,σ:=γ.σ },rfl,?_,?_,⟨q4.1.trans g2.1,λi _=>⟨rfl,rfl⟩⟩⟩
       ·show Rd γ2.M (.row ty) ys [v]
        rw[hv,<-hσ];exact aj
       ·refine I2.rest (by simp[qag]) (c:=some d) ⟨Fr.le.refl _,λi hi=>?_⟩ (λx hx=>⟨(ae x hx).1,(ae x hx).2⟩) (λx hx b hb=>⟨rfl,(I2.sep x (by simp;exact .inr hx) b hb).2⟩) I2.ag (λ_ _ _=>rfl) (Ac _) (λ_ _=>rfl)
        have a1:=q4.2 i hi
        have a2:=g2.2 i (by simp)
        exact⟨a1.1.symm.trans a2.1.symm,a1.2.symm.trans a2.2.symm⟩
   ·exact H.elim
  ·exact H.elim
 ·exact H.elim
def yd(ops:Array Oper)(m:Nat):List Nat:=y8 (ops.toList.take m)
def Yt(av:AV):List Nat->Bool
 |[]=>true
 |s::l=>bif zyx s av then false else Yt av l
theorem zkx{av:AV}:∀{l:List Nat},Yt av l=true->∀s∈l,zyx s av=false
 |[],_,s,hs=>by cases hs
 |x::l,h,s,hs=>by
  simp only[Yt]at h
  cases hb:zyx x av with
  |true=>rw[hb]at h;cases h
  |false=>
   rw[hb]at h
   rcases Af.1 hs with rfl|hs
   ·exact hb
   ·exact zkx h s hs
def zfr(S:List Nat):qj->qj
 |[]=>[]
 |(i,[],v)::e=>bif memN S i then zfr S e else(bif Yt v S then(i,[],v)::zfr S e else zfr S e)
 |(_,_::_,_)::e=>zfr S e
theorem wm{S:List Nat}{x:Nat×zz×AV}:∀{e:qj},x∈zfr S e->x∈e/\x.2.1=[]/\x.1∉S/\Yt x.2.2 S=true
 |[],h=>by cases h
 |(i,[],v)::e,h=>by
  simp only[zfr]at h
  cases hm:memN S i with
  |true=>rw[hm]at h;exact⟨Ae _ (wm h).1,(wm h).2⟩
  |false=>
   rw[hm]at h
   simp only[cond_false]at h
   cases hn:Yt v S with
   |false=>rw[hn]at h;exact⟨Ae _ (wm h).1,(wm h).2⟩
   |true=>
    rw[hn]at h
    rcases Af.1 h with rfl|h
    ·exact⟨Aj,rfl,Zi hm,hn⟩
    ·exact⟨Ae _ (wm h).1,(wm h).2⟩
 |(_,_::_,_)::e,h=>⟨Ae _ (wm (e:=e) h).1,(wm (e:=e) h).2⟩
def qgk(ops:Array Oper)(o:Oper):zz->Bool
 |[]=>true
 |[(g,_)]=>match o.guard with
  |some (j,_)=>match yn ops j with
   |some g'=>Nat.beq g g'
   |none=>false
  |none=>false
 |_=>false
def z8d:List Nat->Nat->Bool
 |[x],k=>Nat.beq x k
 |_,_=>false
def inL:List Nat->Nat->Bool
 |[],_=>false
 |x::l,k=>bif Nat.beq x k then true else inL l k
theorem zzq{k:Nat}:∀{l:List Nat},inL l k=true->k∈l
 |[],h=>by cases h
 |x::l,h=>by
  simp only[inL]at h
  cases hb:Nat.beq x k with
  |true=>rw[Ah hb];exact Aj
  |false=>rw[hb]at h;exact Ae _ (zzq h)
def zhr(ops:Array Oper)(m:Nat)(o:Oper)(k:Nat)(pl:Array Bool):Bool:=
 bif Nat.blt k m then(bif ww ops k (Zj ops o) m then(bif ym o then z8d (Region.ready .any ops pl) k else inL (Region.ready .any ops pl) k)else false)else false
def zpb(S:List Nat)(av:AV)(nb:Option (Nat×Ch)):Bool:=match nb with
 |none=>Yt av S
 |some _=>true
def zwx(pl:Array Bool):Nat->Bool
 |0=>true
 |k+1=>bif pl.getD k false then zwx pl k else false
theorem zky{pl:Array Bool}:∀{m:Nat},zwx pl m=true->∀k,k<m->pl.getD k false=true
 |0,_,k,hk=>by omega
 |m+1,h,k,hk=>by
  simp only[zwx]at h
  cases hb:pl.getD m false with
  |false=>rw[hb]at h;cases h
  |true=>
   rw[hb]at h
   rcases A1 k m with h1|h1
   ·exact zky h k h1
   ·have:k=m:=by omega
    subst this;exact hb
def zua(P:Program)(ρ:Operand->Option AV)(o:Oper):Bool:=bif zfo o then(bif isQ P o then(bif we o.op then zhf ρ o.op.operands.toList else false)else false)else false
def zeq(P:Program)(e:qj)(c:zz)(o:Oper):Bool:=match o.op with
 |.pick _ _ _=>true
 |.move _=>true
 |.assign _=>true
 |.extract _ _=>true
 |.alloc _=>false
 |.box _ _=>false
 |.buildSlice _ _ _=>false
 |.call _=>false
 |.load _ _=>false
 |.indexAddr _ _ _=>false
 |_=>zua P (zfp e c) o
theorem zpc{e:qj}(h:zeq P e c o=true):ym o=false:=by
 unfold ym
 split
 ·rename_i c ho;rw[zeq,ho]at h;cases h
 ·rfl
def zdl(P:Program)(o:Oper)(e:qj)(ch:zz)(Kan:AV->Prop):Prop:=
 ∀av,Kan av->∀(n:Nat) (γ:Gh) (a:Act),SatA n e γ a->valid (zo a) ch->∃v,DenV γ av v/\∀w,(execOp a.eval o).run P w=.ok (.value v) w
theorem QExec.all{α:Type}{s:Sem α}{x:α}(H:∀h,QExec P s h x)(w:World):s.run P w=.ok x w:=H w.heap w w.drawn
theorem zzr{e:qj}{K:AV->Prop}(H:z5b P gl o e c cs K)(hp:zeq P e c o=true):∃av,K av/\zdl P o e c (· = av):=by
 unfold z5b at H
 split at H
 ·rename_i x y z ho
  obtain⟨av,h1,h2⟩:=Wg H
  refine⟨av,h1,λZ e' n γ a hs hv=>?_⟩
  obtain⟨t,h3,h4⟩:=h2 n γ a hs hv
  subst e'
  refine⟨_,h4,QExec.all λh B d=>?_⟩
  simp only[execOp,ho,h3,asBool,Sem.run_bind,Sem.run_pure,Result.andThen_ok]
 ·rename_i ah
  split at H
  ·rename_i g hg
   unfold qA at H
   split at H
   ·rename_i b hb
    exact⟨_,H,λZ e' n γ a hs hv=>⟨_,e' ▸ (show DenV γ (.g (.a (.v (.bool b)))) _ from rfl),QExec.all λh=>zo0 hb (λx av hx=>zq hs hv hx) h⟩⟩
   split at H
   ·rename_i b hb
    exact⟨_,H,λZ e' n γ a hs hv=>⟨_,e' ▸ (show DenV γ (.g (.a (.v (.bool b)))) _ from rfl),QExec.all λh=>zkn hb (λx av hx=>zq hs hv hx) h⟩⟩
   split at H
   ·rename_i t b off ab
    exfalso
    unfold z94 at ab
    split at ab
    ·rename_i t' x ho;rw[zeq,ho]at hp;cases hp
    ·cases ab
   split at H
   ·rename_i b off n len z ab
    exfalso
    unfold z96 at ab
    split at ab
    ·rename_i t' x i ho;rw[zeq,ho]at hp;cases hp
    ·cases ab
   unfold qA0 at H
   cases hb:zua P (zfp e c) o with
   |true=>
    unfold zua at hb
    rw[hb]at H
    cases hfam:zfo o with
    |false=>rw[hfam]at hb;cases hb
    |true=>
     cases hq:isQ P o with
     |false=>rw[hfam,hq]at hb;cases hb
     |true=>
      cases hns:we o.op with
      |false=>rw[hfam,hq,hns]at hb;cases hb
      |true=>
       rw[hfam,hq,hns]at hb
       simp only[cond_true]at hb H
       obtain⟨v,h1,h2⟩:=zak hfam H
       refine⟨_,h1,λZ e' n γ a hs hv=>⟨v,e' ▸ Ja γ v,QExec.all λh=>?_⟩⟩
       rw[zop (γ:=γ) (λx av hx=>zq hs hv hx) hns hb]
       exact h2 (xd hs hg hv) h ⟨by simp,λi hi=>absurd hi (by simp)⟩
   |false=>
    have ae:=hb
    unfold zua at ae
    rw[ae]at H
    simp only[cond_false]at H
    unfold zeq at hp
    split at hp
    ·rename_i x y z ho;exact absurd ho (ah x y z)
    ·rename_i x ho
     rw[ho]at H
     simp only at H
     split at H
     ·rename_i av aa
      exact⟨av,H,λZ e' n γ a hs hv=>⟨_,e' ▸ zq hs hv aa,QExec.all λh=>by simp only[execOp,ho];exact QExec.pure _⟩⟩
     ·exact H.elim
    ·rename_i x ho
     rw[ho]at H
     simp only at H
     split at H
     ·rename_i av aa
      exact⟨av,H,λZ e' n γ a hs hv=>⟨_,e' ▸ zq hs hv aa,QExec.all λh=>by simp only[execOp,ho];exact QExec.pure _⟩⟩
     ·exact H.elim
    ·rename_i x i ho
     rw[ho]at H
     simp only at H
     split at H
     ·rename_i l aa
      split at H
      ·rename_i ag af
       refine⟨_,H,λZ e' n γ a hs hv=>?_⟩
       subst e'
       obtain⟨us,e1,h2⟩:=zq hs hv aa
       obtain⟨u,hu,hd⟩:=h2.get af
       refine⟨u,hd,QExec.all λh=>?_⟩
       simp only[execOp,ho,e1]
       refine QExec.val λB d=>?_
       unfold Instr.extract
       simp[hu]
      ·exact H.elim
     ·rename_i b p c aa
      split at H
      ·refine⟨_,H,λZ e' n γ a hs hv=>⟨_,e' ▸ (show DenV γ (.g (.a (.v (.bool b)))) _ from rfl),QExec.all λh=>?_⟩⟩
       obtain⟨e1,e2⟩:=zq hs hv aa
       simp only[execOp,ho]
       refine QExec.val λB d=>?_
       cases b with
       |true=>rw[e1 rfl];rfl
       |false=>rw[e2 rfl];rfl
      ·refine⟨_,H.2,λZ e' n γ a hs hv=>⟨_,e' ▸ (show DenV γ (.g (.a (.v (.int .i64 p)))) _ from rfl),QExec.all λh=>?_⟩⟩
       obtain⟨e1,_⟩:=zq hs hv aa
       simp only[execOp,ho,e1 (H.1.out (xd hs hg hv))]
       exact QExec.val λB d=>rfl
      ·refine⟨_,H.2,λZ e' n γ a hs hv=>⟨_,e' ▸ (show DenV γ (.g (.a (.v (.int .i32 c)))) _ from rfl),QExec.all λh=>?_⟩⟩
       obtain⟨e1,_⟩:=zq hs hv aa
       simp only[execOp,ho,e1 (H.1.out (xd hs hg hv))]
       exact QExec.val λB d=>rfl
      ·exact H.elim
     ·exact H.elim
    ·cases hp
    ·cases hp
    ·cases hp
    ·cases hp
    ·cases hp
    ·cases hp
    ·rw[hb]at hp;cases hp
  ·exact H.elim
theorem zwy{e:qj}{ch:zz}{K:AV->Option (Nat×Ch)->Prop}(H:zzo P gl tr o e ch cs K)(hp:zeq P e ch o=true):
  ∃av,Spec h0 W M0 P o e ch cs none (· = av)/\K av none/\zdl P o e ch (· = av):=by
 have H':z5b P gl o e ch cs λav=>K av none:=by
  unfold zzo at H
  split at H
  ·rename_i t ho;rw[zeq,ho]at hp;cases hp
  ·rename_i t x ho;rw[zeq,ho]at hp;cases hp
  ·rename_i t n ps ho;rw[zeq,ho]at hp;cases hp
  ·rename_i c ho;rw[zeq,ho]at hp;cases hp
  ·exact H
 obtain⟨av,h1,h2⟩:=zzr H' hp
 refine⟨av,⟨λn γ h a Y hs I _ _ _ hv=>?_,λn γ a hs hv=>⟨rfl,rfl,av,rfl⟩,λb hb=>(by cases hb),λhx=>absurd rfl hx⟩,h1,h2⟩
 obtain⟨v,hd,hq⟩:=h2 av rfl n γ a hs hv
 exact λB d=>.inl ⟨v,d,h,hq _,av,γ,rfl,hd,I,Gx.refl _ _⟩
def zzs(ops:Array Oper)(k:Nat)(o:Oper)(j:Nat):Bool:=bif Nat.beq j k then true else bif Region.waitsFor .any ops j k then true else bif Region.waitsFor .any ops k j then true else match ops[j]? with
 |some oj=>o.apart ops oj
 |none=>true
def zr7(ops:Array Oper)(k:Nat)(o:Oper):Nat->Bool
 |0=>true
 |j+1=>bif zzs ops k o j then zr7 ops k o j else false
theorem zkz{ops:Array Oper}{k:Nat}{o:Oper}:∀{n:Nat},zr7 ops k o n=true->∀j oj,j<n->ops[j]?=some oj->j≠k->Region.waitsFor .any ops j k=false->Region.waitsFor .any ops k j=false->o.apart ops oj=true
 |0,_,j,oj,hj,_,_,_,_=>by omega
 |n+1,h,j,oj,hj,ho,h1,h2,h3=>by
  simp only[zr7]at h
  cases hx:zzs ops k o n with
  |false=>rw[hx]at h;cases h
  |true=>
   rw[hx]at h
   rcases A1 j n with Z|Z
   ·exact zkz h j oj Z ho h1 h2 h3
   ·have:j=n:=by omega
    subst this
    have e1:Nat.beq j k=false:=by
     cases hb:Nat.beq j k with
     |false=>rfl
     |true=>exact absurd (Ah hb) h1
    unfold zzs at hx
    rw[e1,h2,h3,ho]at hx
    exact hx
def zzt(P:Program)(ops:Array Oper)(pu:List Nat)(o:Oper)(k:Nat)(e:qj)(ch:zz):Bool:=
 bif memN pu k then(bif zeq P e ch o then zr7 ops k o ops.size else false)else true
def qao(ops:Array Oper)(m k:Nat):Option Nat->Bool
 |none=>true
 |some j=>bif Nat.blt j m then Region.waitsFor .any ops j k else false
def uC(pu:List Nat)(k:Nat):Option (Option Nat):=bif memN pu k then none else z5d pu k
def qap:List It->List It
 |[]=>[]
 |i::l=>(match i.us with
  |some _=>{ i with nb:=none }
  |none=>i)::qap l
def dW(P:Program)(gl:Fr)(tr:TypeId)(n:Nat)(ops:Array Oper)(m:Nat)(pu:List Nat)(e0:qj)(cs:CS)(Kt:List It->Prop):List Nat->Array Bool->List It->Prop
 |[],pl,IL=>bif zwx pl m then Kt (qap IL)else False
 |k::ord,pl,IL=>match ops[k]? with
  |none=>False
  |some o=>bif zhr ops m o k pl then(match Ys ops (W5 (Zj ops o) (itE IL++e0)) o.guard with
   |some ch=>bif qgk ops o ch then(bif qk n ch o.dst then(bif zzt P ops pu o k (W5 (Zj ops o) (itE IL++e0)) ch then(match uC pu k with
    |none=>zzo P gl tr o (W5 (Zj ops o) (itE IL++e0)) ch cs (λav nb=>bif zpb (yd ops m) av nb then dW P gl tr n ops m pu e0 cs Kt ord (pl.setIfInBounds k true) (⟨k,o.dst,ch,av,nb,none⟩::IL)else False)
    |some us=>bif qao ops m k us then(match ch with
     |[]=>qan P tr o k (W5 (Zj ops o) (itE IL++e0)) IL cs us.isSome (λav nb _=>bif zpb (yd ops m) av nb then dW P gl tr n ops m pu e0 cs Kt ord (pl.setIfInBounds k true) (⟨k,o.dst,[],av,nb,us⟩::IL)else False)
     |_=>False)else False)else False)else False)else False
   |none=>False)else False
def strip(listed:Array Bool)(i:It):It:=match i.us with
 |some j=>bif listed.getD j false then { i with nb:=none } else i
 |none=>i
theorem zer(listed:Array Bool)(i:It):(strip listed i).k=i.k/\(strip listed i).dst=i.dst/\(strip listed i).ch=i.ch/\(strip listed i).av=i.av/\(strip listed i).us=i.us/\((strip listed i).nb=i.nb\/(strip listed i).nb=none):=by
 unfold strip
 split
 ·cases listed.getD _ false with
  |true=>exact⟨rfl,rfl,rfl,rfl,rfl,.inr rfl⟩
  |false=>exact⟨rfl,rfl,rfl,rfl,rfl,.inl rfl⟩
 ·exact⟨rfl,rfl,rfl,rfl,rfl,.inl rfl⟩
def zes(k:Nat)(i:It):It:=match i.us with
 |some j=>bif Nat.beq j k then { i with nb:=none } else i
 |none=>i
theorem zub(k:Nat)(i:It):(zes k i).k=i.k/\(zes k i).dst=i.dst/\(zes k i).ch=i.ch/\(zes k i).av=i.av/\(zes k i).us=i.us/\((zes k i).nb=i.nb\/(zes k i).nb=none):=by
 unfold zes
 split
 ·cases Nat.beq _ k with
  |true=>exact⟨rfl,rfl,rfl,rfl,rfl,.inr rfl⟩
  |false=>exact⟨rfl,rfl,rfl,rfl,rfl,.inl rfl⟩
 ·exact⟨rfl,rfl,rfl,rfl,rfl,.inl rfl⟩
def Z6(listed:Array Bool):List It->List It
 |[]=>[]
 |i::l=>bif listed.getD i.k false then strip listed i::Z6 listed l else Z6 listed l
theorem zmc{listed:Array Bool}{i:It}:∀{l:List It},i∈l->listed.getD i.k false=true->strip listed i∈Z6 listed l
 |j::l,h,hl=>by
  simp only[Z6]
  rcases Af.1 h with rfl|h
  ·rw[hl];exact Aj
  ·cases listed.getD j.k false with
   |true=>exact Ae _ (zmc h hl)
   |false=>exact zmc h hl
theorem Wk{listed:Array Bool}{x:It}:∀{l:List It},x∈Z6 listed l->∃i∈l,listed.getD i.k false=true/\x=strip listed i
 |j::l,h=>by
  simp only[Z6]at h
  cases hl:listed.getD j.k false with
  |true=>
   rw[hl]at h
   rcases Af.1 h with rfl|h
   ·exact⟨j,Aj,hl,rfl⟩
   ·obtain⟨i,hi,q⟩:=Wk h
    exact⟨i,Ae _ hi,q⟩
  |false=>
   rw[hl]at h
   obtain⟨i,hi,q⟩:=Wk h
   exact⟨i,Ae _ hi,q⟩
structure ItOK (h0:za) (W:Nat->Prop) (M0:Fr) (P:Program) (n:Nat) (ops:Array Oper) (m:Nat) (pu:List Nat) (e0:qj) (cs:CS) (IL:List It) (it:It) (Kan:AV->Prop):Prop where
 lt:it.k<m
 dst:yn ops it.k=it.dst
 ok:qk n it.ch it.dst=true
 chw:∀x∈it.ch,∀p,p<m->yn ops p=some x.1->Region.waitsFor .any ops it.k p=true
 ex:∃o e eat,ops[it.k]?=some o/\Ys ops e o.guard=some it.ch/\Spec h0 W M0 P o e it.ch cs it.nb Kan eat /\
  (∀x∈e,x∈e0\/(x∈itE IL/\∀p,p<m->yn ops p=some x.1->Region.waitsFor .any ops it.k p=true)) /\
  (memN pu it.k=true->it.nb=none/\zdl P o e it.ch Kan/\zr7 ops it.k o ops.size=true/\ym o=false) /\
  (∀c,eat=some c->∃i∈IL,i.nb=some c/\i.us=some it.k)
 use:∀j,it.us=some j->j<m/\Region.waitsFor .any ops j it.k=true
 men:∀av,Kan av->it.nb=none->Yt av (yd ops m)=true
theorem ItOK.mono{e0:qj}{IL aa:List It}{it:It}{Kan:AV->Prop}(H:ItOK h0 W M0 P n ops m pu e0 cs IL it Kan)(hs:∀i∈IL,i∈aa):ItOK h0 W M0 P n ops m pu e0 cs aa it Kan:=
 {lt:=H.lt,dst:=H.dst,ok:=H.ok,chw:=H.chw,men:=H.men,use:=H.use,ex:=by
   obtain⟨o,e,eat,h1,h2,h3,h4,ab,Z⟩:=H.ex
   refine⟨o,e,eat,h1,h2,h3,λx hx=>(h4 x hx).imp id λ⟨h5,h6⟩=>⟨?_,h6⟩,ab,λc hc=>by
    obtain⟨i,hi,q⟩:=Z c hc
    exact⟨i,hs i hi,q⟩⟩
   obtain⟨i,hi,q⟩:=Xy.1 h5
   exact Xy.2 ⟨i,hs i hi,q⟩ }
theorem Z1{i p:Nat}(hi:i∈Region.ready .any ops listed)(hw:Region.waitsFor .any ops i p=true):listed.getD p false=true:=by
 obtain⟨oj,aa,e,he,hb,ab⟩:=Region.waitsFor_spec hw
 obtain⟨_,o,ho,Z⟩:=mem_ready.1 hi
 have:oj=o:=Au (aa.symm.trans ho)
 subst this
 rw[<-ab];exact Z e he hb
structure Mid (h0:za) (W:Nat->Prop) (M0:Fr) (P:Program) (n:Nat) (ops:Array Oper) (m:Nat) (e0:qj) (cs:CS) (listed:Array Bool) (IL:List It) (γ:Gh) (a:Act) (h:za):Prop where
 sat:SatA n (itE (Z6 listed IL)++e0) γ a
 inv:Inv h0 W M0 (itC (Z6 listed IL)++cs) γ h
theorem Wl{k:Nat}(h:ops[k]?=some o):yn ops k=o.dst:=by simp[yn,h]
theorem zet{m k t:Nat}(hk:k<m)(h:yn ops k=some t):t∈yd ops m:=by
 unfold yn at h
 split at h
 ·rename_i o ho
  unfold yd
  have Z:o∈ops.toList.take m:=by
   rw[List.mem_iff_getElem?]
   exact⟨k,by rw[AL,if_pos hk];simpa using ho⟩
  generalize ops.toList.take m=l at Z
  induction l with
  |nil=>cases Z
  |cons x l ih=>
   simp only[y8]
   rcases Af.1 Z with rfl|Z
   ·rw[h];exact Aj
   ·split
    ·exact Ae _ (ih Z)
    ·exact ih Z
 ·cases h
theorem zhs{x:Nat×Ch}:∀{l:List It},x∈itC l↔∃i∈l,i.nb=some x
 |[]=>by simp[itC]
 |i::l=>by
  simp only[itC]
  split
  ·rename_i b hb
   rw[Af,zhs (l:=l)]
   constructor
   ·rintro(rfl|⟨j,hj,h⟩)
    ·exact⟨i,Aj,hb⟩
    ·exact⟨j,Ae _ hj,h⟩
   ·rintro⟨j,hj,h⟩
    rcases Af.1 hj with rfl|hj
    ·left;rw[hb]at h;exact(Au h).symm
    ·exact .inr ⟨j,hj,h⟩
  ·rename_i hb
   rw[zhs (l:=l)]
   constructor
   ·rintro⟨j,hj,h⟩;exact⟨j,Ae _ hj,h⟩
   ·rintro⟨j,hj,h⟩
    rcases Af.1 hj with rfl|hj
    ·rw[hb]at h;cases h
    ·exact⟨j,hj,h⟩
theorem zuc{c:Nat}:∀{l:CS},(∀x∈l,x.1≠c/\zek c x.2=false)->ql c l=true
 |[],_=>rfl
 |(j,k)::l,h=>by
  obtain⟨h1,h2⟩:=h _ Aj
  simp only[ql]
  have:Nat.beq j c=false:=by
   cases hb:Nat.beq j c with
   |false=>rfl
   |true=>exact absurd (Ah hb) h1
  rw[this,h2]
  exact zuc λx hx=>h x (Ae _ hx)
theorem zk0{e0:qj}(an:wj ops m=true)(a8:∀x∈e0,x.2.1=[]/\x.1∉yd ops m/\Yt x.2.2 (yd ops m)=true)
  {IL:List It} (af:∀i∈IL,∃Kan,ItOK h0 W M0 P n ops m pu e0 cs IL i Kan/\Kan i.av) (aL:∀i∈IL,∀j∈IL,i.k=j.k->i=j) (bg:HeadInv .any ops m listed) (M:Mid h0 W M0 P n ops m e0 cs listed IL γ a h)
  {it:It} {Kan:AV->Prop} (T:ItOK h0 W M0 P n ops m pu e0 cs IL it Kan) (hr:it.k∈Region.ready .any ops listed):
  ∃o e eat,ops[it.k]?=some o/\o.dst=it.dst/\SatA n e γ a/\Ys ops e o.guard=some it.ch/\Spec h0 W M0 P o e it.ch cs it.nb Kan eat/\(memN pu it.k=true->it.nb=none/\zdl P o e it.ch Kan/\zr7 ops it.k o ops.size=true/\ym o=false) /\
   (∀b,it.nb=some b->ql b.1 (itC (Z6 listed IL)++cs)=true) /\
   (∀c,eat=some c->c∈itC (Z6 listed IL)++cs/\∀x∈itC (Z6 listed IL)++cs,x.1=c.1->x.2=c.2)/\(∀d,o.dst=some d->eat≠none->ql d (itC (Z6 listed IL)++cs)=true) /\
   ∀av u γ' h',Kan av->(valid (zo a) it.ch->DenV γ' av u)->(¬valid (zo a) it.ch->u=undef)->Inv h0 W M0 (it.nb.toList++qag eat (itC (Z6 listed IL)++cs)) γ' h'->Gx (it.nb.map (·.1)) γ γ' ->
    ∀L':List It,L'.Perm ({ it with av:=av }::(Z6 listed IL).map (zes it.k))->SatA n (itE L'++e0) γ' (a.put it.dst u)/\Inv h0 W M0 (itC L'++cs) γ' h':=by
 obtain⟨o,e,eat,ho,aY,sp,aV,aO,am⟩:=T.ex
 have ax:o.dst=it.dst:=by rw[<-Wl ho];exact T.dst
 have aH:listed.getD it.k true=false:=(mem_ready.1 hr).1
 have ay:SatA n e γ a:=M.sat.sub λx hx=>by
  rcases aV x hx with h1|⟨h1,h2⟩
  ·exact Ay _ h1
  ·refine Ar _ ?_
   obtain⟨i,hi,q⟩:=Xy.1 h1
   obtain⟨Ki,Ti,_⟩:=af i hi
   have hw:=h2 i.k Ti.lt (by rw[Ti.dst];exact q.1)
   obtain⟨f1,f2,f3,f4,_⟩:=zer listed i
   exact Xy.2 ⟨strip listed i,zmc hi (Z1 hr hw),by rw[f2];exact q.1,by rw[f3];exact q.2.1,by rw[f4];exact q.2.2⟩
 have hw:=xm ay aY
 have aB:∀i∈Z6 listed IL,i.k≠it.k:=by
  intro x hi e
  obtain⟨i,ab,this,rfl⟩:=Wk hi
  rw[(zer listed i).1]at e
  rw[e]at this
  have h2:=getD_both aH
  rw[h2]at this
  cases this
 have aA:∀d,o.dst=some d->ql d cs=true->ql d (itC (Z6 listed IL)++cs)=true:=by
  intro d h2 h1
  refine zuc λx hx=>?_
  rcases Aw.1 hx with hx|hx
  ·obtain⟨i',hi,aa⟩:=zhs.1 hx
   obtain⟨i,ab,au,rfl⟩:=Wk hi
   have ar:=aB _ hi
   obtain⟨f1,_,_,_,_,f6⟩:=zer listed i
   have Z:i.nb=some x:=by
    rcases f6 with f6|f6
    ·rw[<-f6];exact aa
    ·rw[f6]at aa;cases aa
   obtain⟨Ki,Ti,aE⟩:=af i ab
   obtain⟨oi,ei,aM,ai,_,ak,_,_⟩:=Ti.ex
   obtain⟨_,h4,h5⟩:=ak.box x Z
   refine⟨λe=>ar ?_,?_⟩
   ·rw[f1]
    refine qw an i.k it.k d Ti.lt T.lt ?_ (by rw[T.dst,<-ax];exact h2)
    rw[Wl ai,h4,e]
   ·rcases h5 with⟨⟨l,h5,h6⟩,_⟩|⟨⟨e',t',bA,h5⟩,_⟩
    ·rw[h5];exact Qu h6
    ·rw[h5];rfl
  ·obtain⟨e1,e2⟩:=Q0 h1 x hx
   exact⟨λe=>e1 (by rw[e]),e2⟩
 have aZ:∀b,it.nb=some b->ql b.1 (itC (Z6 listed IL)++cs)=true:=by
  intro b hb
  obtain⟨h1,h2,_⟩:=sp.box b hb
  exact aA b.1 h2 h1
 have bn:∀d,o.dst=some d->eat≠none->ql d (itC (Z6 listed IL)++cs)=true:=by
  intro d hd he
  obtain⟨d',bo,hn⟩:=sp.dn he
  have:d'=d:=Au (bo.symm.trans hd)
  subst this
  exact aA d' hd hn
 have aQ:∀c,eat=some c->∀i∈IL,∀b,i.nb=some b->b.1=c.1->i.us=some it.k/\b=c:=by
  intro c hc i hi b hb e1
  obtain⟨i3,ae,q1,q2⟩:=am c hc
  obtain⟨Ki,Ti,_⟩:=af i hi
  obtain⟨K3,T3,_⟩:=af i3 ae
  obtain⟨oi,ei,aM,ai,_,ak,_⟩:=Ti.ex
  obtain⟨o3,e3,ba,a1,_,aC,_⟩:=T3.ex
  obtain⟨_,d1,_⟩:=ak.box b hb
  obtain⟨_,d3,_⟩:=aC.box c q1
  have hk:i.k=i3.k:=qw an i.k i3.k c.1 Ti.lt T3.lt (by rw[Wl ai,d1,e1]) (by rw[Wl a1,d3])
  have:i=i3:=aL i hi i3 ae hk
  subst this
  exact⟨q2,Au (hb.symm.trans q1)⟩
 have aS:∀c,eat=some c->ql c.1 cs=true:=by
  intro c hc
  obtain⟨i3,ae,q1,q2⟩:=am c hc
  obtain⟨K3,T3,_⟩:=af i3 ae
  obtain⟨o3,e3,ba,a1,_,aC,_⟩:=T3.ex
  exact(aC.box c q1).1
 have bj:∀x∈itC (Z6 listed IL),∃i∈IL,i.nb=some x:=by
  intro x hx
  obtain⟨i',hi,aa⟩:=zhs.1 hx
  obtain⟨i,ab,au,rfl⟩:=Wk hi
  rcases(zer listed i).2.2.2.2.2 with f6|f6
  ·exact⟨i,ab,by rw[<-f6];exact aa⟩
  ·rw[f6]at aa;cases aa
 have aJ:∀c,eat=some c->c∈itC (Z6 listed IL)++cs/\∀x∈itC (Z6 listed IL)++cs,x.1=c.1->x.2=c.2:=by
  intro c hc
  refine⟨Ar _ ?_,λx hx e=>?_⟩
  ·obtain⟨i3,ae,q1,q2⟩:=am c hc
   obtain⟨K3,T3,_⟩:=af i3 ae
   have hw:=(T3.use _ q2).2
   have hl:=Z1 hr hw
   refine zhs.2 ⟨strip listed i3,zmc ae hl,?_⟩
   unfold strip
   rw[q2]
   simp only
   rw[getD_both aH]
   exact q1
  ·rcases Aw.1 hx with hx|hx
   ·obtain⟨i,hi,Z⟩:=bj x hx
    rw[(aQ c hc i hi x Z e).2]
   ·exact absurd (by rw[e]) (Q0 (aS c hc) x hx).1
 refine⟨o,e,eat,ho,ax,ay,aY,sp,aO,aZ,aJ,bn,?_⟩
 ·intro av u γ' h' bz hy hn I' g L' hp
  refine⟨?_,?_⟩
  ·refine⟨by rw[qm];exact M.sat.defers,by rw[size_put];exact M.sat.size,λx hx=>?_⟩
   have old:∀x:Nat×zz×AV,x∈itE (Z6 listed IL)++e0->(∀s,it.dst=some s->x.1≠s/\mentions x.2.1 s=false)->zyy zyx (it.nb.map (·.1)) x.2.2=false->zl3 γ' (zo (a.put it.dst u)) x:=by
    intro x hx hs hm
    have hf:=M.sat.all x hx
    cases hd:it.dst with
    |none=>
     exact⟨λhv=>(hf.1 hv).gx g hm,hf.2⟩
    |some s=>
     obtain⟨h1,h2⟩:=hs s hd
     have hv:=Ze (σ:=zo (a.put (some s) u)) (τ:=zo a) h2 (λj hj=>qf hj)
     refine⟨λhc=>?_,λhc=>?_⟩
     ·rw[qf h1];exact(hf.1 (hv.1 hc)).gx g hm
     ·exact(qf h1).trans (hf.2 λaI=>hc (hv.2 aI))
   have aP:∀s,it.dst=some s->s∈yd ops m:=λs hs=>zet T.lt (by rw[T.dst];exact hs)
   have az:∀aG,(Yt aG (yd ops m)=true)->zyy zyx (it.nb.map (·.1)) aG=false:=by
    intro aG h1
    cases Z:it.nb with
    |none=>rfl
    |some b=>
     obtain⟨_,h2,_⟩:=sp.box b Z
     exact zkx h1 b.1 (aP _ (by rw[<-ax];exact h2))
   rcases Aw.1 hx with hx|hx
   ·obtain⟨i,hi,q1,q2,q3⟩:=Xy.1 hx
    rcases Af.1 (hp.subset hi)with rfl|aj
    ·-- the new fact
     simp only at q1 q2 q3
     have aN:x.1<a.tmps.size:=by
      rw[M.sat.size]
      have:=T.ok
      rw[q1]at this
      simp only[qk]at this
      cases hm:mentions it.ch x.1 with
      |true=>rw[hm]at this;cases this
      |false=>rw[hm]at this;simpa[Cu]using this
     have aU:mentions it.ch x.1=false:=by
      have:=T.ok
      rw[q1]at this
      simp only[qk]at this
      cases hm:mentions it.ch x.1 with
      |true=>rw[hm]at this;cases this
      |false=>rfl
     rw[q1]
     have hv:=Ze (σ:=zo (a.put (some x.1) u)) (τ:=zo a) aU (λj hj=>qf hj)
     refine⟨λhc=>?_,λhc=>?_⟩
     ·rw[qt aN,<-q3];rw[<-q2]at hc;exact hy (hv.1 hc)
     ·rw[qt aN];rw[<-q2]at hc;exact hn λaI=>hc (hv.2 aI)
    ·obtain⟨i1,aT,rfl⟩:=Bc.1 aj
     obtain⟨c1,c2,c3,c4,_⟩:=zub it.k i1
     rw[c2]at q1
     rw[c3]at q2
     rw[c4]at q3
     have aj:=aT
     obtain⟨i,ab,au,rfl⟩:=Wk aj
     obtain⟨f1,f2,f3,f4,_⟩:=zer listed i
     have bq:=Xy.2 ⟨strip listed i,aj,q1,q2,q3⟩
     rw[f2]at q1
     rw[f3]at q2
     rw[f4]at q3
     have ar:i.k≠it.k:=by rw[<-f1];exact aB _ aj
     obtain⟨Ki,Ti,aE⟩:=af i ab
     obtain⟨oi,ei,aM,ai,_,ak,_,_⟩:=Ti.ex
     refine old x (Ar _ bq) (λs hs=>⟨λe=>ar ?_,?_⟩) ?_
     ·exact qw an i.k it.k s Ti.lt T.lt (by rw[Ti.dst,q1,e]) (by rw[T.dst];exact hs)
     ·cases hm:mentions x.2.1 s with
      |false=>rfl
      |true=>
       exfalso
       rw[<-q2]at hm
       have:∃y∈i.ch,y.1=s:=by
        have key:∀c:zz,mentions c s=true->∃y∈c,y.1=s:=by
         intro c
         induction c with
         |nil=>intro h;cases h
         |cons y c ih=>
          intro h
          obtain⟨g,p⟩:=y
          simp only[mentions]at h
          cases hb:Nat.beq s g with
          |true=>exact⟨(g,p),Aj,(Ah hb).symm⟩
          |false=>
           rw[hb]at h
           obtain⟨y,hy,e⟩:=ih h
           exact⟨y,Ae _ hy,e⟩
        exact key _ hm
       obtain⟨y,bh,bm⟩:=this
       have a6:=Ti.chw y bh it.k T.lt (by rw[T.dst,hs,bm])
       obtain⟨oj,a7,e',be,bu,br⟩:=Region.waitsFor_spec a6
       have:=bg.closed i.k oj a7 au e' be bu
       rw[br,getD_both aH]at this
       cases this
     ·rw[<-q3]
      cases hnbi:i.nb with
      |none=>exact az _ (Ti.men _ aE hnbi)
      |some bi=>
       obtain⟨_,h4,h5⟩:=ak.box bi hnbi
       have ah:i.av=.g (.a (.box bi.1 0))\/i.av=.g (.a (.own bi.1)):=by
        have:=aE
        rcases h5 with⟨_,h5⟩|⟨_,h5⟩
        ·rw[h5]at this;exact .inl this
        ·rw[h5]at this;exact .inr this
       cases Z:it.nb with
       |none=>rfl
       |some b=>
        obtain⟨_,h2,_⟩:=sp.box b Z
        have:Nat.beq bi.1 b.1=false->zyy zyx (Option.map (λx=>x.fst) (some b)) i.av=false:=λhq=>by
         rcases ah with ah|ah
         ·rw[ah];exact hq
         ·rw[ah];exact hq
        apply this
        cases hb:Nat.beq bi.1 b.1 with
        |false=>rfl
        |true=>
         exfalso
         have:=Ah hb
         exact ar (qw an i.k it.k b.1 Ti.lt T.lt (by rw[Wl ai,h4,this]) (by rw[T.dst,<-ax];exact h2))
   ·obtain⟨b1,b2,b3⟩:=a8 x hx
    exact old x (Ay _ hx) (λs hs=>⟨λe=>b2 (e ▸ aP s hs),by rw[b1];rfl⟩) (az _ b3)
  ·have e1:itC ({ it with av:=av }::(Z6 listed IL).map (zes it.k))=it.nb.toList++itC ((Z6 listed IL).map (zes it.k)):=by
    simp only[itC]
    cases it.nb <;> rfl
   have aF:∀{l l':List It},l.Perm l'->(itC l).Perm (itC l'):=by
    intro l l' hp
    induction hp with
    |nil=>exact .nil
    |cons x p ih=>simp only[itC];split;exact ih.cons _;exact ih
    |swap x y l=>
     simp only[itC]
     split <;> split <;> first|exact .swap _ _ _|exact .refl _
    |trans _ _ i1 i2=>exact i1.trans i2
   have sub:(itC ((Z6 listed IL).map (zes it.k))++cs).Sublist (qag eat (itC (Z6 listed IL)++cs)):=by
    have s0:∀l:List It,(itC (l.map (zes it.k))).Sublist (itC l):=by
     intro l
     induction l with
     |nil=>exact .slnil
     |cons x l ih=>
      simp only[Az,itC]
      rcases(zub it.k x).2.2.2.2.2 with f|f
      ·rw[f]
       split
       ·exact ih.cons_cons _
       ·exact ih
      ·rw[f]
       simp only
       split
       ·exact ih.cons _
       ·exact ih
    cases he:eat with
    |none=>exact(s0 _).append_right cs
    |some c=>
     show(_:CS).Sublist (J9 c.1 (itC (Z6 listed IL)++cs))
     have hd:J9 c.1 (itC (Z6 listed IL)++cs)=J9 c.1 (itC (Z6 listed IL))++cs:=by
      have ha:∀l m:CS,J9 c.1 (l++m)=J9 c.1 l++J9 c.1 m:=by
       intro l m
       induction l with
       |nil=>rfl
       |cons x l ih=>
        simp only[AE,J9]
        cases Nat.beq x.1 c.1 with
        |true=>exact ih
        |false=>simp only[cond_false,ih,AE]
      have hb:∀l:CS,(∀x∈l,x.1≠c.1)->J9 c.1 l=l:=by
       intro l
       induction l with
       |nil=>intro _;rfl
       |cons x l ih=>
        intro hx
        simp only[J9]
        cases hq:Nat.beq x.1 c.1 with
        |true=>exact absurd (Ah hq) (hx x Aj)
        |false=>rw[cond_false,ih λy hy=>hx y (Ae _ hy)]
      rw[ha,hb cs λx hx e=>(Q0 (aS c he) x hx).1 (by rw[e])]
     rw[hd]
     refine List.Sublist.append_right ?_ cs
     have s1:∀l:List It,(∀i∈l,∀b,i.nb=some b->b.1=c.1->i.us=some it.k)->(itC (l.map (zes it.k))).Sublist (J9 c.1 (itC l)):=by
      intro l
      induction l with
      |nil=>intro _;exact .slnil
      |cons x l ih=>
       intro hl
       have ap:=ih λi hi=>hl i (Ae _ hi)
       simp only[Az,itC]
       cases Z:x.nb with
       |none=>
        have:(zes it.k x).nb=none:=by
         rcases(zub it.k x).2.2.2.2.2 with f|f
         ·rw[f,Z]
         ·exact f
        rw[this]
        exact ap
       |some b=>
        simp only[J9]
        cases hq:Nat.beq b.1 c.1 with
        |true=>
         have hu:=hl x Aj b Z (Ah hq)
         have:(zes it.k x).nb=none:=by
          unfold zes
          rw[hu]
          simp
         rw[this,cond_true]
         exact ap
        |false=>
         rw[cond_false]
         rcases(zub it.k x).2.2.2.2.2 with f|f
         ·rw[f,Z];exact ap.cons_cons _
         ·rw[f];exact ap.cons _
     refine s1 _ λx hx b hb e=>?_
     obtain⟨i,ab,au,rfl⟩:=Wk hx
     obtain⟨_,_,_,_,f5,f6⟩:=zer listed i
     rw[f5]
     rcases f6 with f6|f6
     ·exact(aQ c he i ab b (by rw[<-f6];exact hb) e).1
     ·rw[f6]at hb;cases hb
   have I2:Inv h0 W M0 (it.nb.toList++(itC ((Z6 listed IL).map (zes it.k))++cs)) γ' h':=I'.sub (sub.append_left _)
   rw[<-AM,<-e1]at I2
   exact I2.perm ((aF hp.symm).append_right cs)
theorem zpd{e0:qj}{Q:Exit->Act->World->Prop}(am:wj ops m=true)(an:∀x∈e0,x.2.1=[]/\x.1∉yd ops m/\Yt x.2.2 (yd ops m)=true)
  {IL:List It} (ar:∀i∈IL,∃Kan,ItOK h0 W M0 P n ops m pu e0 cs IL i Kan/\Kan i.av) (af:∀i∈IL,∀j∈IL,i.k=j.k->i=j) (au:HeadInv .any ops m listed) (M:Mid h0 W M0 P n ops m e0 cs listed IL γ a h)
  {it:It} {Kan:AV->Prop} (T:ItOK h0 W M0 P n ops m pu e0 cs IL it Kan) (hr:it.k∈Region.ready .any ops listed) {Kp:Act->World->Prop} (B:World) (d:Nat)
  (hK:∀av u γ' h' d',Kan av->(∀L':List It,L'.Perm ({ it with av:=av }::(Z6 listed IL).map (zes it.k))->SatA n (itE L'++e0) γ' (a.put it.dst u)/\Inv h0 W M0 (itC L'++cs) γ' h')->Gx (it.nb.map (·.1)) γ γ'->Kp (a.put it.dst u) (mk B d' h')):
  wpOp P ops Q it.k Kp a (mk B d h):=by
 obtain⟨o,e,eat,ho,ai,Z,ap,sp,ay,aj,ae,ax,fin⟩:=zk0 am an ar af au M T hr
 have hw:=xm Z ap
 unfold wpOp
 rw[ho]
 simp only
 by_cases hv:valid (zo a) it.ch
 ·rw[if_pos (hw.2 hv)]
  left
  have hx:=sp.yes n γ h a (itC (Z6 listed IL)) Z M.inv aj ae ax hv
  refine(ExA.upon hx B d ?_)
  rintro v d' h' ⟨av,γ',g1,g2,g3,g4⟩
  rw[ai]
  exact hK av v γ' h' d' g1 (fin av v γ' h' g1 (λ_=>g2) (λab=>absurd hv ab) g3 g4) g4
 ·rw[if_neg λhx=>hv (hw.1 hx)]
  obtain⟨ak,ah,av,aa⟩:=sp.no n γ a Z hv
  rw[ai]
  have g4:Gx (it.nb.map (·.1)) γ γ:=by rw[ak];exact Gx.refl _ _
  exact hK av undef γ h d aa (fin av undef γ h aa (λab=>absurd ab hv) (λ_=>rfl) (by rw[ak,ah];exact M.inv) g4) g4
theorem zzu{e0:qj}{Q:Exit->Act->World->Prop}(ar:wj ops m=true)(aA:∀x∈e0,x.2.1=[]/\x.1∉yd ops m/\Yt x.2.2 (yd ops m)=true)
  {IL:List It} (aF:∀i∈IL,∃Kan,ItOK h0 W M0 P n ops m pu e0 cs IL i Kan/\Kan i.av) (ai:∀i∈IL,∀j∈IL,i.k=j.k->i=j) (aI:HeadInv .any ops m listed) (M:Mid h0 W M0 P n ops m e0 cs listed IL γ a h)
  {it:It} {Kan:AV->Prop} (T:ItOK h0 W M0 P n ops m pu e0 cs IL it Kan) (ah:Kan it.av) (hr:it.k∈Region.ready .any ops listed) (aE:memN pu it.k=true) (ab:Region.noSelect ops=true) (hQ:∀c a w,¬Q (.panic c) a w) (B:World) (d:Nat) {f:Nat}
  (hK:∀u,(∀L':List It,L'.Perm (it::(Z6 listed IL).map (zes it.k))->SatA n (itE L'++e0) γ (a.put it.dst u)/\Inv h0 W M0 (itC L'++cs) γ h)->Gx (it.nb.map (·.1)) γ γ->wpAny P .any ops Q f (listed.setIfInBounds it.k true) (a.put it.dst u) (mk B d h)):
  wpAny P .any ops Q (f+1) listed a (mk B d h):=by
 obtain⟨o,e,eat,ho,an,aa,aB,sp,ak,aN,aG,aO,fin⟩:=zk0 ar aA aF ai aI M T hr
 obtain⟨am,aL,af,_⟩:=ak aE
 have Z:Inv h0 W M0 (it.nb.toList++qag eat (itC (Z6 listed IL)++cs)) γ h:=by
  rw[am]
  refine M.inv.sub ?_
  cases eat with
  |none=>exact List.Sublist.refl _
  |some c=>exact wu c.1 _
 have hw:=xm aa aB
 have g4:Gx (it.nb.map (·.1)) γ γ:=by rw[am];exact Gx.refl _ _
 have aj:∀j oj,ops[j]?=some oj->j≠it.k->listed.getD j true=false->(∀e∈oj.after,Region.binds .any e=true->e.on≠it.k)->o.apart ops oj=true:=by
  intro j oj hj aM aC ay
  have ax:j<ops.size:=(Ad.1 hj).1
  refine zkz af j oj ax hj aM ?_ ?_
  ·cases hb:Region.waitsFor .any ops j it.k with
   |false=>rfl
   |true=>
    obtain⟨ap,aJ,e',aH,az,au⟩:=Region.waitsFor_spec hb
    have:ap=oj:=Au (aJ.symm.trans hj)
    subst this
    exact absurd au (ay e' aH az)
  ·cases hb:Region.waitsFor .any ops it.k j with
   |false=>rfl
   |true=>
    have:=Z1 hr hb
    rw[getD_both aC]at this;cases this
 by_cases hv:valid (zo a) it.ch
 ·obtain⟨v,hd,hx⟩:=aL it.av ah n γ a aa hv
  refine wpAny_first ho (Region.noSelect_spec ab) (λc a w hq=>absurd hq (hQ c _ w)) f listed a (mk B d h) aj hr (.inl ⟨hw.2 hv,hx⟩) ?_
  rw[an]
  exact hK v (fin it.av v γ h ah (λ_=>hd) (λae=>absurd hv ae) Z g4) g4
 ·refine wpAny_first ho (Region.noSelect_spec ab) (λc a w hq=>absurd hq (hQ c _ w)) f listed a (mk B d h) aj hr (.inr ⟨by simpa using λhx=>hv (hw.1 hx),rfl⟩) ?_
  rw[an]
  exact hK undef (fin it.av undef γ h ah (λae=>absurd ae hv) (λ_=>rfl) Z g4) g4
structure GInv (h0:za) (W:Nat->Prop) (M0:Fr) (P:Program) (n:Nat) (ops:Array Oper) (m:Nat) (pu:List Nat) (e0:qj) (cs:CS) (listed pl:Array Bool) (IL:List It):Prop where
 size:pl.size=ops.size
 mem:∀k,pl.getD k false=true↔∃i∈IL,i.k=k
 dist:IL.Pairwise λi j=>i.k≠j.k
 items:∀i∈IL,∃Kan,ItOK h0 W M0 P n ops m pu e0 cs IL i Kan/\Kan i.av/\(listed.getD i.k false=false->Kan=(· = i.av))
 sub:∀k,listed.getD k false=true->pl.getD k false=true
def zgl(ops:Array Oper):List Nat->Bool
 |[]=>true
 |k::_=>match ops[k]? with
  |some o=>ym o
  |none=>false
theorem getD_lt{k:Nat}(h:k<pl.size):pl.getD k true=pl.getD k false:=by simp[h]
theorem zr8(ax:Fr.le gl M0){e0:qj}{Kt:List It->Prop}{k:Nat}{IL:List It}(H:dW P gl tr n ops m pu e0 cs Kt (k::ord) pl IL):
  ∃o ch nb us Kan,ops[k]?=some o/\zhr ops m o k pl=true/\(∀av,ItOK h0 W M0 P n ops m pu e0 cs IL ⟨k,o.dst,ch,av,nb,us⟩ Kan)/\(∀av,Kan av->dW P gl tr n ops m pu e0 cs Kt ord (pl.setIfInBounds k true) (⟨k,o.dst,ch,av,nb,us⟩::IL))/\(ym o=false->∃av,Kan=(· = av)):=by
 unfold dW at H
 split at H
 ·exact H.elim
 ·rename_i o ho
  cases hst:zhr ops m o k pl with
  |false=>rw[hst]at H;exact H.elim
  |true=>
   rw[hst]at H
   simp only[cond_true]at H
   split at H
   ·rename_i ch ap
    cases hco:qgk ops o ch with
    |false=>rw[hco]at H;exact H.elim
    |true=>
     rw[hco]at H
     cases hok:qk n ch o.dst with
     |false=>rw[hok]at H;exact H.elim
     |true=>
      rw[hok]at H
      simp only[cond_true]at H
      cases hpo:zzt P ops pu o k (W5 (Zj ops o) (itE IL++e0)) ch with
      |false=>rw[hpo]at H;exact H.elim
      |true=>
      rw[hpo]at H
      simp only[cond_true]at H
      have ab:∃nb us eat Kan,Spec h0 W M0 P o (W5 (Zj ops o) (itE IL++e0)) ch cs nb Kan eat/\(∀av,Kan av->(bif zpb (yd ops m) av nb then dW P gl tr n ops m pu e0 cs Kt ord (pl.setIfInBounds k true) (⟨k,o.dst,ch,av,nb,us⟩::IL)else False))/\(ym o=false->∃av,Kan=(· = av)) /\
        (memN pu k=true->nb=none/\zdl P o (W5 (Zj ops o) (itE IL++e0)) ch Kan/\zr7 ops k o ops.size=true/\ym o=false) /\
        (∀c,eat=some c->∃i∈IL,i.nb=some c/\i.us=some k)/\(∀j,us=some j->j<m/\Region.waitsFor .any ops j k=true):=by
       unfold zzt at hpo
       unfold uC at H
       cases hmp:memN pu k with
       |false=>
        rw[hmp,cond_false]at H
        split at H
        ·obtain⟨nb,Kan,h1,h2,h3⟩:=zr5 (h0:=h0) (W:=W) (M0:=M0) ax H
         exact⟨nb,none,none,Kan,h1,h2,h3,λhc=>(by cases hc),λc hc=>(by cases hc),λj hj=>by cases hj⟩
        ·rename_i us az
         cases huo:qao ops m k us with
         |false=>rw[huo]at H;exact H.elim
         |true=>
          rw[huo,cond_true]at H
          split at H
          ·obtain⟨nb,eat,av,h1,h2,h3⟩:=zr6 (h0:=h0) (W:=W) (M0:=M0) H
           refine⟨nb,us,eat,(· = av),h1,λaa e=>e ▸ h2,λ_=>⟨av,rfl⟩,λhc=>(by cases hc),λc hc=>zbz (h3 c hc),λj hj=>?_⟩
           subst hj
           simp only[qao]at huo
           cases hq:Nat.blt j m with
           |false=>rw[hq]at huo;cases huo
           |true=>rw[hq]at huo;exact⟨by simpa[Cu]using hq,huo⟩
          ·exact H.elim
       |true=>
        rw[hmp]at hpo
        simp only[cond_true]at hpo
        rw[hmp,cond_true]at H
        simp only at H
        cases hpb:zeq P (W5 (Zj ops o) (itE IL++e0)) ch o with
        |false=>rw[hpb]at hpo;cases hpo
        |true=>
         rw[hpb]at hpo
         obtain⟨av,h1,h2,h3⟩:=zwy (h0:=h0) (W:=W) (M0:=M0) H hpb
         exact⟨none,none,none,(· = av),h1,λaa e=>e ▸ h2,λ_=>⟨av,rfl⟩,λ_=>⟨rfl,h3,hpo,zpc hpb⟩,λc hc=>(by cases hc),λj hj=>by cases hj⟩
      obtain⟨nb,us,eat,Kan,sp,hK,aj,ah,ae,ak⟩:=ab
      have ai:ww ops k (Zj ops o) m=true:=by
       unfold zhr at hst
       cases h1:Nat.blt k m with
       |false=>rw[h1]at hst;cases hst
       |true=>
        rw[h1]at hst
        cases h2:ww ops k (Zj ops o) m with
        |false=>rw[h2]at hst;cases hst
        |true=>rfl
      have an:k<m:=by
       unfold zhr at hst
       cases h1:Nat.blt k m with
       |false=>rw[h1]at hst;cases hst
       |true=>simpa[Cu]using h1
      have af:∀av,Kan av->zpb (yd ops m) av nb=true/\dW P gl tr n ops m pu e0 cs Kt ord (pl.setIfInBounds k true) (⟨k,o.dst,ch,av,nb,us⟩::IL):=by
       intro av Z
       have:=hK av Z
       cases hio:zpb (yd ops m) av nb with
       |false=>rw[hio]at this;exact this.elim
       |true=>rw[hio]at this;exact⟨rfl,this⟩
      refine⟨o,ch,nb,us,Kan,ho,hst,λav=>⟨an,Wl ho,hok,?_,⟨o,_,eat,ho,ap,sp,λx hx=>?_,ah,ae⟩,ak,λaa Z am=>?_⟩,λav Z=>(af av Z).2,aj⟩
      ·-- the chain's slots
       intro x hx p hp hd
       refine yc ai p x.1 hp hd ?_
       unfold qgk at hco
       split at hco
       ·cases hx
       ·rename_i g q
        have ar:x=(g,q):=by simpa using hx
        subst ar
        split at hco
        ·rename_i j pp ay
         split at hco
         ·rename_i g' au
          have e:=Ah hco
          unfold Zj
          rw[ay]
          simp only[au]
          rw[e]
          exact Ar _ Aj
         ·cases hco
        ·cases hco
       ·cases hco
      ·obtain⟨h1,h2⟩:=Je hx
       rcases Aw.1 h1 with h1|h1
       ·exact .inr ⟨h1,λp hp hd=>yc ai p x.1 hp hd h2⟩
       ·exact .inl h1
      ·have:=(af aa Z).1
       simp only at am
       subst am
       exact this
   ·exact H.elim
theorem zzv{k:Nat}(h:zhr ops m o k pl=true):k∈Region.ready .any ops pl/\(ym o=true->Region.ready .any ops pl=[k]):=by
 unfold zhr at h
 cases h1:Nat.blt k m with
 |false=>rw[h1]at h;cases h
 |true=>
  rw[h1]at h
  cases h2:ww ops k (Zj ops o) m with
  |false=>rw[h2]at h;cases h
  |true=>
   rw[h2]at h
   simp only[cond_true]at h
   cases ha:ym o with
   |false=>rw[ha]at h;exact⟨zzq h,λhc=>by cases hc⟩
   |true=>
    rw[ha]at h
    simp only[cond_true]at h
    have:Region.ready .any ops pl=[k]:=by
     unfold z8d at h
     split at h
     ·rename_i x _ hx;rw[hx,Ah h]
     ·cases h
    exact⟨by rw[this];exact Aj,λ_=>this⟩
theorem zzw{P:Program}{gl:Fr}(aj:Fr.le gl M0){tr:TypeId}{n:Nat}{ops:Array Oper}{m:Nat}{pu:List Nat}{e0:qj}{cs:CS}{Kt:List It->Prop}{listed:Array Bool}:∀{ord:List Nat} {pl:Array Bool} {IL:List It},dW P gl tr n ops m pu e0 cs Kt ord pl IL->GInv h0 W M0 P n ops m pu e0 cs listed pl IL ->
  ∃Z ae new,dW P gl tr n ops m pu e0 cs Kt Z ae (new++IL)/\GInv h0 W M0 P n ops m pu e0 cs listed ae (new++IL)/\zgl ops Z=true/\∀i∈new,listed.getD i.k false=false
 |[],pl,IL,H,G=>⟨[],pl,[],H,G,rfl,λi hi=>by cases hi⟩
 |k::ord,pl,IL,H,G=>by
  obtain⟨o,ch,nb,us,Kan,ho,an,am,hK,ai⟩:=zr8 (h0:=h0) (W:=W) (M0:=M0) aj H
  cases ha:ym o with
  |true=>exact⟨k::ord,pl,[],H,G,by simp[zgl,ho,ha],λi hi=>by cases hi⟩
  |false=>
   obtain⟨av,rfl⟩:=ai ha
   have ak:=(zzv an).1
   have ah:pl.getD k true=false:=(mem_ready.1 ak).1
   have af:k<pl.size:=by
    rcases A1 k pl.size with h|h
    ·exact h
    ·simp[Array.getElem?_eq_none h]at ah
   have aa:pl.getD k false=false:=by rw[<-getD_lt af];exact ah
   have ar:listed.getD k false=false:=by
    cases hb:listed.getD k false with
    |false=>rfl
    |true=>rw[G.sub k hb]at aa;cases aa
   have ap:∀i∈IL,i.k≠k:=λi hi e=>by
    have:=(G.mem k).2 ⟨i,hi,e⟩
    rw[this]at aa;cases aa
   have G':GInv h0 W M0 P n ops m pu e0 cs listed (pl.setIfInBounds k true) (⟨k,o.dst,ch,av,nb,us⟩::IL):=by
    refine⟨by simp[G.size],λj=>?_,BH.2 ⟨λj hj=>(ap j hj).symm,G.dist⟩,λi hi=>?_,λj hj=>?_⟩
    ·by_cases ab:k=j
     ·subst ab
      simp only[Af,exists_eq_or_imp,true_or,iff_true]
      simp[af]
     ·rw[getD_set_ne false ab,G.mem j]
      simp only[Af,exists_eq_or_imp,ab,false_or]
    ·rcases Af.1 hi with rfl|hi
     ·exact⟨(· = av),(am av).mono λi hi=>Ae _ hi,rfl,λ_=>rfl⟩
     ·obtain⟨Ki,h1,h2,h3⟩:=G.items i hi
      exact⟨Ki,h1.mono λi hi=>Ae _ hi,h2,h3⟩
    ·by_cases ab:k=j
     ·subst ab;simp[af]
     ·rw[getD_set_ne false ab];exact G.sub j hj
   obtain⟨Z,ae,new,h1,h2,h3,h4⟩:=zzw aj (hK av rfl) G'
   refine⟨Z,ae,new++[⟨k,o.dst,ch,av,nb,us⟩],by simpa using h1,by simpa using h2,h3,λi hi=>?_⟩
   rcases Aw.1 hi with hi|hi
   ·exact h4 i hi
   ·simp only[A6]at hi;subst hi;exact ar
theorem zpe{k:Nat}(hk:k<listed.size)(aa:listed.getD k false=false)(i:It):strip (listed.setIfInBounds k true) i=zes k (strip listed i):=by
 unfold strip zes
 cases hu:i.us with
 |none=>simp[hu]
 |some j=>
  simp only
  by_cases Z:j=k
  ·subst Z
   have e1:(listed.setIfInBounds j true).getD j false=true:=by simp[hk]
   rw[e1,aa]
   simp[hu]
  ·rw[getD_set_ne false (Ne.symm Z)]
   have hb:Nat.beq j k=false:=by
    cases hq:Nat.beq j k with
    |false=>rfl
    |true=>exact absurd (Ah hq) Z
   cases listed.getD j false with
   |true=>simp[hb]
   |false=>simp[hu,hb]
theorem zr9{listed:Array Bool}{k:Nat}(hk:k<listed.size)(Z:listed.getD k false=false):∀{l:List It},(∀j∈l,k≠j.k)->Z6 (listed.setIfInBounds k true) l=(Z6 listed l).map (zes k)
 |[],_=>rfl
 |j::l,hj=>by
  simp only[Z6]
  rw[getD_set_ne false (hj j Aj),zr9 hk Z λx hx=>hj x (Ae _ hx)]
  cases listed.getD j.k false with
  |true=>simp only[cond_true,Az];rw[zpe hk Z]
  |false=>rfl
theorem zud{it:It}(hu:∀j,it.us=some j->listed.getD j false=false):strip listed it=it:=by
 unfold strip
 split
 ·rename_i j hj;rw[hu j hj];rfl
 ·rfl
theorem zue{listed:Array Bool}{it:It}(hk:it.k<listed.size)(Z:listed.getD it.k false=false)(hu:∀j,it.us=some j->(listed.setIfInBounds it.k true).getD j false=false):∀{IL:List It},IL.Pairwise (λi j=>i.k≠j.k)->it∈IL->(Z6 (listed.setIfInBounds it.k true) IL).Perm (it::(Z6 listed IL).map (zes it.k))
 |[],_,h=>by cases h
 |i::l,hd,h=>by
  rw[BH]at hd
  simp only[Z6]
  rcases Af.1 h with rfl|h
  ·have e1:(listed.setIfInBounds it.k true).getD it.k false=true:=by simp[hk]
   rw[e1,Z,zr9 hk Z hd.1,zud hu]
   exact .refl _
  ·have aa:i.k≠it.k:=hd.1 it h
   rw[getD_set_ne false (Ne.symm aa)]
   have ih:=zue hk Z hu hd.2 h
   cases listed.getD i.k false with
   |true=>
    simp only[cond_true,Az]
    rw[zpe hk Z]
    exact(ih.cons _).trans (.swap _ _ _)
   |false=>exact ih
theorem zmd{listed:Array Bool}{IL:List It}:∀{new:List It},(∀i∈new,listed.getD i.k false=false)->Z6 listed (new++IL)=Z6 listed IL
 |[],_=>rfl
 |i::l,h=>by
  simp only[AE,Z6]
  rw[h i Aj]
  exact zmd λx hx=>h x (Ae _ hx)
theorem zuf{listed:Array Bool}:∀{l:List It},(∀i∈l,listed.getD i.k false=true/\∀j,i.us=some j->listed.getD j false=true)->Z6 listed l=qap l
 |[],_=>rfl
 |i::l,h=>by
  simp only[Z6,qap]
  obtain⟨h1,h2⟩:=h i Aj
  rw[h1,zuf λx hx=>h x (Ae _ hx),cond_true]
  congr 1
  unfold strip
  split
  ·rename_i j hj;rw[h2 j hj];rfl
  ·rfl
theorem GInv.ready_pl{e0:qj}{IL:List It}(G:GInv h0 W M0 P n ops m pu e0 cs listed pl IL)(hi:i∈Region.ready .any ops listed)(hp:pl.getD i false=false):i∈Region.ready .any ops pl:=by
 obtain⟨_,o,ho,Z⟩:=mem_ready.1 hi
 have aa:i<ops.size:=(Ad.1 ho).1
 exact mem_ready.2 ⟨by rw[getD_lt (by rw[G.size];exact aa)];exact hp,o,ho,λe he hb=>G.sub _ (Z e he hb)⟩
theorem zwz(hm:m<=ops.size)(Z:qg ops ops.size=true)(ae:listed.size=ops.size)(aa:∃k,k<m/\listed.getD k false=false):∃k,k<m/\k∈Region.ready .any ops listed:=by
 obtain⟨k,⟨h1,h2⟩,h3⟩:=exists_least aa
 refine⟨k,h1,mem_ready.2 ⟨by rw[getD_lt (by omega)];exact h2,ops[k],A0 (by omega),λe he hb=>?_⟩⟩
 have ab:=qc Z k ops[k] (by omega) (A0 (by omega)) e he hb
 cases hb':listed.getD e.on false with
 |true=>rfl
 |false=>
  have:=h3 e.on ⟨by omega,hb'⟩
  omega
def Wm(N m:Nat):Array Bool:=((Cb N).map λk=>Nat.blt k m).toArray
theorem zsa(hm:m<=ops.size)(inv:HeadInv .any ops m listed)(Z:∀k,k<m->listed.getD k false=true):listed=Wm ops.size m:=by
 refine Array.ext (by simp[Wm,inv.size]) λi h1 h2=>?_
 have hi:i<ops.size:=by rw[<-inv.size];exact h1
 have e:(Wm ops.size m)[i]=Nat.blt i m:=by simp[Wm]
 rw[e]
 rcases A1 i m with h|h
 ·have:=Z i h
  simp only[Array.getD,h1,dite_true]at this
  rw[show Nat.blt i m=true by simpa[Cu]using h]
  exact this
 ·have:=inv.tail i h hi
  simp only[Array.getD,h1,dite_true]at this
  have e2:Nat.blt i m=false:=by
   cases hb:Nat.blt i m with
   |false=>rfl
   |true=>have:=Cu.mp hb;omega
  rw[e2]
  exact this
def zzx(ops:Array Oper)(pu:List Nat)(m i:Nat):Nat->Bool
 |0=>false
 |j+1=>bif (bif Region.waitsFor .any ops j i then(bif Nat.beq j m then true else !(memN pu j))else false)then Nat.blt i j else zzx ops pu m i j
theorem zk1{ops:Array Oper}{pu:List Nat}{m i:Nat}:∀{n:Nat},zzx ops pu m i n=true->∃j,j<n/\i<j/\Region.waitsFor .any ops j i=true/\(j=m\/memN pu j=false)
 |0,h=>by cases h
 |n+1,h=>by
  simp only[zzx]at h
  cases hb:(bif Region.waitsFor .any ops n i then(bif Nat.beq n m then true else !(memN pu n))else false)with
  |false=>
   rw[hb]at h
   obtain⟨j,h1,h2⟩:=zk1 h
   exact⟨j,by omega,h2⟩
  |true=>
   rw[hb]at h
   refine⟨n,by omega,by simpa[Cu]using h,?_⟩
   cases hw:Region.waitsFor .any ops n i with
   |false=>rw[hw]at hb;cases hb
   |true=>
    rw[hw]at hb
    refine⟨rfl,?_⟩
    cases hm:Nat.beq n m with
    |true=>exact .inl (Ah hm)
    |false=>rw[hm]at hb;exact .inr (by simpa using hb)
def zw0(ops:Array Oper)(pu:List Nat)(m:Nat):Nat->Bool
 |0=>true
 |i+1=>bif (bif memN pu i then true else zzx ops pu m i (m+1))then zw0 ops pu m i else false
theorem zk2{ops:Array Oper}{pu:List Nat}{m:Nat}:∀{n:Nat},zw0 ops pu m n=true->∀i,i<n->memN pu i=false->∃j,j<=m/\i<j/\Region.waitsFor .any ops j i=true/\(j=m\/memN pu j=false)
 |0,_,i,hi,_=>by omega
 |n+1,h,i,hi,hp=>by
  simp only[zw0]at h
  cases hb:(bif memN pu n then true else zzx ops pu m n (m+1))with
  |false=>rw[hb]at h;cases h
  |true=>
   rw[hb]at h
   rcases A1 i n with h1|h1
   ·exact zk2 h i h1 hp
   ·have:i=n:=by omega
    subst this
    rw[hp]at hb
    obtain⟨j,a1,a2⟩:=zk1 hb
    exact⟨j,by omega,a2⟩
def zw1(ops:Array Oper)(pu:List Nat)(m:Nat):Bool:=bif Nat.beq m ops.size then true else bif zw0 ops pu m m then Region.chainB .any ops m else false
theorem zsb(hm:m<ops.size)(hs:zw0 ops pu m m=true)(hc:Region.chainB .any ops m=true)(inv:HeadInv .any ops m listed):
  ∀(d i:Nat),m-i=d->i<m->listed.getD i false=false->memN pu i=false->∀t,m<=t->t∉Region.ready .any ops listed:=by
 intro d
 induction d using Dt with
 |_ d ih=>
  intro i hd hi Z ae t ht hr
  obtain⟨_,ot,ah,am⟩:=mem_ready.1 hr
  have ab:t<ops.size:=(Ad.1 ah).1
  by_cases ak:t=m
  ·subst ak
   obtain⟨j,h1,h2,h3,h4⟩:=zk2 hs i hi ae
   by_cases aa:j=t
   ·subst aa
    rw[Z1 hr h3]at Z;cases Z
   ·have aj:memN pu j=false:=h4.resolve_left aa
    cases hl:listed.getD j false with
    |true=>
     obtain⟨oj,af,e,he,hb,ai⟩:=Region.waitsFor_spec h3
     have:=inv.closed j oj af hl e he hb
     rw[ai,Z]at this
     cases this
    |false=>exact ih (t-j) (by omega) j rfl (by omega) hl aj t (Ac _) hr
  ·have h1:=AD.1 hc t (Bw.2 ab)
   simp only[Br,decide_eq_true_eq]at h1
   rcases h1 with h1|h1
   ·omega
   ·have:=Z1 hr h1
    rw[getD_both (inv.tail (t-1) (by omega) (by omega))]at this
    cases this
theorem z5e(hm:m<=ops.size)(he:zw1 ops pu m=true)(inv:HeadInv .any ops m listed)(Z:∃k,k<m/\k∈Region.ready .any ops listed/\memN pu k=false):∀i∈Region.ready .any ops listed,i<m:=by
 intro i hi
 obtain⟨_,o,ho,_⟩:=mem_ready.1 hi
 have aa:i<ops.size:=(Ad.1 ho).1
 rcases A1 i m with h|h
 ·exact h
 ·exfalso
  unfold zw1 at he
  cases hb:Nat.beq m ops.size with
  |true=>have:=Ah hb;omega
  |false=>
   rw[hb]at he
   simp only[cond_false]at he
   cases hs:zw0 ops pu m m with
   |false=>rw[hs]at he;cases he
   |true=>
    rw[hs]at he
    obtain⟨k,h1,h2,h3⟩:=Z
    exact zsb (by omega) hs he inv _ k rfl h1 (getD_both (mem_ready.1 h2).1) h3 i h hi
theorem qgl(hgl:Fr.le gl M0){e0:qj}{Kt:List It->Prop}{Q:Exit->Act->World->Prop}(hm:m<=ops.size)(hnd:wj ops m=true)(hback:qg ops ops.size=true)(hends:zw1 ops pu m=true)(hsel:Region.noSelect ops=true)(hQp:∀c a w,¬Q (.panic c) a w)
    (he0:∀x∈e0,x.2.1=[]/\x.1∉yd ops m/\Yt x.2.2 (yd ops m)=true) (B:World) {g:Nat} {a0:Act} {γ0:Gh}
    (hQ:∀IL γ a d h,SatA n (itE IL++e0) γ a->Inv h0 W M0 (itC IL++cs) γ h->Same (yd ops m) a0 a->GxS (yd ops m) γ0 γ->Kt IL->wpAny P .any ops Q g (Wm ops.size m) a (mk B d h)):
    ∀(N:Nat) (U:List Nat) (listed:Array Bool) (ord:List Nat) (pl:Array Bool) (IL:List It) (γ:Gh) (a:Act) (d:Nat) (h:za),U.length=N->U.Nodup->(∀k,k∈U↔k<m/\listed.getD k false=false)->HeadInv .any ops m listed ->
      dW P gl tr n ops m pu e0 cs Kt ord pl IL->zgl ops ord=true->GInv h0 W M0 P n ops m pu e0 cs listed pl IL->Mid h0 W M0 P n ops m e0 cs listed IL γ a h->Same (yd ops m) a0 a->GxS (yd ops m) γ0 γ ->
      wpAny P .any ops Q (N+g) listed a (mk B d h):=by
  intro N
  induction N with
  |zero=>
    intro U listed ord pl IL γ a d h hU _ hmem inv H hanch G M hsame hgx
    have hUn:U=[]:=A7.1 hU
    subst hUn
    have hall:∀k,k<m->listed.getD k false=true:=λk hk=>by
      cases hb:listed.getD k false with
      |true=>rfl
      |false=>exact absurd ((hmem k).2 ⟨hk,hb⟩) (by simp)
    have hKt:Kt (qap IL):=by
      cases ord with
      |nil=>
        unfold dW at H
        cases hb:zwx pl m with
        |true=>rw[hb]at H;exact H
        |false=>rw[hb]at H;exact H.elim
      |cons k ord=>
        exfalso
        obtain⟨o,ch,nb,us,Kan,ho,hst,hit,_,_⟩:=zr8 (h0:=h0) (W:=W) (M0:=M0) hgl H
        have hk:k<m:=(hit (.g (.a (.v undef)))).lt
        have h1:=(mem_ready.1 (zzv hst).1).1
        rw[getD_lt (by rw[G.size];omega),G.sub k (hall k hk)]at h1
        cases h1
    have hact:Z6 listed IL=qap IL:=zuf λi hi=>by
      obtain⟨Ki,Ti,_⟩:=G.items i hi
      exact⟨hall _ Ti.lt,λj hj=>hall j (Ti.use j hj).1⟩
    have h1:=M.sat
    have h2:=M.inv
    rw[hact]at h1 h2
    rw[AK,zsa hm inv hall]
    exact hQ (qap IL) γ a d h h1 h2 hsame hgx hKt
  |succ N ih=>
    intro U listed ord pl IL γ a d h hU hdup hmem inv H hanch G M hsame hgx
    have hex:∃k,k<m/\listed.getD k false=false:=by
      cases U with
      |nil=>cases hU
      |cons k U=>exact⟨k,(hmem k).1 Aj⟩
    obtain⟨k0,hk0m,hk0⟩:=zwz hm hback inv.size hex
    rw[show N+1+g=(N+g)+1 by omega]
    have gen:∀i,i∈Region.ready .any ops listed->i<m->(memN pu i=true->wpAny P .any ops Q (N+g+1) listed a (mk B d h))/\wpOp P ops Q i (wpAny P .any ops Q (N+g) (listed.setIfInBounds i true)) a (mk B d h):=by
      intro i hi him
      have hun:listed.getD i false=false:=getD_both (mem_ready.1 hi).1
      have hils:i<listed.size:=by rw[inv.size];omega
      have hU':(U.erase i).length=N:=by rw[Dd ((hmem i).2 ⟨him,hun⟩),hU];rfl
      have hdup':(U.erase i).Nodup:=hdup.erase i
      have hmem':∀k,k∈U.erase i↔k<m/\(listed.setIfInBounds i true).getD k false=false:=λk=>by
        rw[hdup.mem_erase_iff,hmem k]
        by_cases hk:i=k
        · subst hk;simp[hils]
        · rw[getD_set_ne false hk];exact⟨λhx=>hx.2,λhx=>⟨λe=>hk e.symm,hx⟩⟩
      have inv':=inv.set hi him
      have toS:∀{it:It} {Kan:AV->Prop},ItOK h0 W M0 P n ops m pu e0 cs IL it Kan->∀{γ':Gh},Gx (it.nb.map (·.1)) γ γ'->GxS (yd ops m) γ γ':=by
        intro it Kan T γ' gx
        refine⟨gx.1,λj hj=>?_⟩
        refine gx.2 j λhc=>hj ?_
        obtain⟨o,e,eat,ho,_,sp,_,_⟩:=T.ex
        cases hnb:it.nb with
        |none=>rw[hnb]at hc;cases hc
        |some b=>
          rw[hnb]at hc
          have:b.1=j:=by simpa using hc
          subst this
          obtain⟨_,h2,_⟩:=sp.box b hnb
          exact zet T.lt (by rw[Wl ho];exact h2)
      have toSame:∀{it:It} {Kan:AV->Prop},ItOK h0 W M0 P n ops m pu e0 cs IL it Kan->∀u,Same (yd ops m) a (a.put it.dst u):=λ {it} {Kan} T u=>
        Same.put a it.dst u λj hj=>zet T.lt (by rw[T.dst];exact hj)
      have hILk:∀x∈IL,∃Kan,ItOK h0 W M0 P n ops m pu e0 cs IL x Kan/\Kan x.av:=λx hx=>by
        obtain⟨Kx,h1,h2,_⟩:=G.items x hx
        exact⟨Kx,h1,h2⟩
      have hdist:∀x∈IL,∀y∈IL,x.k=y.k->x=y:=by
        have key:∀l:List It,l.Pairwise (λi j=>i.k≠j.k)->∀x∈l,∀y∈l,x.k=y.k->x=y:=by
          intro l
          induction l with
          |nil=>intro _ x hx;cases hx
          |cons z l ihl=>
            intro hp x hx y hy e
            rw[BH]at hp
            rcases Af.1 hx with hx1|hx1
            · rcases Af.1 hy with hy1|hy1
              · rw[hx1,hy1]
              · rw[hx1]at e;exact absurd e (hp.1 y hy1)
            · rcases Af.1 hy with hy1|hy1
              · rw[hy1]at e;exact absurd e.symm (hp.1 x hx1)
              · exact ihl hp.2 x hx1 y hy1 e
        exact key IL G.dist
      cases hpl:pl.getD i false with
      |true=>
        obtain⟨it,hit,hik⟩:=(G.mem i).1 hpl
        subst hik
        obtain⟨Kan,T,_,hdet⟩:=G.items it hit
        have fwd:∀u γ' h' d',(∀L':List It,L'.Perm (it::(Z6 listed IL).map (zes it.k))->SatA n (itE L'++e0) γ' (a.put it.dst u)/\Inv h0 W M0 (itC L'++cs) γ' h')->Gx (it.nb.map (·.1)) γ γ'->wpAny P .any ops Q (N+g) (listed.setIfInBounds it.k true) (a.put it.dst u) (mk B d' h'):=by
         intro u γ' h' d' hst hgx'
         have huse:∀j,it.us=some j->(listed.setIfInBounds it.k true).getD j false=false:=by
           intro j hj
           have hw:=(T.use j hj).2
           obtain⟨oj,hoj,e,he,hb,hon⟩:=Region.waitsFor_spec hw
           have hjk:it.k≠j:=λe'=>by
             have:=qc hback j oj (Ad.1 hoj).1 hoj e he hb
             omega
           rw[getD_set_ne false hjk]
           cases hl:listed.getD j false with
           |false=>rfl
           |true=>
             have:=inv.closed j oj hoj hl e he hb
             rw[hon,hun]at this;cases this
         obtain⟨s1,s2⟩:=hst _ (zue hils hun huse G.dist hit)
         refine ih _ _ ord pl IL γ' _ d' h' hU' hdup' hmem' inv' H hanch ⟨G.size,G.mem,G.dist,λx hx=>?_,λk hk=>?_⟩ ⟨s1,s2⟩ (hsame.trans (toSame T u)) (hgx.trans (toS T hgx'))
         · obtain⟨Kx,h1,h2,h3⟩:=G.items x hx
           refine⟨Kx,h1,h2,λhf=>h3 ?_⟩
           by_cases hk:it.k=x.k
           · rw[<-hk];exact hun
           · rw[getD_set_ne false hk]at hf;exact hf
         · by_cases hk':it.k=k
           · subst hk';exact hpl
           · rw[getD_set_ne false hk']at hk;exact G.sub k hk
        have hK0:Kan it.av:=by rw[hdet hun]
        refine⟨λhp=>zzu hnd he0 hILk hdist inv M T hK0 hi hp hsel hQp B d λu hst hgx'=>fwd u γ h d hst hgx',zpd hnd he0 hILk hdist inv M T hi B d λav u γ' h' d' hav hst hgx'=>?_⟩
        have hav':av=it.av:=by rw[hdet hun]at hav;exact hav
        subst hav'
        exact fwd u γ' h' d' hst hgx'
      |false=>
        have hrp:=G.ready_pl hi hpl
        cases ord with
        |nil=>
          exfalso
          unfold dW at H
          cases hb:zwx pl m with
          |true=>rw[zky hb i him]at hpl;cases hpl
          |false=>rw[hb]at H;exact H
        |cons k ord=>
          obtain⟨o,ch,nb,us,Kan,ho,hst,hit,hK,_⟩:=zr8 (h0:=h0) (W:=W) (M0:=M0) hgl H
          have hanc:ym o=true:=by simpa[zgl,ho]using hanch
          have hrk:=(zzv hst).2 hanc
          rw[hrk]at hrp
          have hik:i=k:=by simpa using hrp
          subst hik
          refine⟨λhp=>?_,zpd hnd he0 hILk hdist inv M (hit (.g (.a (.v undef)))) hi B d λav u γ' h' d' hav hst' hgx'=>?_⟩
          · obtain⟨o',_,_,ho',_,_,_,hpp,_⟩:=(hit (.g (.a (.v undef)))).ex
            have:=(hpp hp).2.2.2
            have e':o'=o:=Au (ho'.symm.trans ho)
            rw[e',hanc]at this;cases this
          have hne:∀j∈IL,i≠j.k:=λj hj e=>by
            have:=(G.mem i).2 ⟨j,hj,e.symm⟩
            rw[hpl]at this;cases this
          have hips:i<pl.size:=by rw[G.size,<-inv.size];exact hils
          have G':GInv h0 W M0 P n ops m pu e0 cs (listed.setIfInBounds i true) (pl.setIfInBounds i true) (⟨i,o.dst,ch,av,nb,us⟩::IL):=by
            refine⟨by simp[G.size],λj=>?_,BH.2 ⟨λj hj=>hne j hj,G.dist⟩,λx hx=>?_,λj hj=>?_⟩
            · by_cases hjk:i=j
              · subst hjk
                simp only[Af,exists_eq_or_imp,true_or,iff_true]
                simp[hips]
              · rw[getD_set_ne false hjk,G.mem j]
                simp only[Af,exists_eq_or_imp,hjk,false_or]
            · rcases Af.1 hx with rfl|hx
              · exact⟨Kan,(hit av).mono λx hx=>Ae _ hx,hav,λhf=>by simp[hils]at hf⟩
              · obtain⟨Kx,h1,h2,h3⟩:=G.items x hx
                refine⟨Kx,h1.mono λx hx=>Ae _ hx,h2,λhf=>h3 ?_⟩
                rw[getD_set_ne false (hne x hx)]at hf;exact hf
            · by_cases hjk:i=j
              · subst hjk;simp[hips]
              · rw[getD_set_ne false hjk]at hj ⊢;exact G.sub j hj
          obtain⟨ord',pl',new,h1,h2,h3,h4⟩:=zzw hgl (hK av hav) G'
          have hact:Z6 (listed.setIfInBounds i true) (new++⟨i,o.dst,ch,av,nb,us⟩::IL)=⟨i,o.dst,ch,av,nb,us⟩::(Z6 listed IL).map (zes i):=by
            rw[zmd h4]
            simp only[Z6]
            rw[show(listed.setIfInBounds i true).getD i false=true by simp[hils],zr9 hils hun hne,cond_true,zud ?_]
            intro j hj
            have hw:=((hit av).use j hj).2
            obtain⟨oj,hoj,e,he,hb,hon⟩:=Region.waitsFor_spec hw
            have hon:e.on=i:=hon
            have hjk:i≠j:=λe'=>by
              have:=qc hback j oj (Ad.1 hoj).1 hoj e he hb
              omega
            rw[getD_set_ne false hjk]
            cases hl:listed.getD j false with
            |false=>rfl
            |true=>
              have:=inv.closed j oj hoj hl e he hb
              rw[hon,hun]at this;cases this
          obtain⟨s1,s2⟩:=hst' (⟨i,o.dst,ch,av,nb,us⟩::(Z6 listed IL).map (zes i)) (.refl _)
          exact ih _ _ ord' pl' _ γ' _ d' h' hU' hdup' hmem' inv' h1 h3 h2 ⟨by rw[hact];exact s1,by rw[hact];exact s2⟩ (hsame.trans (toSame (hit av) u)) (hgx.trans (toS (hit av) hgx'))
    by_cases hpe:∃i,i∈Region.ready .any ops listed/\i<m/\memN pu i=true
    · obtain⟨i,hi,him,hp⟩:=hpe
      exact(gen i hi him).1 hp
    · refine⟨λhc=>(by rw[hc]at hk0;cases hk0),λi hi=>(gen i hi (z5e hm hends inv ⟨k0,hk0m,hk0,?_⟩ i hi)).2⟩
      cases hb:memN pu k0 with
      |false=>rfl
      |true=>exact absurd ⟨k0,hk0,hk0m,hb⟩ hpe
def qaq(ops:Array Oper)(m:Nat)(pu:List Nat):Bool:=
 bif Nat.ble m ops.size then(bif wj ops m then(bif qg ops ops.size then(bif zw1 ops pu m then(bif Region.noSelect ops then Region.seqB .any ops (ops.size-m) m (Wm ops.size m)else false)else false)else false)else false)else false
def qar(P:Program)(gl:Fr)(tr:TypeId)(n:Nat)(ops:Array Oper)(m:Nat)(ord pu:List Nat)(R:CS)(K:qj->CS->Prop)(e:qj)(C:CS):Prop:=
 bif qaq ops m pu then dW P gl tr n ops m pu (zfr (yd ops m) e) (C++R) (λIL=>wRA P gl tr n ops R K (ops.toList.drop m) (itE IL++zfr (yd ops m) e) (itC IL++C)) ord (Bn ops.size false) []else False
theorem zsc(hm:P.follows .mixedOrders=true)(ah:Fr.le gl M0){K:qj->CS->Prop}{e:qj}
  (H:qar P gl tr n ops m ord pu R K e C) (B:World) (d:Nat) (hs:SatA n e γ a) (I:Inv h0 W M0 (C++R) γ h) {Q:Exit->Act->World->Prop}
  (hQ:∀e' C' γ' a' d' h',SatA n e' γ' a'->Inv h0 W M0 (C'++R) γ' h'->Same (y8 ops.toList) a a'->GxS (y8 ops.toList) γ γ'->K e' C'->Q .normal a' (mk B d' h')):(Eo id ops true).wp P Q a (mk B d h):=by
 unfold qar at H
 cases hB:qaq ops m pu with
 |false=>rw[hB]at H;exact H.elim
 |true=>
  rw[hB]at H
  simp only[cond_true]at H
  have aE:m<=ops.size/\wj ops m=true/\qg ops ops.size=true/\zw1 ops pu m=true/\Region.noSelect ops=true/\Region.seqB .any ops (ops.size-m) m (Wm ops.size m)=true:=by
   unfold qaq at hB
   cases h1:Nat.ble m ops.size with
   |false=>rw[h1]at hB;cases hB
   |true=>
    rw[h1]at hB
    cases h2:wj ops m with
    |false=>rw[h2]at hB;cases hB
    |true=>
     rw[h2]at hB
     cases h3:qg ops ops.size with
     |false=>rw[h3]at hB;cases hB
     |true=>
      rw[h3]at hB
      cases h4:zw1 ops pu m with
      |false=>rw[h4]at hB;cases hB
      |true=>
       rw[h4]at hB
       cases h5:Region.noSelect ops with
       |false=>rw[h5]at hB;cases hB
       |true=>
        rw[h5]at hB
        exact⟨BR h1,rfl,rfl,rfl,rfl,hB⟩
  obtain⟨aG,ap,af,ae,an,ai⟩:=aE
  have Z:y8 ops.toList=y8 (ops.toList.take m)++y8 (ops.toList.drop m):=by rw[<-Zn,BQ]
  have au:∀x∈zfr (yd ops m) e,x.2.1=[]/\x.1∉yd ops m/\Yt x.2.2 (yd ops m)=true:=λx hx=>(wm hx).2
  have am:HeadInv .any ops m (Bn ops.size false):=
   ⟨by simp,λj oj _ hl=>(by rw[getD_replicate_false]at hl;cases hl),λt _ ht=>getD_in (by simpa using ht) (getD_replicate_false _ _)⟩
  have G0:GInv h0 W M0 P n ops m pu (zfr (yd ops m) e) (C++R) (Bn ops.size false) (Bn ops.size false) []:=
   ⟨by simp,λk=>by rw[getD_replicate_false];simp,List.Pairwise.nil,λi hi=>(by cases hi),λk hk=>hk⟩
  obtain⟨aj,aF,new,h1,h2,h3,h4⟩:=zzw ah H G0
  have aa:Z6 (Bn ops.size false) (new++[])=[]:=by rw[zmd h4];rfl
  have ak:SatA n (zfr (yd ops m) e) γ a:=hs.sub λx hx=>(wm hx).1
  let Qn:Exit->Act->World->Prop:=λx a w=>x=.normal/\Q .normal a w
  refine wp_mono (Q':=Q) (Q:=Qn) ?_ (λx a w hq=>by obtain⟨rfl,h⟩:=hq;exact h)
  refine wp_region_any hm ?_
  have ar:ops.size=m+(ops.size-m):=by omega
  have key:=qgl (n:=n) (Q:=Qn) (pu:=pu) ah aG ap af ae an (λc a w hq=>by cases hq.1) au B (g:=ops.size-m) (a0:=a) (γ0:=γ) (Kt:=λIL=>wRA P gl tr n ops R K (ops.toList.drop m) (itE IL++zfr (yd ops m) e) (itC IL++C)) (λIL γ' a' d' h' s1 s2 s3 s4 s5=>?_) m (Cb m) (Bn ops.size false) aj aF (new++[]) γ a (d+1) h List.length_range DO (λk=>by rw[Bw,getD_replicate_false];simp) am h1 h3 h2 ⟨by rw[aa];exact ak,by rw[aa];exact I⟩ (Same.refl _ _) (GxS.refl _ _)
  ·rw[<-ar]at key
   exact key
  ·have ab:(ops.toList.drop m).length=ops.size-m:=by simp
   rw[<-ab]
   refine wpAny_of_seq (md:=.any) (ops.toList.drop m) m _ a' _ (λj=>by simp[AQ]) (by rw[ab];exact ai) ?_
   refine zdh ah B _ _ _ _ _ _ d' s5 s1 (by rw[AM];exact s2) λaB ay ax aC az aA q4 q5 q6 q7 q8=>⟨rfl,hQ aB ay ax aC az aA q4 q5 ?_ ?_ q8⟩
   ·rw[Z]
    exact(s3.mono λx hx=>Ar _ hx).trans (q6.mono λx hx=>Ay _ hx)
   ·rw[Z]
    exact(s4.mono λx hx=>Ar _ hx).trans (q7.mono λx hx=>Ay _ hx)
abbrev z5f:=List (Nat×Nat×List Nat×List Nat×List Nat)
def z8e:z5f->Nat->Option (Nat×List Nat×List Nat×List Nat)
 |[],_=>none
 |(j,x)::l,i=>bif Nat.beq i j then some x else z8e l i
def zsd(P:Program)(gl:Fr)(tr:TypeId)(n:Nat)(tl:zzm)(dl:z5f)(id:Nat)(ops:Array Oper)(Z:Bool)(R:CS)(K:qj->CS->Prop)(e:qj)(C:CS):Prop:=
 match z8e dl id with
 |none=>zr4 P gl tr n tl id ops Z R K e C
 |some (m,fz,ord,pu)=>bif Z then qar P gl tr n ops m ord pu R K e (frzL fz C)else False
theorem zme(hm:P.follows .mixedOrders=true)(aa:Fr.le gl M0){tl:zzm}{dl:z5f}{Z:Bool}{K:qj->CS->Prop}{e:qj}
  (H:zsd P gl tr n tl dl id ops Z R K e C) (B:World) (d:Nat) (hs:SatA n e γ a) (I:Inv h0 W M0 (C++R) γ h) {Q:Exit->Act->World->Prop}
  (hQ:∀e' C' γ' a' d' h',SatA n e' γ' a'->Inv h0 W M0 (C'++R) γ' h'->Same (y8 ops.toList) a a'->GxS (y8 ops.toList) γ γ'->K e' C'->Q .normal a' (mk B d' h')):(Eo id ops Z).wp P Q a (mk B d h):=by
 unfold zsd at H
 split at H
 ·exact zmb hm aa H B d hs I hQ
 ·rename_i m fz ord pu _
  cases Z with
  |false=>exact H.elim
  |true=>
   obtain⟨γ1,I1,g1⟩:=Inv.frzL (C:=C) (γ:=γ) fz I
   refine zsc hm aa H B d (hs.gx g1) I1 λe' C' γ' a' d' h' q1 q2 q3 q4 q5=>hQ e' C' γ' a' d' h' q1 q2 q3 (GxS.trans ⟨g1.1,λi _=>g1.2 i (by simp)⟩ q4) q5
end
section
variable {S:List Nat} {γ γ':Gh} {u:Value} {C R:CS} {h:za} {n:Nat} {a:Act} {P:Program} {f:FuncId}
variable {h0 : za} {W : Nat -> Prop} {M0 : Fr}
structure PlanA where
 tails:zzm
 draws:z5f
 loops:List (Nat×AnnA)
 joins:List (Nat×AnnA)
def qdp:List (Nat×AnnA)->Option Nat->Option AnnA
 |[],_=>none
 |(j,m)::l,some i=>bif Nat.beq i j then some m else qdp l (some i)
 |_,none=>none
def qcs:AA->List Nat
 |.box j _=>[j]
 |.own j=>[j]
 |.oelt j _ _ _=>[j]
 |_=>[]
def zzy(S:List Nat):List AA->Bool
 |[]=>true
 |x::l=>bif (match qcs x with
  |[]=>true
  |j::_=>!(memN S j))then zzy S l else false
def z5g(S:List Nat):AG->Bool
 |.a x=>zzy S [x]
 |.agg l=>zzy S l
def zug(S:List Nat):List AG->Bool
 |[]=>true
 |x::l=>bif z5g S x then zug S l else false
def qas(S:List Nat):AV->Bool
 |.g x=>z5g S x
 |.tup l=>zug S l
 |.nx _ _ _=>true
theorem DenA.gxS(g:GxS S γ γ'){x:AA}(hm:(match qcs x with
  |[]=>true
  |j::_=>!(memN S j))=true)(h:DenA γ x u):DenA γ' x u:=by
 have key:∀j,memN S j=false->γ'.β j=γ.β j/\γ'.σ j=γ.σ j:=λj hj=>g.2 j (Zi hj)
 cases x with
 |v y=>exact h
 |d t y=>exact Rd.mono g.1 h
 |box j o=>rw[show u=_ from h];simp only[DenA,(key j (by simpa[qcs]using hm)).1]
 |own j=>rw[show u=_ from h];simp only[DenA,(key j (by simpa[qcs]using hm)).2]
 |oelt j z i o=>obtain⟨b,e1,e2⟩:=h;exact⟨b,by rw[(key j (by simpa[qcs]using hm)).2];exact e1,e2⟩
 |elt t y o=>obtain⟨b,f,cs,e,h1,h2⟩:=h;exact⟨b,f,cs,e,g.1 _ _ h1,Rd.mono g.1 h2⟩
 |dc t xs=>obtain⟨s,e1,e2,h⟩:=h;exact⟨s,e1,e2,Rd.mono g.1 h⟩
theorem DenL.gxS{S:List Nat}{γ γ':Gh}(g:GxS S γ γ'):∀{l:List AA} {us:List Value},zzy S l=true->All2 (DenA γ) l us->All2 (DenA γ') l us
 |[],[],_,_=>trivial
 |[],_::_,_,h=>h.elim
 |_::_,[],_,h=>h.elim
 |x::l,u::us,hm,h=>by
  simp only[zzy]at hm
  cases hx:(match qcs x with
   |[]=>true
   |j::_=>!(memN S j))with
  |false=>rw[hx]at hm;cases hm
  |true=>rw[hx]at hm;exact⟨DenA.gxS g hx h.1,DenL.gxS g hm h.2⟩
theorem DenG.gxS(g:GxS S γ γ'){x:AG}(hm:z5g S x=true)(h:DenG γ x u):DenG γ' x u:=by
 cases x with
 |a x=>
  have:All2 (DenA γ') [x] [u]:=DenL.gxS g hm (show All2 (DenA γ) [x] [u]from⟨h,trivial⟩)
  exact this.1
 |agg l=>obtain⟨us,e,h⟩:=h;exact⟨us,e,DenL.gxS g hm h⟩
theorem DenV.gxS(g:GxS S γ γ'){x:AV}(hm:qas S x=true)(h:DenV γ x u):DenV γ' x u:=by
 cases x with
 |g x=>exact DenG.gxS g hm h
 |tup l=>
  obtain⟨us,e,h⟩:=h
  refine⟨us,e,?_⟩
  have:∀{l:List AG} {us:List Value},zug S l=true->All2 (DenG γ) l us->All2 (DenG γ') l us:=by
   intro l
   induction l with
   |nil=>intro us _ h;cases us with
    |nil=>trivial
    |cons _ _=>exact h.elim
   |cons x l ih=>
    intro us hm h
    cases us with
    |nil=>exact h.elim
    |cons u us=>
     simp only[zug]at hm
     cases hx:z5g S x with
     |false=>rw[hx]at hm;cases hm
     |true=>rw[hx]at hm;exact⟨DenG.gxS g hx h.1,ih hm h.2⟩
  exact this hm h
 |nx b p c=>exact h
def zht(ms S:List Nat):qj->qj
 |[]=>[]
 |(i,[],v)::e=>bif memN ms i then zht ms S e else(bif qas S v then(i,[],v)::zht ms S e else zht ms S e)
 |(_,_::_,_)::e=>zht ms S e
theorem Wn{ms S:List Nat}{γ γ1:Gh}{a a1:Act}(g:GxS S γ γ1)(Z:Same ms a a1):∀{e:qj},(∀x∈e,zl3 γ (zo a) x)->∀x∈zht ms S e,zl3 γ1 (zo a1) x
 |[],_,x,hx=>by cases hx
 |(i,[],v)::e,h,x,hx=>by
  have ih:=Wn g Z (e:=e) λx hx=>h x (Ae _ hx)
  simp only[zht]at hx
  cases hm:memN ms i with
  |true=>rw[hm]at hx;exact ih x hx
  |false=>
   rw[hm]at hx
   simp only[cond_false]at hx
   cases hn:qas S v with
   |false=>rw[hn]at hx;exact ih x hx
   |true=>
    rw[hn]at hx
    rcases Af.1 hx with rfl|hx
    ·refine⟨λ_=>?_,λaa=>absurd trivial aa⟩
     have:=(h _ Aj).1 trivial
     simp only at this ⊢
     rw[Z _ (Zi hm)]
     exact this.gxS g hn
    ·exact ih x hx
 |(_,_::_,_)::e,h,x,hx=>Wn g Z (e:=e) (λx hx=>h x (Ae _ hx)) x hx
def inC(ro:List Nat):CS->CS
 |[]=>[]
 |(c,k)::l=>bif memN ro c then(c,k)::inC ro l else inC ro l
def qat(ro:List Nat):CS->CS
 |[]=>[]
 |(c,k)::l=>bif memN ro c then qat ro l else(c,k)::qat ro l
theorem zk3(ro:List Nat):∀C:CS,(qat ro C++inC ro C).Perm C
 |[]=>.nil
 |(c,k)::l=>by
  have ih:=zk3 ro l
  simp only[inC,qat]
  cases memN ro c with
  |true=>exact List.perm_middle.trans (ih.cons _)
  |false=>exact ih.cons _
theorem Inv.part(I:Inv h0 W M0 (C++R) γ h)(ro:List Nat):Inv h0 W M0 (qat ro C++(inC ro C++R)) γ h:=by
 rw[<-AM]
 exact I.perm ((zk3 ro C).symm.append_right R)
abbrev zbc:=Exit->qj->CS->Prop
def qdq(K:qj->CS->Prop)(Q:zbc):zbc
 |.normal,e,C=>K e C
 |x,e,C=>Q x e C
def zzz(id:Nat)(Q:zbc):zbc
 |.exit i,e,C=>bif Nat.beq i id then Q .normal e C else Q (.exit i) e C
 |x,e,C=>Q x e C
def z8f(m:CS)(K:qj->CS->Prop)(Q:zbc):zbc
 |.normal,e,C=>K e C
 |x,e,C=>Q x e (C++m)
def zd7(pl:PlanA):Code->List Nat
 |.region _ ops _=>y8 ops.toList
 |.seq a b=>zd7 pl a++(zd7 pl b++(match qdp pl.joins (jr b)with
  |some J=>J.ids
  |none=>[]))
 |.cond _ a b=>zd7 pl a++zd7 pl b
 |.block _ b=>zd7 pl b
 |.loop b=>zd7 pl b++(match qdp pl.loops (jr b)with
  |some J=>J.ids
  |none=>[])
 |_=>[]
def atA{X:Type}(J:AnnA)(R:CS)(F:zwp (zbw J) X)(e:qj)(C:CS)(k:X->Prop):Prop:=
 match xtr J R e C with
 |some ds=>match zfq (zbw J) ds F with
  |some q=>k q
  |none=>False
 |none=>False
theorem zse{X:Type}{J:AnnA}{F:zwp (zbw J) X}{e:qj}{k:X->Prop}(h:atA J R F e C k):∃ds q,xtr J R e C=some ds/\zfq (zbw J) ds F=some q/\k q:=by
 unfold atA at h
 split at h
 ·rename_i ds hd
  split at h
  ·rename_i q hq;exact⟨ds,q,hd,hq,h⟩
  ·exact h.elim
 ·exact h.elim
def WA(P:Program)(gl:Fr)(tr:TypeId)(n:Nat)(pl:PlanA):Code->CS->zbc->qj->CS->Prop
 |.skip,_,Q,e,C=>Q .normal e C
 |.ret,_,Q,e,C=>Q .ret e C
 |.exit id,_,Q,e,C=>Q (.exit id) e C
 |.label _,_,Q,e,C=>Q .normal e C
 |.goto l,_,Q,e,C=>Q (.goto l) e C
 |.region id ops draw,R,Q,e,C=>zsd P gl tr n pl.tails pl.draws id ops draw R (λe C=>Q .normal e C) e C
 |.seq x y,R,Q,e,C=>match qdp pl.joins (jr y)with
  |none=>WA P gl tr n pl x R (qdq (λe C=>WA P gl tr n pl y R Q e C) Q) e C
  |some J=>∀K:zwp (zbw J) Prop,zzj (zbw J) K (λds q=>WA P gl tr n pl y R Q (z8c J ds++zht (Qg x) (J.ids++zd7 pl x) e) (chJ J ds++inC J.ro C)->q) ->
    WA P gl tr n pl x (inC J.ro C++R) (z8f (inC J.ro C) (λe1 C1=>atA J (inC J.ro C++R) K e1 C1 λq=>q) Q) e (qat J.ro C)
 |.cond c x y,R,Q,e,C=>match zfp e [] c with
  |some v=>match zwj v with
   |some b=>(b=true->WA P gl tr n pl x R Q e C)/\(b=false->WA P gl tr n pl y R Q e C)
   |none=>False
  |none=>False
 |.block id x,R,Q,e,C=>WA P gl tr n pl x R (zzz id Q) e C
 |.loop x,R,Q,e,C=>match qdp pl.loops (jr x)with
  |some J=>∃(I:zwp (zbw J) Prop) (μ:zwp (zbw J) Nat),atA J (inC J.ro C++R) (zo3 (zbw J) I μ) e (qat J.ro C) (λp=>p.1) /\
    zzj (zbw J) (zo3 (zbw J) I μ) λds p=>p.1->WA P gl tr n pl x (inC J.ro C++R) (z8f (inC J.ro C) (λe1 C1=>atA J (inC J.ro C++R) (zo3 (zbw J) I μ) e1 C1 λq=>q.1/\q.2<p.2) Q)
     (z8c J ds++zht (Qg x) (J.ids++zd7 pl x) e) (chJ J ds)
  |none=>False
 |_,_,_,_,_=>False
def qdr(h0:za)(W:Nat->Prop)(M0:Fr)(n:Nat)(B:World)(ms S:List Nat)(a0:Act)(γ0:Gh)(R:CS)(Q:zbc):Exit->Act->World->Prop:=
 λx a w=>∃e C γ d h,w=mk B d h/\SatA n e γ a/\Inv h0 W M0 (C++R) γ h/\Same ms a0 a/\GxS S γ0 γ/\Q x e C
theorem zw2{e:qj}{γ0 γ γ1:Gh}{a a1:Act}(hs:SatA n e γ0 a){ms S ids:List Nat}(hd:a1.defers=[])(hz:a1.tmps.size=n)(Z:Same ms a a1)(g:GxS S γ0 γ)(g1:GxS ids γ γ1){J:AnnA}{ds:List Dy}
  (hf:∀x∈z8c J ds,zl3 γ1 (zo a1) x):SatA n (z8c J ds++zht ms (ids++S) e) γ1 a1:=by
 refine⟨hd,hz,λx hx=>?_⟩
 rcases Aw.1 hx with hx|hx
 ·exact hf x hx
 ·exact Wn ((g.mono λx hx=>Ay _ hx).trans (g1.mono λx hx=>Ar _ hx)) Z hs.all x hx
theorem z5h(hm:P.follows .mixedOrders=true){gl:Fr}(au:Fr.le gl M0){tr:TypeId}{pl:PlanA}:∀(c:Code) (R:CS) (Q:zbc) (e:qj) (C:CS),WA P gl tr n pl c R Q e C ->
  ∀(γ:Gh) (h:za) (B:World) (d:Nat) (a:Act),SatA n e γ a->Inv h0 W M0 (C++R) γ h->c.wp P (qdr h0 W M0 n B (Qg c) (zd7 pl c) a γ R Q) a (mk B d h):=by
 intro c
 induction c with
 |skip=>exact λR Q e C H γ h B d a hs I=>wp_skip ⟨e,C,γ,d,h,rfl,hs,I,Same.refl _ _,GxS.refl _ _,H⟩
 |ret=>exact λR Q e C H γ h B d a hs I=>wp_ret ⟨e,C,γ,d,h,rfl,hs,I,Same.refl _ _,GxS.refl _ _,H⟩
 |exit id=>exact λR Q e C H γ h B d a hs I=>wp_exit ⟨e,C,γ,d,h,rfl,hs,I,Same.refl _ _,GxS.refl _ _,H⟩
 |label l=>exact λR Q e C H γ h B d a hs I=>wp_label ⟨e,C,γ,d,h,rfl,hs,I,Same.refl _ _,GxS.refl _ _,H⟩
 |goto l=>exact λR Q e C H γ h B d a hs I=>wp_goto ⟨e,C,γ,d,h,rfl,hs,I,Same.refl _ _,GxS.refl _ _,H⟩
 |region id ops aI=>
  exact λR Q e C H γ h B d a hs I=>zme hm au H B d hs I λe' C' γ' a' d' h' q1 q2 q3 q4 q5=>⟨e',C',γ',d',h',rfl,q1,q2,q3,q4,q5⟩
 |seq x y aa ab=>
  intro R Q e C H γ h B d a hs I
  simp only[WA]at H
  have hl:∀i∈Qg x,i∈Qg (x.seq y):=λi hi=>Ar _ hi
  have hr:∀i∈Qg y,i∈Qg (x.seq y):=λi hi=>Ay _ hi
  have kl:∀i∈zd7 pl x,i∈zd7 pl (x.seq y):=λi hi=>Ar _ hi
  have kr:∀i∈zd7 pl y,i∈zd7 pl (x.seq y):=λi hi=>Ay _ (Ar _ hi)
  split at H
  ·refine wp_seq (wp_mono (aa _ _ _ _ H γ h B d a hs I) ?_)
   rintro ex a1 w1 ⟨e1,C1,γ1,d1,h1,rfl,s1,I1,m1,g1,q1⟩
   cases ex with
   |normal=>
    refine wp_mono (ab _ _ _ _ q1 γ1 h1 B d1 a1 s1 I1) ?_
    rintro ex a2 w2 ⟨e2,C2,γ2,d2,h2,rfl,s2,I2,m2,g2,q2⟩
    exact⟨e2,C2,γ2,d2,h2,rfl,s2,I2,(m1.mono hl).trans (m2.mono hr),(g1.mono kl).trans (g2.mono kr),q2⟩
   |_=>exact⟨e1,C1,γ1,d1,h1,rfl,s1,I1,m1.mono hl,g1.mono kl,q1⟩
  ·rename_i J hJ
   have kJ:∀i∈J.ids,i∈zd7 pl (x.seq y):=λi hi=>by
    simp only[zd7,hJ]
    exact Ay _ (Ay _ hi)
   have H':=H (qdl (zbw J) λds=>WA P gl tr n pl y R Q (z8c J ds++zht (Qg x) (J.ids++zd7 pl x) e) (chJ J ds++inC J.ro C)) (zo5 λds hq=>hq)
   refine wp_seq (wp_mono (aa _ _ _ _ H' γ h B d a hs (I.part J.ro)) ?_)
   rintro ex a1 w1 ⟨e1,C1,γ1,d1,h1,rfl,s1,I1,m1,g1,q1⟩
   cases ex with
   |normal=>
    obtain⟨ds,q,hv,hq,hk⟩:=zse q1
    have am:=zo4 hq
    subst am
    obtain⟨aA,af,ah,f1⟩:=zho hv s1 I1
    have az:=zw2 hs s1.defers s1.size m1 g1 ah f1
    rw[<-AM]at af
    refine wp_mono (ab _ _ _ _ hk aA h1 B d1 a1 az af) ?_
    rintro ex a2 w2 ⟨e2,C2,γ2,d2,h2,rfl,s2,I2,m2,g2,q2⟩
    exact⟨e2,C2,γ2,d2,h2,rfl,s2,I2,(m1.mono hl).trans (m2.mono hr),((g1.mono kl).trans (ah.mono kJ)).trans (g2.mono kr),q2⟩
   |_=>exact⟨e1,C1++inC J.ro C,γ1,d1,h1,rfl,s1,by rw[AM];exact I1,m1.mono hl,g1.mono kl,q1⟩
 |cond c x y aa ab=>
  intro R Q e C H γ h B d a hs I
  simp only[WA]at H
  have hl:∀i∈Qg x,i∈Qg (Ej c x y):=λi hi=>Ar _ hi
  have hr:∀i∈Qg y,i∈Qg (Ej c x y):=λi hi=>Ay _ hi
  have kl:∀i∈zd7 pl x,i∈zd7 pl (Ej c x y):=λi hi=>Ar _ hi
  have kr:∀i∈zd7 pl y,i∈zd7 pl (Ej c x y):=λi hi=>Ay _ hi
  split at H
  ·rename_i v hv
   split at H
   ·rename_i b hb
    refine wp_cond_split (zhe hb (zq hs (c:=[]) trivial hv)) (λaG=>?_) (λaE=>?_)
    ·refine wp_mono (aa _ _ _ _ (H.1 aG) γ h B d a hs I) ?_
     rintro ex a2 w2 ⟨e2,C2,γ2,d2,h2,rfl,s2,I2,m2,g2,q2⟩
     exact⟨e2,C2,γ2,d2,h2,rfl,s2,I2,m2.mono hl,g2.mono kl,q2⟩
    ·refine wp_mono (ab _ _ _ _ (H.2 aE) γ h B d a hs I) ?_
     rintro ex a2 w2 ⟨e2,C2,γ2,d2,h2,rfl,s2,I2,m2,g2,q2⟩
     exact⟨e2,C2,γ2,d2,h2,rfl,s2,I2,m2.mono hr,g2.mono kr,q2⟩
   ·exact H.elim
  ·exact H.elim
 |block id x ih=>
  intro R Q e C H γ h B d a hs I
  refine wp_block (wp_mono (ih _ _ _ _ H γ h B d a hs I) ?_)
  rintro ex a1 w1 ⟨e1,C1,γ1,d1,h1,rfl,s1,I1,m1,g1,q1⟩
  cases ex with
  |exit i=>
   simp only[zzz]at q1
   simp only[Exit.inBlock]
   by_cases hb:Nat.beq i id=true
   ·rw[if_pos (Ah hb)]
    simp only[hb,cond_true]at q1
    exact⟨e1,C1,γ1,d1,h1,rfl,s1,I1,m1,g1,q1⟩
   ·rw[if_neg (λhe=>hb (by rw[he];simp))]
    simp only[hb,cond_false]at q1
    exact⟨e1,C1,γ1,d1,h1,rfl,s1,I1,m1,g1,q1⟩
  |_=>exact⟨e1,C1,γ1,d1,h1,rfl,s1,I1,m1,g1,q1⟩
 |loop x ih=>
  intro R Q e C H γ h B d a hs I
  simp only[WA]at H
  split at H
  ·rename_i J hJ
   have kx:∀i∈zd7 pl x,i∈zd7 pl (Code.loop x):=λi hi=>Ar _ hi
   have kJ:∀i∈J.ids,i∈zd7 pl (Code.loop x):=λi hi=>by
    simp only[zd7,hJ]
    exact Ay _ hi
   have kS:∀i∈J.ids++zd7 pl x,i∈zd7 pl (Code.loop x):=λi hi=>by
    rcases Aw.1 hi with hi|hi
    ·exact kJ i hi
    ·exact kx i hi
   obtain⟨Iv,μ,an,ae⟩:=H
   obtain⟨ax,p0,ap,aH,aF⟩:=zse an
   obtain⟨γ0,I0,g0,f0⟩:=zho ap hs (I.part J.ro)
   refine wp_loop_ghost (λm a1 w1=>∃d1 h1 γ1 ds p,w1=mk B d1 h1/\a1.defers=[]/\a1.tmps.size=n/\Same (Qg x) a a1/\GxS (J.ids++zd7 pl x) γ γ1/\Inv h0 W M0 (chJ J ds++(inC J.ro C++R)) γ1 h1/\(∀y∈z8c J ds,zl3 γ1 (zo a1) y) /\
     zfq (zbw J) ds (zo3 (zbw J) Iv μ)=some p/\p.1/\p.2=m) p0.2 ⟨d,h,γ0,ax,p0,rfl,hs.defers,hs.size,Same.refl _ _,g0.mono λi hi=>Ar _ hi,I0,f0,aH,aF,rfl⟩ ?_
   rintro m a1 w1 ⟨d1,h1,γ1,ds,p,rfl,ai,ay,Z,g1,I1,f1,hp,ak,rfl⟩
   have s1:SatA n (z8c J ds++zht (Qg x) (J.ids++zd7 pl x) e) γ1 a1:=⟨ai,ay,λy hy=>by
    rcases Aw.1 hy with hy|hy
    ·exact f1 y hy
    ·exact Wn g1 Z hs.all y hy⟩
   have hb:=zks hp ae ak
   refine wp_mono (ih _ _ _ _ hb γ1 h1 B d1 a1 s1 I1) ?_
   rintro ex a2 w2 ⟨e2,C2,γ2,d2,h2,rfl,s2,I2,m2,g2,q2⟩
   cases ex with
   |normal=>
    obtain⟨aB,q,aC,hq,ar,aj⟩:=zse q2
    obtain⟨γ3,I3,g3,f3⟩:=zho aC s2 I2
    exact⟨q.2,aj,d2,h2,γ3,aB,q,rfl,s2.defers,s2.size,Z.trans m2,(g1.trans (g2.mono λi hi=>Ay _ hi)).trans (g3.mono λi hi=>Ar _ hi),I3,f3,hq,ar,rfl⟩
   |_=>exact⟨e2,C2++inC J.ro C,γ2,d2,h2,rfl,s2,by rw[AM];exact I2,Z.trans m2,(g1.mono kS).trans (g2.mono kx),q2⟩
  ·exact H.elim
 |_=>exact λR Q e C H=>H.elim
def zsf:Nat->List Arg->qj
 |_,[]=>[]
 |i,a::l=>(i,[],.g (gOf a.t a.x))::zsf (i+1) l
def zuh(e:qj)(i:Nat):Option AV:=match zl2 e i with
 |some ([],v)=>some v
 |_=>none
def z5i(P:Program)(cs:CS)(e:qj):List ResultVar->(List AV->Prop)->Prop
 |[],K=>K []
 |.tmp t::l,K=>match zuh e t with
  |some v=>z5i P cs e l λvs=>K (v::vs)
  |none=>False
 |.cell a t::l,K=>match zuh e a with
  |some (.g (.a aa))=>zwk P cs t aa none λv=>z5i P cs e l λvs=>K (v::vs)
  |_=>False
def ja(cs:CS):(l:List Ty)->List AV->Option (Els l)
 |[],[]=>some ()
 |[t],[v]=>zdd cs t v
 |t::t'::l,v::vs=>match zdd cs t v,ja cs (t'::l) vs with
  |some x,some y=>some (x,y)
  |_,_=>none
 |_,_=>none
theorem zdm{γ:Gh}{cs:CS}(hf:z3x γ cs):∀{l:List Ty} {vs:List AV} {r:Els l} {us:List Value},ja cs l vs=some r->All2 (DenV γ) vs us->RdL γ.M l r us
 |[],[],r,[],_,_=>rfl
 |[],[],_,_::_,_,h=>h.elim
 |[t],[v],r,[u],h,hd=>⟨u,rfl,zbr hf (by simpa[ja]using h) hd.1⟩
 |[t],[v],_,[],_,h=>h.elim
 |[t],[v],_,_::_::_,_,h=>h.2.elim
 |t::t'::l,v::vs,r,[],_,h=>h.elim
 |t::t'::l,v::vs,r,u::us,h,hd=>by
  simp only[ja]at h
  split at h
  ·rename_i x y h1 h2
   simp only[Ab]at h
   subst h
   exact⟨u,us,rfl,zbr hf h1 hd.1,zdm hf h2 hd.2⟩
  ·cases h
 |[],_::_,_,_,h,_=>by simp[ja]at h
 |[t],[],_,_,h,_=>by simp[ja]at h
 |[t],_::_::_,_,_,h,_=>by simp[ja]at h
 |t::t'::l,[],_,_,h,_=>by simp[ja]at h
def qgm(P:Program)(rs:List ResultVar)(rt:List Ty)(R:Els rt->Prop):zbc:=λx e C=>match x with
 |.normal=>z5i P C e rs λvs=>match ja (frzL (W0 vs) C) rt vs with
  |some r=>R r
  |none=>False
 |.ret=>z5i P C e rs λvs=>match ja (frzL (W0 vs) C) rt vs with
  |some r=>R r
  |none=>False
 |_=>False
theorem zeu{P:Program}{n:Nat}{C:CS}{e:qj}{γ:Gh}{a:Act}{h:za}(hs:SatA n e γ a)(I:Inv h0 W M0 C γ h):∀{l:List ResultVar} {K:List AV->Prop},z5i P C e l K->∃vs us,K vs/\All2 (DenV γ) vs us/\us.length=l.length/\QExec P (l.mapM (zhd a.tmps)) h us
 |[],K,H=>⟨[],[],H,trivial,rfl,λ_ _=>by simp⟩
 |.tmp t::l,K,H=>by
  simp only[z5i]at H
  split at H
  ·rename_i v hv
   obtain⟨vs,us,h1,h2,h3,h4⟩:=zeu hs I H
   have hd:DenV γ v (zo a t):=by
    unfold zuh at hv
    split at hv
    ·rename_i u hl
     simp only[Ab]at hv
     subst hv
     exact(hs.all _ (Zy hl)).1 trivial
    ·cases hv
   refine⟨v::vs,zo a t::us,h1,⟨hd,h2⟩,by simp[h3],?_⟩
   rw[Ef]
   exact QExec.bind (x:=zo a t) (QExec.pure _) (h4.bind (QExec.pure _))
  ·exact H.elim
 |.cell x t::l,K,H=>by
  simp only[z5i]at H
  split at H
  ·rename_i aa hp
   obtain⟨v,hK,hq⟩:=zhg (h0:=h0) (W:=W) (M0:=M0) H
   obtain⟨vs,us,h1,h2,h3,h4⟩:=zeu hs I hK
   have hd:DenA γ aa (zo a x):=by
    unfold zuh at hp
    split at hp
    ·rename_i u hl
     simp only[Ab]at hp
     subst hp
     exact(hs.all _ (Zy hl)).1 trivial
    ·cases hp
   obtain⟨u,hu,Z⟩:=hq trivial γ h _ I hd
   refine⟨v::vs,u::us,h1,⟨hu,h2⟩,by simp[h3],?_⟩
   rw[Ef]
   refine QExec.bind (x:=u) ?_ (h4.bind (QExec.pure _))
   have ae:∃p,zo a x=.pointer (some p):=by
    have no:∀aa,(∀k,z4r C k aa=none)->(∀c z i o,aa≠.oelt c z i o)->DenA γ aa (zo a x)->zwk P C t aa none (λv=>z5i P C e l λvs=>K (v::vs))->False:=by
     intro aa hn af _ hl
     unfold zwk at hl
     split at hl
     ·split at hl
      ·exact af _ _ _ _ rfl
      ·rw[hn]at hl;exact hl
     ·exact hl
    cases aa with
    |box c o=>exact⟨_,hd⟩
    |oelt c z i o=>obtain⟨g,_,e⟩:=hd;exact⟨_,e⟩
    |elt t y o=>obtain⟨b,f,cs,e,_⟩:=hd;exact⟨_,e⟩
    |v y=>exact(no _ (λ_=>rfl) (by simp) hd H).elim
    |d t y=>exact(no _ (λ_=>rfl) (by simp) hd H).elim
    |own c=>exact(no _ (λ_=>rfl) (by simp) hd H).elim
    |dc t y=>exact(no _ (λ_=>rfl) (by simp) hd H).elim
   obtain⟨p,ab⟩:=ae
   rw[ab]at Z
   have e3:a.tmps.getD x undef=.pointer (some p):=ab
   simp only[zhd,e3]
   exact Z
  ·exact H.elim
theorem zpf{fn:Func}{rs:List ResultVar}(hr:fn.results.toList=rs){us:List Value}(hl:us.length=rs.length)(hq:QExec P (rs.mapM (zhd a.tmps)) h us):QExec P (results fn a.tmps) h (zhc us):=by
 intro B d
 have e0:results fn a.tmps=(fn.results.mapM (zhd a.tmps) >>= λvs=>Dc (if h:vs.size=1 then vs[0]else .tuple vs)):=by
  unfold results
  congr 1
 rw[e0,Array.mapM_eq_mapM_toList,hr,Sem.run_bind,Sem.run_map,hq B d]
 simp only[Result.andThen_ok,Sem.run_pure]
 match us,hl with
 |[],_=>rfl
 |[v],_=>rfl
 |v::u::vs,_=>simp[zhc]
theorem zhu{γ:Gh}{σ:Nat->Value}:∀{l:List Arg} {i:Nat} {us:List Value},Xv γ.M l us->(∀j v,us[j]?=some v->σ (i+j)=v)->∀x∈zsf i l,zl3 γ σ x
 |[],_,_,_,_,x,hx=>by cases hx
 |a::l,i,[],h,_,x,hx=>h.elim
 |a::l,i,u::us,h,hσ,x,hx=>by
  simp only[zsf,Af]at hx
  rcases hx with rfl|hx
  ·refine⟨λ_=>?_,λhn=>absurd trivial hn⟩
   have:=hσ 0 u rfl
   simp only at this ⊢
   rw[show σ i=u from this]
   exact zr0 h.1
  ·exact zhu h.2 (λj v hj=>by have:=hσ (j+1) v (by simpa using hj);rwa[show i+(j+1)=i+1+j by omega]at this) x hx
theorem zw3(hm:P.follows .mixedOrders=true)(gl:Fr)(tr:TypeId)(pl:PlanA)(args:List Arg){fn:Func}{rs:List ResultVar}{rt:List Ty}(hf:P.funcs[f]?=some fn)(hb:Qy fn=true)(hr:fn.results.toList=rs)(hn:fn.ntmps=n)
  (hz:Nat.ble args.length n=true) {R:Els rt->Prop} (H:WA P gl tr n pl (codeOf fn) [] (qgm P rs rt R) (zsf 0 args) []):PC P gl f args rt R:=by
 intro h M vs ai ae Z B d
 subst hn
 have af:fn.body=some (codeOf fn):=by
  unfold Qy at hb
  unfold codeOf
  split at hb
  ·rename_i c hc;rw[hc]
  ·cases hb
 refine calls_of_wp hf af ?_
 have aa:vs.length=args.length:=(All2.length Z).symm
 have aj:vs.length<=fn.ntmps:=by rw[aa];exact BR hz
 let γ:Gh:=⟨M,λ_=>0,λ_=>⟨none,0,0⟩⟩
 have I:Inv h (λ_=>False) M ([]++[]) γ h:={ ag:=ae,frame:=λ_ _ _=>rfl,size:=Ac _,old:=λ_ _=>rfl,le:=Fr.le.refl _,den:=λx hx=>(by cases hx),sep:=λx hx=>(by cases hx),apart:=List.Pairwise.nil }
 have hs:SatA fn.ntmps (zsf 0 args) γ { tmps:=vs.toArray++Bn (fn.ntmps-vs.toArray.size) undef,defers:=[] }:=by
  refine⟨rfl,by simp;omega,zhu Z λj v hj=>?_⟩
  have ah:j<vs.length:=(AF.1 hj).1
  simp only[AK,zo,BB]
  rw[CI (by simpa using ah)]
  simp[hj]
 have fin:∀(e:qj) (C:CS) (γ':Gh) (h':za) (a:Act),SatA fn.ntmps e γ' a->Inv h (λ_=>False) M (C++[]) γ' h'->(z5i P C e rs λvs=>match ja (frzL (W0 vs) C) rt vs with|some r=>R r|none=>False) ->
   ∃v,QExec P (results fn a.tmps) h' v/\Keep h.size h h'/\∃M' r,Fr.le M M'/\(∀b,b<h.size->M' b=M b)/\AgM M' h'/\zcx M' rt r v/\R r:=by
  intro e C γ' h' a s1 I1 q
  rw[A3]at I1
  obtain⟨ab,us,hK,hd,hl,hq⟩:=zeu s1 I1 q
  split at hK
  ·rename_i r hc
   obtain⟨γ2,I2,g2⟩:=Inv.frzL (C:=C) (R:=[]) (γ:=γ') (W0 ab) (by simpa using I1)
   rw[A3]at I2
   refine⟨zhc us,zpf hr hl hq,⟨I2.size,λi hi=>I2.frame i hi (λh=>h)⟩,γ2.M,r,I2.le,I2.old,I2.ag,⟨us,zdm I2.fz hc (hd.imp λv _ u hu=>hu.gx g2 rfl),rfl⟩,hK⟩
  ·exact hK.elim
 refine wp_mono (z5h hm ai _ _ _ _ _ H γ h B d _ hs I) ?_
 rintro ex a w ⟨e1,C1,γ1,d1,h1,rfl,s1,I1,m1,g1,q1⟩
 cases ex with
 |normal=>
  obtain⟨v,hq,k,rest⟩:=fin e1 C1 γ1 h1 a s1 I1 q1
  exact⟨s1.defers,v,hq B d1,v,d1,h1,rfl,rfl,k,rest⟩
 |ret=>
  obtain⟨v,hq,k,rest⟩:=fin e1 C1 γ1 h1 a s1 I1 q1
  exact⟨s1.defers,v,hq B d1,v,d1,h1,rfl,rfl,k,rest⟩
 |_=>exact q1.elim
theorem zw4(hm:P.follows .mixedOrders=true)(gl:Fr)(tr:TypeId)(pl:PlanA)(args:List Arg){fn:Func}{rs:List ResultVar}{rt:List Ty}(hf:P.funcs[f]?=some fn)(hb:Qy fn=true)(hr:fn.results.toList=rs)(hn:fn.ntmps=n)
  (hz:Nat.ble args.length n=true) {R:Els rt->Prop} {F:Prop} (H:F) (e:F=WA P gl tr n pl (codeOf fn) [] (qgm P rs rt R) (zsf 0 args) []):PC P gl f args rt R:=
 zw3 hm gl tr pl args hf hb hr hn hz (e ▸ H)
end
end Go.X
end
section
namespace Go.X
open Go Go.RowKit
section
variable {P:Program} {f:FuncId} {h:za} {M gl:Fr} {v:Value} {us:List Value}
theorem XC.of_calls{args:Array Value}{R:Value->za->Prop}
  (H:∀B d,Calls P f args (mk B d h) λe w'=>∃v,e=.returned v/\w'.os=B.os/\w'.tape=B.tape/\w'.output=B.output/\R v w'.heap):XC P f args h R:=by
 intro B d
 refine(H B d).mono ?_
 rintro e w' ⟨v,rfl,h1,h2,h3,h4⟩
 refine⟨v,w'.drawn,w'.heap,rfl,?_,h4⟩
 cases w';simp only[mk]at *;subst h1;subst h2;subst h3;rfl
theorem AgM.keep{h h':za}(ag:AgM M h)(k:Keep h.size h h'):AgM M h':=λb c e=>by
 obtain⟨T,m,e'⟩:=ag b c e
 exact⟨T,m,by rw[k.get b (ag.lt e)];exact e'⟩
def zw5:Arg->Option Value
 |⟨.int k,x⟩=>some (.int k x)
 |⟨.bool,x⟩=>some (.bool x)
 |⟨.str,x⟩=>some (.string x)
 |_=>none
def zfl:List Arg->Option (List Value)
 |[]=>some []
 |a::l=>match zw5 a,zfl l with
  |some v,some vs=>some (v::vs)
  |_,_=>none
theorem z5j{a:Arg}{v u:Value}(h:zw5 a=some v)(hd:RdV M a.t a.x u):u=v:=by
 obtain⟨t,x⟩:=a
 cases t with
 |int k=>simp only[zw5,Ab]at h;subst h;simpa[RdV,Rd,zjf]using hd
 |bool=>simp only[zw5,Ab]at h;subst h;simpa[RdV,Rd,zjf]using hd
 |str=>simp only[zw5,Ab]at h;subst h;simpa[RdV,Rd,zjf]using hd
 |_=>simp[zw5]at h
theorem zdn{M:Fr}:∀{l:List Arg} {vs us:List Value},zfl l=some vs->Xv M l us->us=vs
 |[],vs,us,h,hd=>by
  simp only[zfl,Ab]at h;subst h
  cases us with
  |nil=>rfl
  |cons _ _=>exact hd.elim
 |a::l,vs,us,h,hd=>by
  simp only[zfl]at h
  split at h
  ·rename_i v Z h1 h2
   simp only[Ab]at h;subst h
   cases us with
   |nil=>exact hd.elim
   |cons u us=>rw[z5j h1 hd.1,zdn h2 hd.2]
  ·cases h
theorem PC.of_scal{args:List Arg}{rt:List Ty}{R:Els rt->Prop}(aa:zfl args=some us){r:Els rt}(hv:∀M,zcx M rt r v)(hR:R r)
  (H:∀w:World,AgM gl w.heap->Calls P f us.toArray w λe w'=>e=.returned v/\Below w.heap.size w w'):PC P gl f args rt R:=by
 intro h M vs hM ag ha
 rw[zdn aa ha]
 refine XC.of_calls λB d=>(H (mk B d h) λb c e=>ag b c (hM b c e)).mono ?_
 rintro e w' ⟨rfl,Z⟩
 have k:Keep h.size h w'.heap:=⟨Z.size,Z.block⟩
 exact⟨v,rfl,Z.os,Z.tape,Z.output,k,M,r,Fr.le.refl _,λ_ _=>rfl,ag.keep k,hv M,hR⟩
theorem PC.of_same{args:List Arg}{rt:List Ty}{R:Els rt->Prop}(Z:zfl args=some us){r:Els rt}(hv:∀M,zcx M rt r v)(hR:R r)
  (H:∀w:World,AgM gl w.heap->Calls P f us.toArray w λe w'=>e=.returned v/\w'=w):PC P gl f args rt R:=
 PC.of_scal Z hv hR λw hw=>(H w hw).mono λe w' ⟨h1,h2⟩=>⟨h1,h2 ▸ Below.refl _ _⟩
theorem zz0(k:IntKind)(i:Int):zcx M [.int k] i (.int k i):=⟨[_],⟨_,rfl,rfl⟩,rfl⟩
theorem zui(b:Bool):zcx M [.bool] b (.bool b):=⟨[_],⟨_,rfl,rfl⟩,rfl⟩
theorem zhv(s:Bt):zcx M [.str] s (.string s):=⟨[_],⟨_,rfl,rfl⟩,rfl⟩
theorem AgM.glob{w:World}(ag:AgM gl w.heap){b o:Nat}{cs:Array Value}(hb:gl b=some cs)(ho:cs[o]?=some v):w.cell? ⟨b,o,Option.none⟩=some v:=by
 obtain⟨T,m,e⟩:=ag b cs hb
 simp[World.cell?,e,ho]
theorem PC.of_ex{args:List Arg}{rt:List Ty}{R:Els rt->Prop}(aa:zfl args=some us)
  (H:∀w:World,AgM gl w.heap->Calls P f us.toArray w λe w'=>∃v r,e=.returned v/\(∀M,zcx M rt r v)/\R r/\Below w.heap.size w w'):PC P gl f args rt R:=by
 intro h M vs hM ag ha
 rw[zdn aa ha]
 refine XC.of_calls λB d=>(H (mk B d h) λb c e=>ag b c (hM b c e)).mono ?_
 rintro e w' ⟨v,r,rfl,hv,hR,Z⟩
 have k:Keep h.size h w'.heap:=⟨Z.size,Z.block⟩
 exact⟨v,rfl,Z.os,Z.tape,Z.output,k,M,r,Fr.le.refl _,λ_ _=>rfl,ag.keep k,hv M,hR⟩
end
section
variable {P:Program} {gl M:Fr} {f:FuncId} {h h':za} {vs cs:List Value} {K:Value -> za -> Prop} {t:Ty} {u v:Value} {i:Int} {s:Sl} {k:Nat}
def PX(P:Program)(f:FuncId)(vs:Array Value)(h:za)(M:Fr)(rt:List Ty)(R:Els rt->Prop):Prop:=
 XC P f vs h λv h'=>Keep h.size h h'/\∃M' r,Fr.le M M'/\(∀b,b<h.size->M' b=M b)/\AgM M' h'/\zcx M' rt r v/\R r
theorem PC.px{args:List Arg}{rt:List Ty}{R:Els rt->Prop}(H:PC P gl f args rt R)(hM:Fr.le gl M)(ag:AgM M h)(ha:Xv M args vs):PX P f vs.toArray h M rt R:=H h M vs hM ag ha
structure Later (h:za) (M:Fr) (h':za) (M':Fr):Prop where
 keep:Keep h.size h h'
 le:Fr.le M M'
 old:∀b,b<h.size->M' b=M b
 ag:AgM M' h'
theorem Later.refl(ag:AgM M h):Later h M h M:=⟨Keep.refl _ _,Fr.le.refl _,λ_ _=>rfl,ag⟩
theorem Later.trans{h h' Z:za}{M M' aa:Fr}(a:Later h M h' M')(b:Later h' M' Z aa):Later h M Z aa:=
 ⟨a.keep.trans b.keep a.keep.size,a.le.trans b.le,λx hx=>(b.old x (by have:=a.keep.size;omega)).trans (a.old x hx),b.ag⟩
theorem Later.same(ag:AgM M h)(k:Keep h.size h h'):Later h M h' M:=⟨k,Fr.le.refl _,λ_ _=>rfl,ag.keep k⟩
theorem Later.push(ag:AgM M h)(o:Obj):Later h M (h.push o) M:=Later.same ag (Keep.push _ _ (Ac _))
theorem PX.go{vs:Array Value}{rt:List Ty}{R:Els rt->Prop}(H:PX P f vs h M rt R)(hK:∀v h' M' r,Later h M h' M'->zcx M' rt r v->R r->K v h'):XC P f vs h K:=
 XC.mono H λv h' ⟨k,M',r,e1,e2,e3,e4,e5⟩=>hK v h' M' r ⟨k,e1,e2,e3⟩ e4 e5
theorem PX.of{vs:Array Value}{rt:List Ty}{R:Els rt->Prop}(H:XC P f vs h λv h'=>∃M' r,Later h M h' M'/\zcx M' rt r v/\R r):PX P f vs h M rt R:=
 XC.mono H λv h' ⟨M',r,l,e4,e5⟩=>⟨l.keep,M',r,l.le,l.old,l.ag,e4,e5⟩
theorem PC.go{args:List Arg}{rt:List Ty}{R:Els rt->Prop}(H:PC P gl f args rt R)(hM:Fr.le gl M)(ag:AgM M h)(ha:Xv M args vs)
  (hK:∀v h' M' r,Later h M h' M'->zcx M' rt r v->R r->K v h'):XC P f vs.toArray h K:=(H.px hM ag ha).go hK
theorem zw6{x:El t}(ht:zjf t=false):RdV M t x u↔Rd M t x [u]:=by unfold RdV;rw[ht];simp
theorem zdo{x:El t}:zcx M [t] x v↔RdV M t x v:=by
 constructor
 ·rintro⟨us,⟨u,rfl,h⟩,rfl⟩;exact h
 ·intro h;exact⟨[v],⟨v,rfl,h⟩,rfl⟩
theorem zn1{b:Bool}(h:zcx M [.bool] b v):v=.bool b:=by
 have:=zdo.1 h
 rw[zw6 rfl]at this
 simpa[Rd]using this
theorem qgn{k:IntKind}(h:zcx M [.int k] i v):v=.int k i:=by
 have:=zdo.1 h
 rw[zw6 rfl]at this
 simpa[Rd]using this
theorem qgo{s:Bt}(h:zcx M [.str] s v):v=.string s:=by
 have:=zdo.1 h
 rw[zw6 rfl]at this
 simpa[Rd]using this
theorem jy:Xv M [] []:=trivial
theorem yj{a:Arg}{l:List Arg}{us:List Value}(h:RdV M a.t a.x u)(hl:Xv M l us):Xv M (a::l) (u::us):=⟨h,hl⟩
theorem rdStr(s:Bt):RdV M .str s (.string s):=by rw[zw6 rfl];rfl
theorem Jf(k:IntKind)(i:Int):RdV M (.int k) i (.int k i):=by rw[zw6 rfl];rfl
theorem rdBool(b:Bool):RdV M .bool b (.bool b):=by rw[zw6 rfl];rfl
theorem Ql{s:Bt}(h:RdV M .str s u):u=.string s:=by rw[zw6 rfl]at h;simpa[Rd]using h
theorem qo{k:IntKind}(h:RdV M (.int k) i u):u=.int k i:=by rw[zw6 rfl]at h;simpa[Rd]using h
theorem wn{v:Tr}(h:RdV M .tree v u):∃sk si:Sl,u=.agg #[.int .i64 v.kind,.string v.text,slV sk,slV si]/\Rd M (.row .str) v.keys [slV sk]/\Rd M (.row .tree) v.items [slV si]:=by
 unfold RdV at h
 simp only[zjf,if_true]at h
 obtain⟨cs,rfl,hr⟩:=h
 obtain⟨vk,vi,rfl,h1,h2⟩:=TrRd.keys hr
 have Z:=h1;have aa:=h2
 obtain⟨w1,e1,a1,c1,q1,_⟩:=Z
 obtain⟨w2,e2,a2,c2,q2,_⟩:=aa
 simp only[BM,and_true]at e1 e2
 subst e1;subst e2;subst q1;subst q2
 exact⟨⟨a1,v.keys.length,c1⟩,⟨a2,v.items.length,c2⟩,rfl,h1,h2⟩
theorem jz{v:Tr}{sk si:Sl}(h1:Rd M (.row .str) v.keys [slV sk])(h2:Rd M (.row .tree) v.items [slV si]):RdV M .tree v (.agg #[.int .i64 v.kind,.string v.text,slV sk,slV si]):=by
 unfold RdV
 simp only[zjf,if_true]
 exact⟨[.int .i64 v.kind,.string v.text,slV sk,slV si],rfl,by cases v;exact TrRd.of h1 h2⟩
theorem qds{xs:List (El t)}(h:RdV M (.row t) xs u):∃s:Sl,u=slV s/\Rd M (.row t) xs [slV s]:=by
 rw[zw6 rfl]at h
 have h':=h
 obtain⟨w,e,a,c,q,_⟩:=h'
 simp only[BM,and_true]at e
 subst e;subst q
 exact⟨⟨a,xs.length,c⟩,rfl,h⟩
theorem rowLen{xs:List (El t)}(h:Rd M (.row t) xs [slV s]):s.len=xs.length/\xs.length<=140737488355328/\xs.length<=s.cap:=by
 obtain⟨w,e,a,c,q,hn,_⟩:=h
 simp only[BM,and_true]at e
 subst e
 simp only[slV,AX]at q
 obtain⟨_,h2,h3⟩:=q
 exact⟨h2,hn.1,by rw[h3];exact hn.2⟩
theorem rowAt{xs:List (El t)}(h:Rd M (.row t) xs [slV s])(hk:k<xs.length):∃b o cs,s.a=some ⟨b,o,none⟩/\M b=some cs/\Rd M t xs[k] (cut cs (o+k*sz t) (sz t)):=by
 obtain⟨w,e,a,c,q,hn,hx⟩:=h
 simp only[BM,and_true]at e
 subst e
 simp only[slV,AX]at q
 obtain⟨h1,h2,h3⟩:=q
 rcases hx with rfl|⟨b,o,cs,e1,e2,e3⟩
 ·simp at hk
 ·exact⟨b,o,cs,by rw[h1,e1],e2,e3 k hk⟩
theorem zz1{M:Fr}{h:za}(ag:AgM M h){b:Nat}{cs:Array Value}(hM:M b=some cs):∀{vs:List Value} {o i:Nat},cut cs (o+i) vs.length=vs->zd h ⟨b,o,none⟩ i vs
 |[],_,_,_=>trivial
 |v::vs,o,i,e=>by
  unfold cut at e
  have Z:o+i<cs.toList.length:=by
   rcases A1 (o+i) cs.toList.length with hh|hh
   ·exact hh
   ·rw[BL hh]at e;simp at e
  rw[Ba Z,Ap,C3]at e
  injection e with e1 e2
  refine⟨?_,zz1 ag hM (i:=i+1) e2⟩
  rw[zu]
  refine ag.cell hM ?_
  rw[A0 (by simpa using Z),<-e1];simp
theorem zz2(ag:AgM M h){b:Nat}{cs:Array Value}(hM:M b=some cs){o:Nat}(e:cut cs o 1=[v]):zc h ⟨b,o,none⟩=some v:=by
 have:=zz1 (vs:=[v]) (o:=o) (i:=0) ag hM (by simpa using e)
 exact this.1
theorem qh(b o n:Nat):(⟨b,o,none⟩:Addr).add n=⟨b,o+n,none⟩:=zu b o n
theorem zz3(ag:AgM M h){xs:List Bt}(H:Rd M (.row .str) xs [slV s])(hk:k<xs.length)(hi:i=(k:Int)){L:Nat}(hL:L=s.len){Q:Bt->Prop}(hQ:Q xs[k]):
  ∃a:Addr,(s.a=some a/\0<=i/\i<(L:Int))/\∃x:Bt,zc h (a.add (i.toNat*1))=some (.string x)/\Q x:=by
 obtain⟨b,o,cs,e1,e2,e3⟩:=rowAt H hk
 have hl:=(rowLen H).1
 refine⟨_,⟨e1,by omega,by omega⟩,xs[k],?_,hQ⟩
 rw[qh,hi,Al]
 exact zz2 ag e2 e3
theorem zpg(ag:AgM M h){xs:List Tr}(H:Rd M (.row .tree) xs [slV s])(hk:k<xs.length):∃(a:Addr) (sk si:Sl),s.a=some a/\zd h (a.add (k*4)) 0 [.int .i64 xs[k].kind,.string xs[k].text,slV sk,slV si]/\Rd M (.row .str) xs[k].keys [slV sk]/\Rd M (.row .tree) xs[k].items [slV si]:=by
 obtain⟨b,o,cs,e1,e2,e3⟩:=rowAt H hk
 have e4:RdV M .tree xs[k] (.agg (cut cs (o+k*sz .tree) (sz .tree)).toArray):=by
  unfold RdV;simp only[zjf,if_true];exact⟨_,rfl,e3⟩
 obtain⟨sk,si,q,h1,h2⟩:=wn e4
 refine⟨_,sk,si,e1,?_,h1,h2⟩
 rw[qh]
 refine zz1 ag e2 (i:=0) ?_
 have:(cut cs (o+k*sz .tree) (sz .tree))=[.int .i64 xs[k].kind,.string xs[k].text,slV sk,slV si]:=by
  injection q with q
  exact congrArg Array.toList q
 exact this
def Mx(M:Fr)(b:Nat)(cs:Array Value):Fr:=λi=>if i=b then some cs else M i
theorem Later.frz(ag:AgM M h)(cs:Array Value)(T:TypeId):Later h M (h.push (.cells cs T)) (Mx M h.size cs) where
 keep:=Keep.push _ _ (Ac _)
 le:=λb c e=>by
  have:=ag.lt e
  unfold Mx;rw[if_neg (by omega)];exact e
 old:=λb hb=>by unfold Mx;rw[if_neg (by omega)]
 ag:=λb c e=>by
  unfold Mx at e
  split at e
  ·rename_i hb
   subst hb
   cases e
   exact⟨T,(0,0),yb _ _⟩
  ·obtain⟨T',m,e'⟩:=ag b c e
   exact⟨T',m,by rw[(Keep.push h _ (Ac _)).get b (ag.lt e)];exact e'⟩
theorem zz4(M:Fr)(b:Nat)(cs:Array Value):Mx M b cs b=some cs:=by unfold Mx;rw[if_pos rfl]
theorem zw7{T:TypeId}(k:Keep (h.size+1) (h.push (.cells cs.toArray T)) h'):zd h' ⟨h.size,0,none⟩ 0 cs:=
 ((Blk.new h cs.toArray T).keep (k.get _ (by omega))).ld
theorem qau{T:TypeId}(k:Keep (h.size+1) (h.push (.cells cs.toArray T)) h'){i:Nat}(hv:cs[i]?=some v):zc h' ((⟨h.size,0,none⟩:Addr).add i)=some v:=by
 have:=((Blk.new h cs.toArray T).keep (k.get _ (by omega)))
 exact this.cellAdd (o:=0) (by simpa using hv)
end
end Go.X
end
section
namespace Go.X
open Go Go.ChangeShapes Go.WideShapes Go.RowKit
set_option linter.unusedVariables false
section
variable {a:Addr} {cs:List Value} {fuel:Nat} {t e:TypeId} {P:Program}
def Fz(W:World):Fr:=λb=>match W.heap[b]? with|some (.cells cs _ _)=>some cs|_=>none
theorem Fz.ag(W:World):AgM (Fz W) W.heap:=by
 intro b c e
 unfold Fz at e
 split at e
 ·rename_i cs T m hh;cases e;exact⟨T,m,hh⟩
 ·cases e
theorem Fz.cell{W:World}{v:Value}(h:W.cell? a=some v):∃b o c,a=⟨b,o,none⟩/\Fz W b=some c/\c[o]?=some v:=by
 obtain⟨b,o,sp⟩:=a
 unfold World.cell? at h
 split at h
 ·rename_i c T m hh
  cases sp with
  |some x=>simp at h
  |none=>
   refine⟨b,o,c,rfl,?_,by simpa using h⟩
   unfold Fz
   change W.heap[b]?=_ at hh
   rw[hh]
 ·cases h
theorem Fz.cells{W:World}{n:Nat}(h:W.cells? 0 a n=some cs)(hn:0<n):∃b o c,a=⟨b,o,none⟩/\Fz W b=some c/\cut c o n=cs:=by
 obtain⟨_,hl,hc⟩:=World.cells?_some h
 have h0:=hc 0 hn
 rw[Aq (by omega)]at h0
 obtain⟨b,o,c,e,hb,_⟩:=Fz.cell h0
 obtain⟨ab,ao,sp⟩:=a
 rw[show Ai ⟨ab,ao,sp⟩ 0=⟨ab,ao,sp⟩from rfl]at e
 cases e
 refine⟨b,o,c,rfl,hb,?_⟩
 have Z:∀i,i<n->c[o+i]?=cs[i]?:=λi hi=>by
  have h1:=hc i hi
  rw[Aq (by omega)]at h1 ⊢
  obtain⟨b2,o2,c2,e2,aa,h2⟩:=Fz.cell h1
  rw[zu]at e2
  cases e2
  rw[hb]at aa;cases aa
  exact h2
 unfold cut
 apply BC
 intro i
 by_cases hi:i<n
 ·rw[AL,if_pos hi,AQ,<-Z i hi];simp
 ·rw[AL,if_neg hi,BS (by omega)]
theorem qav{α:Type}{Q:Nat->α->Prop}(n:Nat)(h:∀i,i<n->∃z,Q i z):∃xs:List α,xs.length=n/\∀i (hi:i<xs.length),Q i xs[i]:=by
 refine⟨List.ofFn λi:Fin n=>Classical.choose (h i i.2),by simp,λi hi=>?_⟩
 rw[List.getElem_ofFn]
 exact Classical.choose_spec (h i (by simpa using hi))
section
variable {H : Type} {enc : TypeId × Value -> H} {P : Program} {W : World} {sp : Nat -> Bool} {held : Bool}
def zsg(P:Program)(t:TypeId)(d:DataW H):Prop:=∀n∈d.weights P t,n<=reachBytes
theorem zhw{e:TypeId}{y:DataW H}:∀{l:List (DataW H)},y∈l->∀n∈y.weights P e,n∈DataW.weightsAll P e l
 |x::l,hy,n,hn=>by
  unfold DataW.weightsAll
  rcases Af.1 hy with rfl|hy
  ·exact Ar _ hn
  ·exact Ay _ (zhw hy n hn)
theorem z8g{T : Ty}{x : DataW H × List MemPlace}(ht : P.underlying t = some (.slice e))(hz : P.cellsOf e = sz T)(hp : 0 < sz T)(hby : 0 < P.bytesOf e)
    (hel : ∀ n, n < fuel -> ∀ cs y, DataW.trod enc P W 0 sp held n e cs = some y -> zsg P e y.1 -> ∃ z : El T, Rd (Fz W) T z cs)
    (h : DataW.trod enc P W 0 sp held fuel t cs = some x) (hw : zsg P t x.1) : ∃ xs : List (El T), Rd (Fz W) (.row T) xs cs := by
  rcases DataW.trod_slice ht h with ⟨rfl, _⟩ | ⟨a, len, cap, elems, rest, n, rfl, rfl, hx, _, hlc, hcap, hlen, hi, _, _⟩
  · exact ⟨[], _, rfl, none, 0, rfl, ⟨by simp, by simp⟩, .inl rfl⟩
  · have hwt : ∀ m, m = (elems.length + rest.length) * P.bytesOf e \/ m ∈ DataW.weightsAll P e (elems.map (·.1)) -> m <= reachBytes := λm hm => hw m (by
      rw [hx]
      unfold DataW.weights
      rw [ht]
      simp only [Af, Aw, AH]
      rcases hm with hm | hm
      · exact .inl hm
      · exact .inr (.inl hm))
    have hmax : len <= 140737488355328 := by
      have h1 := hwt _ (.inl rfl)
      have h2 : elems.length + rest.length <= (elems.length + rest.length) * P.bytesOf e := Dk _ hby
      have h3 : reachBytes <= 140737488355328 := by decide
      omega
    have key : ∀ i, i < len -> ∃ z : El T, ∃ b o c, a.add (i * sz T) = ⟨b, o, none⟩ /\ Fz W b = some c /\ Rd (Fz W) T z (cut c o (sz T)) := λi hil => by
      have h1 := hi i hil
      rw [Aq (by omega), Option.bind_eq_some_iff] at h1
      obtain ⟨cc, h2, h3⟩ := h1
      rw [hz] at h2
      obtain ⟨b, o, c, e1, e2, e3⟩ := Fz.cells h2 hp
      obtain ⟨z, hz⟩ := hel n (by omega) _ _ h3 λm hm => hwt m (.inr (zhw (Bc.2 ⟨elems[i], AN (by omega), rfl⟩) m hm))
      exact ⟨z, b, o, c, e1, e2, by rw [e3]; exact hz⟩
    obtain ⟨xs, hxl, hxs⟩ := qav len key
    subst hxl
    refine ⟨xs, _, rfl, some a, cap, rfl, ⟨by omega, hlc⟩, ?_⟩
    by_cases h0 : xs.length = 0
    · exact .inl (AO h0)
    · obtain ⟨b, o, c, e1, e2, _⟩ := hxs 0 (by omega)
      obtain ⟨ab, ao, asp⟩ := a
      rw [Dp, show Ai ⟨ab, ao, asp⟩ 0 = ⟨ab, ao, asp⟩ from rfl] at e1
      cases e1
      refine .inr ⟨b, o, c, rfl, e2, λi hil => ?_⟩
      obtain ⟨b', o', c', e1', e2', e3'⟩ := hxs i hil
      rw [zu] at e1'
      cases e1'
      rw [e2] at e2'; cases e2'
      simpa using e3'
theorem z8h{x:DataW H×List MemPlace}(ht:P.underlying t=some .string)(h:DataW.trod enc P W 0 sp held fuel t cs=some x):∃s:El .str,Rd (Fz W) .str s cs:=by
 obtain⟨s,rfl,_,_⟩:=DataW.trod_string ht h
 exact⟨s,rfl⟩
theorem qdt{k:IntKind}{x:DataW H×List MemPlace}(ht:P.underlying t=some (.int k))(h:DataW.trod enc P W 0 sp held fuel t cs=some x):∃s:El (.int k),Rd (Fz W) (.int k) s cs:=by
 obtain⟨s,rfl,_,_⟩:=DataW.trod_int ht h
 exact⟨s,rfl⟩
theorem qaw{x:DataW H×List MemPlace}(ht:P.underlying t=some (.slice e))(he:P.underlying e=some .string)(hc:P.cellsOf e=1)(Z:0<P.bytesOf e)
  (h:DataW.trod enc P W 0 sp held fuel t cs=some x) (hw:zsg P t x.1):∃xs:List ByteArray,Rd (Fz W) (.row .str) xs cs:=
 z8g (T:=.str) ht hc (by decide) Z (λn _ cs y hy _=>z8h he hy) h hw
theorem four{a b c d:Value}(hl:cs.length=4)(h0:(cs.drop 0).take 1=[a])(h1:(cs.drop 1).take 1=[b])(h2:(cs.drop 2).take 1=[c])(h3:(cs.drop 3).take 1=[d]):cs=[a,b,c,d]:=by
 match cs,hl with
 |[w,x,y,z],_=>
  simp at h0 h1 h2 h3
  subst h0;subst h1;subst h2;subst h3;rfl
theorem qax{tv ts tss tvs tk:TypeId}{f0 f1 f2 f3:Field}(hu:P.underlying tv=some (.struct #[f0,f1,f2,f3]))(hc:P.cellsOf tv=4)
  (t0:f0.type=tk/\f0.offset=0/\f1.type=ts/\f1.offset=1/\f2.type=tss/\f2.offset=2/\f3.type=tvs/\f3.offset=3)
  (uk:P.underlying tk=some (.int .i64)) (us:P.underlying ts=some .string) (ae:P.underlying tss=some (.slice ts)) (af:P.underlying tvs=some (.slice tv))
  (ck:P.cellsOf tk=1) (cs':P.cellsOf ts=1) (ai:P.cellsOf tss=1) (ab:P.cellsOf tvs=1) (bs:0<P.bytesOf ts) (bv:0<P.bytesOf tv):
  ∀(fuel:Nat) (cs:List Value) (x:DataW H×List MemPlace),DataW.trod enc P W 0 sp held fuel tv cs=some x->zsg P tv x.1->∃t:Tr,Rd (Fz W) .tree t cs:=by
 intro fuel
 induction fuel using Dt with
 |_ fuel ih=>
  intro cs x h hw
  obtain⟨xs,n,rfl,hx,hl,aj,Z⟩:=DataW.trod_struct hu h
  have aa:∀(j:Nat) (f:Field) (hj:j<xs.length),(#[f0,f1,f2,f3]:Array Field)[j]?=some f->zsg P f.type (xs[j]).1:=λj f hj hf m hm=>hw m (by
   rw[hx]
   unfold DataW.weights
   rw[hu]
   exact DataW.weights_mem_each (j:=j) (t:=f.type) (d:=(xs[j]).1) (by rw[BN,BP,hf];rfl) (by rw[BN,Aq hj];rfl) m hm)
  obtain⟨a0,o0,a1,o1,a2,o2,a3,o3⟩:=t0
  have g0:=Z 0 f0 rfl
  have g1:=Z 1 f1 rfl
  have g2:=Z 2 f2 rfl
  have g3:=Z 3 f3 rfl
  have ak:xs.length=4:=aj
  rw[a0,o0,ck,Aq (by omega)]at g0
  rw[a1,o1,cs',Aq (by omega)]at g1
  rw[a2,o2,ai,Aq (by omega)]at g2
  rw[a3,o3,ab,Aq (by omega)]at g3
  obtain⟨k,e0⟩:=qdt uk g0
  obtain⟨s,e1⟩:=z8h us g1
  obtain⟨ks,e2⟩:=qaw ae us cs' bs g2 (by have:=aa 2 f2 (by omega) rfl;rw[a2]at this;exact this)
  obtain⟨is,e3⟩:=z8g (T:=.tree) af hc (by decide) bv (λm hm cs y hy ah=>ih m (by omega) cs y hy ah) g3 (by have:=aa 3 f3 (by omega) rfl;rw[a3]at this;exact this)
  obtain⟨vk,q2,h2⟩:=e2
  obtain⟨vi,q3,h3⟩:=e3
  have:=four (hl.trans hc) e0 e1 q2 q3
  subst this
  exact⟨.mk k s ks is,TrRd.of ⟨vk,rfl,h2⟩ ⟨vi,rfl,h3⟩⟩
end
theorem zsh{f:FuncId}{W:World}{args:List Arg}{vs:Array Value}(H:PC P (Fz W) f args [.bool] (λr=>r=true))(ha:Xv (Fz W) args vs.toList):
  Calls P f vs W λe w'=>e=.returned (.bool true)/\Below W.heap.size W w':=by
 have H':=H W.heap (Fz W) vs.toList (Fr.le.refl _) (Fz.ag W) ha
 rw[Array.toArray_toList]at H'
 refine(H' W W.drawn).mono ?_
 rintro e w' ⟨v,d',h',rfl,rfl,k,M',r,_,_,_,hr,Z⟩
 have Z:r=true:=Z
 subst Z
 rw[zn1 hr]
 exact⟨rfl,rfl,rfl,rfl,k.size,k.get⟩
theorem z5k{M:Fr}{t:Tr}{cs:Array Value}(h:Rd M .tree t cs.toList):RdV M .tree t (.agg cs):=by
 unfold RdV;simp only[zjf,if_true];exact⟨cs.toList,by simp,h⟩
theorem Fz.var{W:World}{n:String}{g:Nat}{cs:Array Value}(hg:P.globalNamed n=some g)(h:W.var? P n=some cs):Fz W g=some cs:=by
 unfold World.var? at h
 rw[hg]at h
 exact h
end
end Go.X
end
section
namespace Go.Proofs
section
theorem Tryz.mixed:AY.follows .mixedOrders=true:=by kernel_rfl
noncomputable abbrev Tp:= AY
end
end Go.Proofs
end
section
namespace Go.X
section
theorem PF{gl:Fr}{args:List Arg}{f:FuncId}{fn:Func}{rt:List Ty}{R:Els rt->Prop}{F:Prop}(pl:PlanA)(rs:List ResultVar)(n:Nat)(hf:AY.funcs[f]?=some fn)(H:F)(hb:Qy fn=true:=by kernel_rfl)(hr:fn.results.toList=rs:=by kernel_rfl)(hn:fn.ntmps=n:=by kernel_rfl)(hz:Nat.ble args.length n=true:=by kernel_rfl)(e:F=WA Tp gl 26 n pl (codeOf fn) [] (qgm Tp rs rt R) (zsf 0 args) []:=by kernel_rfl):PC Tp gl f args rt R:=zw4 Tryz.mixed gl 26 pl args hf hb hr hn hz H e
theorem zev(gl:Fr)(v0:Tr)(Z:Int)(R:Bool->Prop)
  (H:PC Tp gl 91 [Arg.mk .tree (Tr.mk v0.kind v0.text v0.keys v0.items),Arg.mk (.int .i64) Z,Arg.mk (.int .i64) 0] [.int .i64] (λa:Int=>∃b:Bool->Prop,(decide (a>=0)=true->PC Tp gl 92 [Arg.mk .tree (Tr.mk v0.kind v0.text v0.keys v0.items)] [.bool] b)/\∀c:Bool,(decide (a>=0)=true->b c)->R (bif (decide (a>=0))then c else false))):
  PC Tp gl 32 [Arg.mk .tree v0,Arg.mk (.int .i64) Z] [.bool] R:=
 PF ⟨[],[],[],[]⟩ [.tmp 4] 15 Tryz.func32 H
theorem zb0(gl:Fr)(a0:Tr)(b1:Tr)(R:Bool->Prop)
  (H:((bif (bif (bif (a0.kind != b1.kind)then true else(!(a0.text.toList==b1.text.toList)))then true else((a0.keys.length:Int) != (b1.keys.length:Int)))then true else((a0.items.length:Int) != (b1.items.length:Int)))=true->R false)/\((bif (bif (bif (a0.kind != b1.kind)then true else(!(a0.text.toList==b1.text.toList)))then true else((a0.keys.length:Int) != (b1.keys.length:Int)))then true else((a0.items.length:Int) != (b1.items.length:Int)))=false->∃(a:Int->Prop) (b:Int->Nat),a 0/\∀c:Int,a c->((decide (c<a0.keys.length)=true->∃d,(0<=c/\a0.keys[c.toNat]?=some d)/\∃e,(0<=c/\b1.keys[c.toNat]?=some e)/\((!(d.toList==e.toList))=true->R false)/\((!(d.toList==e.toList))=false->(a (Aa .i64 (c+1))/\b (Aa .i64 (c+1))<b c)))/\(decide (c<a0.keys.length)=false->∃(f:Int->Prop) (g:Int->Nat),f 0/\∀i:Int,f i->((decide (i<a0.items.length)=true->∃j,(0<=i/\a0.items[i.toNat]?=some j)/\∃k,(0<=i/\b1.items[i.toNat]?=some k)/\PC Tp gl 16 [Arg.mk .tree (Tr.mk j.kind j.text j.keys j.items),Arg.mk .tree (Tr.mk k.kind k.text k.keys k.items)] [.bool] (λl:Bool=>((!l)=true->R false)/\((!l)=false->(f (Aa .i64 (i+1))/\g (Aa .i64 (i+1))<g i))))/\(decide (i<a0.items.length)=false->R true)))))):
  PC Tp gl 16 [Arg.mk .tree a0,Arg.mk .tree b1] [.bool] R:=
 PF ⟨[(11,10)],[],[(4,⟨[(5,.one (.dat (.int .i64)))],[],[2,3],[100320]⟩),(9,⟨[(6,.one (.dat (.int .i64)))],[],[2,3],[100384]⟩)],[]⟩ [.tmp 4] 76 Tryz.func16 H
theorem zfs(gl:Fr)(Z:Bt)(R:(Int×Bool)->Prop)
  (H:(((!(bif (Z.toList==(⟨#[]⟩:Bt).toList)then true else(decide ((Z.size:Int)>9))))&&(!(Z.toList==(⟨#[48]⟩:Bt).toList)))=true->(0<=(0:Int)/\(0:Int)<(Z.size:Int)))/\∃a:Bool->Prop,((!(bif (bif (Z.toList==(⟨#[]⟩:Bt).toList)then true else(decide ((Z.size:Int)>9)))then true else(bif (!(Z.toList==(⟨#[48]⟩:Bt).toList))then((zb Z (0:Int).toNat:Int)==48)else false)))=true->PC Tp gl 209 [Arg.mk .str Z,Arg.mk .str (⟨#[43,45,95]⟩:Bt)] [.bool] a)/\∀b:Bool,((!(bif (bif (Z.toList==(⟨#[]⟩:Bt).toList)then true else(decide ((Z.size:Int)>9)))then true else(bif (!(Z.toList==(⟨#[48]⟩:Bt).toList))then((zb Z (0:Int).toNat:Int)==48)else false)))=true->a b)->((bif (bif (bif (Z.toList==(⟨#[]⟩:Bt).toList)then true else(decide ((Z.size:Int)>9)))then true else(bif (!(Z.toList==(⟨#[48]⟩:Bt).toList))then((zb Z (0:Int).toNat:Int)==48)else false))then true else b)=true->R (0,false))/\((bif (bif (bif (Z.toList==(⟨#[]⟩:Bt).toList)then true else(decide ((Z.size:Int)>9)))then true else(bif (!(Z.toList==(⟨#[48]⟩:Bt).toList))then((zb Z (0:Int).toNat:Int)==48)else false))then true else b)=false->PC Tp gl 210 [Arg.mk .str Z] [.int .i64,.err] (λc:Int×Bool=>((!c.2)=true->R (0,false))/\((!c.2)=false->R (c.1,true))))):
  PC Tp gl 135 [Arg.mk .str Z] [.int .i64,.bool] R:=
 PF ⟨[],[],[],[]⟩ [.tmp 2,.tmp 3] 34 Tryz.func135 H
theorem zew(gl:Fr)(l0:List Tr)(R:Tr->Prop)
  (H:R (Tr.mk 5 (⟨#[]⟩:Bt) [] l0)):
  PC Tp gl 29 [Arg.mk (.row .tree) l0] [.tree] R:=
 PF ⟨[],[],[],[]⟩ [.cell 2 26] 5 Tryz.func29 H
theorem zph(gl:Fr)(n0:Int)(R:Tr->Prop)
  (H:PC Tp gl 110 [Arg.mk (.int .i64) n0] [.pair .bool (.pair .str (.int .i64))] (λa:Bool×Bt×Int=>PC Tp gl 26 [Arg.mk (.pair .bool (.pair .str (.int .i64))) (a.1,(a.2.1,a.2.2))] [.str] (λb:Bt=>R (Tr.mk 3 b [] [])))):
  PC Tp gl 58 [Arg.mk (.int .i64) n0] [.tree] R:=
 PF ⟨[],[],[],[]⟩ [.cell 2 26] 7 Tryz.func58 H
theorem zft(gl:Fr)(s0:Bt)(R:Bool->Prop)
  (H:PC Tp gl 80 [Arg.mk .str s0] [.int .i64,.bool] (λa:Int×Bool=>R a.2)):
  PC Tp gl 134 [Arg.mk .str s0] [.bool] R:=
 PF ⟨[],[],[],[]⟩ [.tmp 2] 11 Tryz.func134 H
theorem zex(gl:Fr)(v0:Tr)(aa:Int)(Z:Int)(R:Int->Prop)
  (H:(decide (Z>60)=true->R (-1))/\(decide (Z>60)=false->∃(a:Int->Int->Prop) (b:Int->Int->Nat),a (Aa .i64 ((Aa .i64 (aa-1))-(v0.keys.length:Int))) 0/\∀c d:Int,a c d->(((bif (decide (d<v0.items.length))then(decide (c>=0))else false)=true->∃e,(0<=d/\v0.items[d.toNat]?=some e)/\PC Tp gl 91 [Arg.mk .tree (Tr.mk e.kind e.text e.keys e.items),Arg.mk (.int .i64) c,Arg.mk (.int .i64) (Aa .i64 (Z+1))] [.int .i64] (λf:Int=>(a f (Aa .i64 (d+1))/\b f (Aa .i64 (d+1))<b c d)))/\((bif (decide (d<v0.items.length))then(decide (c>=0))else false)=false->R c)))):
  PC Tp gl 91 [Arg.mk .tree v0,Arg.mk (.int .i64) aa,Arg.mk (.int .i64) Z] [.int .i64] R:=
 PF ⟨[],[],[(5,⟨[(1,.one (.dat (.int .i64))),(7,.one (.dat (.int .i64)))],[],[3],[100064,100448]⟩)],[]⟩ [.tmp 6] 37 Tryz.func91 H
theorem zb1(gl:Fr)(v0:Tr)(R:Bool->Prop)
  (H:(decide ((v0.text.size:Int)>2048)=true->R false)/\(decide ((v0.text.size:Int)>2048)=false->∃(a:Int->Prop) (b:Int->Nat),a 0/\∀c:Int,a c->((decide (c<v0.keys.length)=true->∃d,(0<=c/\v0.keys[c.toNat]?=some d)/\(decide ((d.size:Int)>1024)=true->R false)/\(decide ((d.size:Int)>1024)=false->(a (Aa .i64 (c+1))/\b (Aa .i64 (c+1))<b c)))/\(decide (c<v0.keys.length)=false->∃(e:Int->Prop) (f:Int->Nat),e 0/\∀g:Int,e g->((decide (g<v0.items.length)=true->∃i,(0<=g/\v0.items[g.toNat]?=some i)/\PC Tp gl 92 [Arg.mk .tree (Tr.mk i.kind i.text i.keys i.items)] [.bool] (λj:Bool=>((!j)=true->R false)/\((!j)=false->(e (Aa .i64 (g+1))/\f (Aa .i64 (g+1))<f g))))/\(decide (g<v0.items.length)=false->R true)))))):
  PC Tp gl 92 [Arg.mk .tree v0] [.bool] R:=
 PF ⟨[],[],[(4,⟨[(3,.one (.dat (.int .i64)))],[],[1],[100192]⟩),(9,⟨[(4,.one (.dat (.int .i64)))],[],[1],[100256]⟩)],[]⟩ [.tmp 2] 39 Tryz.func92 H
theorem zjh(gl:Fr)(n0:Bool×Bt×Int)(R:Bt->Prop)
  (H:PC Tp gl 78 [Arg.mk (.pair .bool (.pair .str (.int .i64))) (n0.1,(n0.2.1,n0.2.2))] [.bool] (λa:Bool=>((!a)=true->R (⟨#[]⟩:Bt))/\((!a)=false->((n0.2.1.toList==(⟨#[]⟩:Bt).toList)=true->R (⟨#[48]⟩:Bt))/\((n0.2.1.toList==(⟨#[]⟩:Bt).toList)=false->∀b:Bt->Prop,(∀c:Bt,(((n0.2.2 != 0)=true->PC Tp gl 79 [Arg.mk (.int .i64) n0.2.2] [.str] (λd:Bt=>Zw (((⟨#[101]⟩:Bt)).size+d.size)/\Zw (c.size+((⟨#[101]⟩:Bt)++d).size)/\R (c++((⟨#[101]⟩:Bt)++d))))/\((n0.2.2 != 0)=false->R c))->b c)->(n0.1=true->Zw (((⟨#[45]⟩:Bt)).size+n0.2.1.size)/\b ((⟨#[45]⟩:Bt)++n0.2.1))/\(n0.1=false->b n0.2.1))))):
  PC Tp gl 26 [Arg.mk (.pair .bool (.pair .str (.int .i64))) n0] [.str] R:=
 PF ⟨[],[],[],[(8,⟨[(3,.one (.dat .str))],[],[1],[100192]⟩)]⟩ [.tmp 2] 26 Tryz.func26 H
theorem zpi(gl:Fr)(n0:Int)(R:(Bool×Bt×Int)->Prop)
  (H:PC Tp gl 79 [Arg.mk (.int .i64) n0] [.str] (λa:Bt=>PC Tp gl 25 [Arg.mk .str a] [.pair .bool (.pair .str (.int .i64)),.int .i64] (λb:(Bool×Bt×Int)×Int=>R (b.1.1,(b.1.2.1,b.1.2.2))))):
  PC Tp gl 110 [Arg.mk (.int .i64) n0] [.pair .bool (.pair .str (.int .i64))] R:=
 PF ⟨[],[],[],[]⟩ [.cell 2 46] 12 Tryz.func110 H
theorem zji(gl:Fr)(s0:Bt)(R:(Int×Bool)->Prop)
  (H:PC Tp gl 150 [Arg.mk .str s0] [.bool] (λa:Bool=>(a=true->R ((s0.size:Int),true))/\(a=false->∃(b:(Bt×Nat)->Prop) (c:(Bt×Nat)->Nat),b (s0,0)/\∀Z:Bt×Nat,b Z->(((nxB Z.1 Z.2)=true->(nxB Z.1 Z.2)=true/\(nxB Z.1 Z.2)=true/\(((nxR Z.1 Z.2:Int) != 65533)=true->(b (Z.1,nxP Z.1 Z.2)/\c (Z.1,nxP Z.1 Z.2)<c Z))/\(((nxR Z.1 Z.2:Int) != 65533)=false->(0<=(Z.2:Int)/\(Z.2:Int)<=(s0.size:Int)/\(s0.size:Int)<=(s0.size:Int))/\PC Tp gl 151 [Arg.mk .str (s0.extract (Z.2:Int).toNat (s0.size:Int).toNat)] [.int .i32,.int .i64] (λd:Int×Int=>((d.2==1)=true->R ((Z.2:Int),false))/\((d.2==1)=false->(b (Z.1,nxP Z.1 Z.2)/\c (Z.1,nxP Z.1 Z.2)<c Z)))))/\((nxB Z.1 Z.2)=false->R ((s0.size:Int),true)))))):
  PC Tp gl 80 [Arg.mk .str s0] [.int .i64,.bool] R:=
 PF ⟨[],[],[(4,⟨[],[(13,[.dat .iter])],[],[1000832]⟩)],[]⟩ [.tmp 2,.tmp 3] 32 Tryz.func80 H
theorem zjj(gl:Fr)(v0:Tr)(R:Bool->Prop)
  (H:PC Tp gl 56 [Arg.mk .tree (Tr.mk v0.kind v0.text v0.keys v0.items)] [.int .i64] (λa:Int=>∃b:Int->Prop,(decide (a<=4096)=true->PC Tp gl 161 [Arg.mk .tree (Tr.mk v0.kind v0.text v0.keys v0.items)] [.int .i64] b)/\∀c:Int,(decide (a<=4096)=true->b c)->R (bif (decide (a<=4096))then(decide (c<=32))else false))):
  PC Tp gl 93 [Arg.mk .tree v0] [.bool] R:=
 PF ⟨[],[],[],[]⟩ [.tmp 2] 11 Tryz.func93 H
theorem zmf(gl:Fr)(v0:Tr)(R:Bool->Prop)
  (H:((v0.kind==5)=true->R (bif (!(decide ((v0.keys.length:Int)>0)))then(v0.text.toList==(⟨#[]⟩:Bt).toList)else false))/\((v0.kind==5)=false->((v0.kind==6)=true->PC Tp gl 164 [Arg.mk (.row .str) v0.keys,Arg.mk (.int .i64) (v0.items.length:Int)] [.bool] (λa:Bool=>R (bif a then(v0.text.toList==(⟨#[]⟩:Bt).toList)else false)))/\((v0.kind==6)=false->((bif (decide ((v0.keys.length:Int)>0))then true else(decide ((v0.items.length:Int)>0)))=true->R false)/\((bif (decide ((v0.keys.length:Int)>0))then true else(decide ((v0.items.length:Int)>0)))=false->((v0.kind==1)=true->R (v0.text.toList==(⟨#[]⟩:Bt).toList))/\((v0.kind==1)=false->((v0.kind==2)=true->R (bif (v0.text.toList==(⟨#[116,114,117,101]⟩:Bt).toList)then true else(v0.text.toList==(⟨#[102,97,108,115,101]⟩:Bt).toList)))/\((v0.kind==2)=false->((v0.kind==3)=true->PC Tp gl 165 [Arg.mk .str v0.text] [.pair .bool (.pair .str (.int .i64)),.bool] (λb:(Bool×Bt×Int)×Bool=>R b.2))/\((v0.kind==3)=false->((v0.kind==4)=true->PC Tp gl 166 [Arg.mk .str v0.text] [.bool] (λc:Bool=>R c))/\((v0.kind==4)=false->((v0.kind==7)=true->PC Tp gl 167 [Arg.mk .str v0.text] [.bool] (λd:Bool=>R d))/\((v0.kind==7)=false->R false))))))))):
  PC Tp gl 96 [Arg.mk .tree v0] [.bool] R:=
 PF ⟨[],[],[],[]⟩ [.tmp 2] 79 Tryz.func96 H
theorem zhx(gl:Fr)(n0:Bool×Bt×Int)(R:Bool->Prop)
  (H:(((n0.1==false)&&((n0.2.1.toList==(⟨#[]⟩:Bt).toList)&&((n0.2.2==0)&&true)))=true->R true)/\(((n0.1==false)&&((n0.2.1.toList==(⟨#[]⟩:Bt).toList)&&((n0.2.2==0)&&true)))=false->PC Tp gl 141 [Arg.mk .str n0.2.1] [.bool] (λa:Bool=>((!a)=true->((!a)=true->R false)/\((!a)=false->R (bif (decide (n0.2.2>=(-1000000)))then(decide (n0.2.2<=1000000))else false)))/\((!a)=false->(decide ((n0.2.1.size:Int)>1000)=true->(decide ((n0.2.1.size:Int)>1000)=true->R false)/\(decide ((n0.2.1.size:Int)>1000)=false->R (bif (decide (n0.2.2>=(-1000000)))then(decide (n0.2.2<=1000000))else false)))/\(decide ((n0.2.1.size:Int)>1000)=false->(0<=(0:Int)/\(0:Int)<(n0.2.1.size:Int))/\(((zb n0.2.1 (0:Int).toNat:Int)==48)=true->(((zb n0.2.1 (0:Int).toNat:Int)==48)=true->R false)/\(((zb n0.2.1 (0:Int).toNat:Int)==48)=false->R (bif (decide (n0.2.2>=(-1000000)))then(decide (n0.2.2<=1000000))else false)))/\(((zb n0.2.1 (0:Int).toNat:Int)==48)=false->(0<=(Aa .i64 ((n0.2.1.size:Int)-1))/\(Aa .i64 ((n0.2.1.size:Int)-1))<(n0.2.1.size:Int))/\(((zb n0.2.1 (Aa .i64 ((n0.2.1.size:Int)-1)).toNat:Int)==48)=true->R false)/\(((zb n0.2.1 (Aa .i64 ((n0.2.1.size:Int)-1)).toNat:Int)==48)=false->R (bif (decide (n0.2.2>=(-1000000)))then(decide (n0.2.2<=1000000))else false)))))))):
  PC Tp gl 78 [Arg.mk (.pair .bool (.pair .str (.int .i64))) n0] [.bool] R:=
 PF ⟨[],[],[],[]⟩ [.tmp 2] 34 Tryz.func78 H
theorem zhy(gl:Fr)(s0:Bt)(R:((Bool×Bt×Int)×Int)->Prop)
  (H:PC Tp gl 75 [Arg.mk .str s0] [.pair .bool (.pair .bool (.pair .str (.pair .str .str))),.bool] (λa:(Bool×Bool×Bt×Bt×Bt)×Bool=>PC Tp gl 76 [Arg.mk .str a.1.2.2.2.2,Arg.mk .str (⟨#[48]⟩:Bt)] [.str] (λb:Bt=>((!a.2)=true->R ((false,((⟨#[]⟩:Bt),0)),2))/\((!a.2)=false->((decide ((Aa .i64 ((a.1.2.2.1.size:Int)+(a.1.2.2.2.1.size:Int)))>1000))=true->R ((false,((⟨#[]⟩:Bt),0)),3))/\((decide ((Aa .i64 ((a.1.2.2.1.size:Int)+(a.1.2.2.2.1.size:Int)))>1000))=false->(decide ((b.size:Int)>9)=true->R ((false,((⟨#[]⟩:Bt),0)),4))/\(decide ((b.size:Int)>9)=false->∃(c:Int->Bool->Bt->Int->(Bt×Nat)->Prop) (d:Int->Bool->Bt->Int->(Bt×Nat)->Nat),c 0 false (⟨#[]⟩:Bt) 0 (b,0)/\∀e:Int,∀aa:Bool,∀ae:Bt,∀ab:Int,∀Z:Bt×Nat,c e aa ae ab Z->(((nxB Z.1 Z.2)=true->(nxB Z.1 Z.2)=true/\(c (Aa .i64 ((Aa .i64 (10*e))+(Aa .i64 (Aa .i32 ((nxR Z.1 Z.2)-48))))) aa ae ab (Z.1,nxP Z.1 Z.2)/\d (Aa .i64 ((Aa .i64 (10*e))+(Aa .i64 (Aa .i32 ((nxR Z.1 Z.2)-48))))) aa ae ab (Z.1,nxP Z.1 Z.2)<d e aa ae ab Z))/\((nxB Z.1 Z.2)=false->∀f:Int->Bool->Bt->Int->Prop,(∀g:Int,∀ah:Bool,∀af:Bt,∀ai:Int,(Zw (a.1.2.2.1.size+a.1.2.2.2.1.size)/\PC Tp gl 76 [Arg.mk .str (a.1.2.2.1++a.1.2.2.2.1),Arg.mk .str (⟨#[48]⟩:Bt)] [.str] (λi:Bt=>((i.toList==(⟨#[]⟩:Bt).toList)=true->R ((false,((⟨#[]⟩:Bt),0)),0))/\((i.toList==(⟨#[]⟩:Bt).toList)=false->PC Tp gl 77 [Arg.mk .str i,Arg.mk .str (⟨#[48]⟩:Bt)] [.str] (λj:Bt=>PC Tp gl 78 [Arg.mk (.pair .bool (.pair .str (.int .i64))) (a.1.1,(j,Aa .i64 ((Aa .i64 ((Aa .i64 (g-(a.1.2.2.2.1.size:Int)))+(i.size:Int)))-(j.size:Int))))] [.bool] (λk:Bool=>((!k)=true->R ((false,((⟨#[]⟩:Bt),0)),4))/\((!k)=false->R ((a.1.1,(j,Aa .i64 ((Aa .i64 ((Aa .i64 (g-(a.1.2.2.2.1.size:Int)))+(i.size:Int)))-(j.size:Int)))),0)))))))->f g ah af ai)->(a.1.2.1=true->f (Aa .i64 (0-e)) aa ae ab)/\(a.1.2.1=false->f e aa ae ab))))))))):
  PC Tp gl 25 [Arg.mk .str s0] [.pair .bool (.pair .str (.int .i64)),.int .i64] R:=
 PF ⟨[],[],[(11,⟨[(7,.one (.dat (.int .i64)))],[(2,[.dat .bool,.dat .str,.dat (.int .i64)]),(41,[.dat .iter])],[4],[100448,1000128,1000129,1000130,1002624]⟩)],[(16,⟨[(7,.one (.dat (.int .i64)))],[(2,[.dat .bool,.dat .str,.dat (.int .i64)])],[4],[100448,1000128,1000129,1000130]⟩)]⟩ [.cell 2 46,.tmp 3] 86 Tryz.func25 H
theorem Q5(gl:Fr)(s0:Bt)(R:Bool->Prop)
  (H:∃(a:Bt->Prop) (b:Bt->Nat),a s0/\∀c:Bt,a c->((decide ((c.size:Int)>0)=true->(0<=(0:Int)/\(0:Int)<(c.size:Int))/\(decide ((zb c (0:Int).toNat:Int)<128)=true->(0<=(1:Int)/\(1:Int)<=(c.size:Int)/\(c.size:Int)<=(c.size:Int))/\∃d:Int->Prop,((decide ((((c.extract (1:Int).toNat (c.size:Int).toNat).size:Int):Int)>8))=true->PC Tp gl 217 [Arg.mk .str (c.extract (1:Int).toNat (c.size:Int).toNat)] [.int .u64] d)/\∀e:Int,((decide ((((c.extract (1:Int).toNat (c.size:Int).toNat).size:Int):Int)>8))=true->d e)->((bif (decide ((((c.extract (1:Int).toNat (c.size:Int).toNat).size:Int):Int)>8))then((Aa .u64 (((Ao (Ak .u64) e) &&& (Ao (Ak .u64) 9259542123273814144)).toNat:Int):Int)==0)else false)=true->(0<=(8:Int)/\(8:Int)<=((c.extract (1:Int).toNat (c.size:Int).toNat).size:Int)/\(((c.extract (1:Int).toNat (c.size:Int).toNat).size:Int):Int)<=((c.extract (1:Int).toNat (c.size:Int).toNat).size:Int))/\((decide (((((c.extract (1:Int).toNat (c.size:Int).toNat).extract (8:Int).toNat (((c.extract (1:Int).toNat (c.size:Int).toNat).size:Int):Int).toNat).size:Int):Int)>16))=true->(0<=(8:Int)/\(8:Int)<=(((c.extract (1:Int).toNat (c.size:Int).toNat).extract (8:Int).toNat (((c.extract (1:Int).toNat (c.size:Int).toNat).size:Int):Int).toNat).size:Int)/\((((c.extract (1:Int).toNat (c.size:Int).toNat).extract (8:Int).toNat (((c.extract (1:Int).toNat (c.size:Int).toNat).size:Int):Int).toNat).size:Int):Int)<=(((c.extract (1:Int).toNat (c.size:Int).toNat).extract (8:Int).toNat (((c.extract (1:Int).toNat (c.size:Int).toNat).size:Int):Int).toNat).size:Int)))/\∃f:Int->Prop,((decide (((((c.extract (1:Int).toNat (c.size:Int).toNat).extract (8:Int).toNat (((c.extract (1:Int).toNat (c.size:Int).toNat).size:Int):Int).toNat).size:Int):Int)>16))=true->PC Tp gl 217 [Arg.mk .str ((c.extract (1:Int).toNat (c.size:Int).toNat).extract (8:Int).toNat (((c.extract (1:Int).toNat (c.size:Int).toNat).size:Int):Int).toNat)] [.int .u64] f)/\∀g:Int,((decide (((((c.extract (1:Int).toNat (c.size:Int).toNat).extract (8:Int).toNat (((c.extract (1:Int).toNat (c.size:Int).toNat).size:Int):Int).toNat).size:Int):Int)>16))=true->f g)->∃i:Int->Prop,((decide (((((c.extract (1:Int).toNat (c.size:Int).toNat).extract (8:Int).toNat (((c.extract (1:Int).toNat (c.size:Int).toNat).size:Int):Int).toNat).size:Int):Int)>16))=true->PC Tp gl 217 [Arg.mk .str (((c.extract (1:Int).toNat (c.size:Int).toNat).extract (8:Int).toNat (((c.extract (1:Int).toNat (c.size:Int).toNat).size:Int):Int).toNat).extract (8:Int).toNat ((((c.extract (1:Int).toNat (c.size:Int).toNat).extract (8:Int).toNat (((c.extract (1:Int).toNat (c.size:Int).toNat).size:Int):Int).toNat).size:Int):Int).toNat)] [.int .u64] i)/\∀j:Int,((decide (((((c.extract (1:Int).toNat (c.size:Int).toNat).extract (8:Int).toNat (((c.extract (1:Int).toNat (c.size:Int).toNat).size:Int):Int).toNat).size:Int):Int)>16))=true->i j)->((bif (decide (((((c.extract (1:Int).toNat (c.size:Int).toNat).extract (8:Int).toNat (((c.extract (1:Int).toNat (c.size:Int).toNat).size:Int):Int).toNat).size:Int):Int)>16))then((Aa .u64 (((Ao (Ak .u64) (Aa .u64 (((Ao (Ak .u64) g) ||| (Ao (Ak .u64) j)).toNat:Int))) &&& (Ao (Ak .u64) 9259542123273814144)).toNat:Int):Int)==0)else false)=true->(0<=(16:Int)/\(16:Int)<=(((c.extract (1:Int).toNat (c.size:Int).toNat).extract (8:Int).toNat (((c.extract (1:Int).toNat (c.size:Int).toNat).size:Int):Int).toNat).size:Int)/\((((c.extract (1:Int).toNat (c.size:Int).toNat).extract (8:Int).toNat (((c.extract (1:Int).toNat (c.size:Int).toNat).size:Int):Int).toNat).size:Int):Int)<=(((c.extract (1:Int).toNat (c.size:Int).toNat).extract (8:Int).toNat (((c.extract (1:Int).toNat (c.size:Int).toNat).size:Int):Int).toNat).size:Int))/\∃(k:Bt->Prop) (l:Bt->Nat),k (((c.extract (1:Int).toNat (c.size:Int).toNat).extract (8:Int).toNat (((c.extract (1:Int).toNat (c.size:Int).toNat).size:Int):Int).toNat).extract (16:Int).toNat ((((c.extract (1:Int).toNat (c.size:Int).toNat).extract (8:Int).toNat (((c.extract (1:Int).toNat (c.size:Int).toNat).size:Int):Int).toNat).size:Int):Int).toNat)/\∀m:Bt,k m->((decide ((m.size:Int)>32)=true->(0<=(8:Int)/\(8:Int)<=(m.size:Int)/\(m.size:Int)<=(m.size:Int)))/\(decide ((m.size:Int)>32)=true->(0<=(16:Int)/\(16:Int)<=(m.size:Int)/\(m.size:Int)<=(m.size:Int)))/\(decide ((m.size:Int)>32)=true->(0<=(24:Int)/\(24:Int)<=(m.size:Int)/\(m.size:Int)<=(m.size:Int)))/\∃n:Int->Prop,(decide ((m.size:Int)>32)=true->PC Tp gl 217 [Arg.mk .str m] [.int .u64] n)/\∀o:Int,(decide ((m.size:Int)>32)=true->n o)->∃p:Int->Prop,(decide ((m.size:Int)>32)=true->PC Tp gl 217 [Arg.mk .str (m.extract (8:Int).toNat (m.size:Int).toNat)] [.int .u64] p)/\∀q:Int,(decide ((m.size:Int)>32)=true->p q)->∃r:Int->Prop,(decide ((m.size:Int)>32)=true->PC Tp gl 217 [Arg.mk .str (m.extract (16:Int).toNat (m.size:Int).toNat)] [.int .u64] r)/\∀s:Int,(decide ((m.size:Int)>32)=true->r s)->∃t:Int->Prop,(decide ((m.size:Int)>32)=true->PC Tp gl 217 [Arg.mk .str (m.extract (24:Int).toNat (m.size:Int).toNat)] [.int .u64] t)/\∀u:Int,(decide ((m.size:Int)>32)=true->t u)->((bif (decide ((m.size:Int)>32))then((Aa .u64 (((Ao (Ak .u64) (Aa .u64 (((Ao (Ak .u64) (Aa .u64 (((Ao (Ak .u64) o) ||| (Ao (Ak .u64) q)).toNat:Int))) ||| (Ao (Ak .u64) (Aa .u64 (((Ao (Ak .u64) s) ||| (Ao (Ak .u64) u)).toNat:Int)))).toNat:Int))) &&& (Ao (Ak .u64) 9259542123273814144)).toNat:Int):Int)==0)else false)=true->(0<=(32:Int)/\(32:Int)<=(m.size:Int)/\(m.size:Int)<=(m.size:Int))/\(k (m.extract (32:Int).toNat (m.size:Int).toNat)/\l (m.extract (32:Int).toNat (m.size:Int).toNat)<l m))/\((bif (decide ((m.size:Int)>32))then((Aa .u64 (((Ao (Ak .u64) (Aa .u64 (((Ao (Ak .u64) (Aa .u64 (((Ao (Ak .u64) o) ||| (Ao (Ak .u64) q)).toNat:Int))) ||| (Ao (Ak .u64) (Aa .u64 (((Ao (Ak .u64) s) ||| (Ao (Ak .u64) u)).toNat:Int)))).toNat:Int))) &&& (Ao (Ak .u64) 9259542123273814144)).toNat:Int):Int)==0)else false)=false->(a m/\b m<b c))))/\((bif (decide (((((c.extract (1:Int).toNat (c.size:Int).toNat).extract (8:Int).toNat (((c.extract (1:Int).toNat (c.size:Int).toNat).size:Int):Int).toNat).size:Int):Int)>16))then((Aa .u64 (((Ao (Ak .u64) (Aa .u64 (((Ao (Ak .u64) g) ||| (Ao (Ak .u64) j)).toNat:Int))) &&& (Ao (Ak .u64) 9259542123273814144)).toNat:Int):Int)==0)else false)=false->(a ((c.extract (1:Int).toNat (c.size:Int).toNat).extract (8:Int).toNat (((c.extract (1:Int).toNat (c.size:Int).toNat).size:Int):Int).toNat)/\b ((c.extract (1:Int).toNat (c.size:Int).toNat).extract (8:Int).toNat (((c.extract (1:Int).toNat (c.size:Int).toNat).size:Int):Int).toNat)<b c)))/\((bif (decide ((((c.extract (1:Int).toNat (c.size:Int).toNat).size:Int):Int)>8))then((Aa .u64 (((Ao (Ak .u64) e) &&& (Ao (Ak .u64) 9259542123273814144)).toNat:Int):Int)==0)else false)=false->(a (c.extract (1:Int).toNat (c.size:Int).toNat)/\b (c.extract (1:Int).toNat (c.size:Int).toNat)<b c)))/\(decide ((zb c (0:Int).toNat:Int)<128)=false->(0<=(zb c (0:Int).toNat:Int)/\(zb c (0:Int).toNat:Int)<((256:Nat):Int))/\∃v,zhh gl 0 (0+(zb c (0:Int).toNat:Int).toNat*1) (.int .u8 v)/\(0<=(v.fdiv (2 ^ 4):Int)/\(v.fdiv (2 ^ 4):Int)<((16:Nat):Int))/\∃w,zhh gl 1 (0+(v.fdiv (2 ^ 4):Int).toNat*2) (.int .u8 w)/\∃x,zhh gl 1 (0+(v.fdiv (2 ^ 4):Int).toNat*2+1) (.int .u8 x)/\(((Aa .i64 (Aa .u8 (((Ao (Ak .u8) v) &&& (Ao (Ak .u8) 7)).toNat:Int)):Int)==2)=true->((!(decide ((c.size:Int)<2)))=true->(0<=(1:Int)/\(1:Int)<(c.size:Int)))/\((!(bif (decide ((c.size:Int)<2))then true else(decide ((zb c (1:Int).toNat:Int)<w))))=true->(0<=(1:Int)/\(1:Int)<(c.size:Int)))/\((bif (bif (decide ((c.size:Int)<2))then true else(decide ((zb c (1:Int).toNat:Int)<w)))then true else(decide (x<(zb c (1:Int).toNat))))=true->R false)/\((bif (bif (decide ((c.size:Int)<2))then true else(decide ((zb c (1:Int).toNat:Int)<w)))then true else(decide (x<(zb c (1:Int).toNat))))=false->(0<=(2:Int)/\(2:Int)<=(c.size:Int)/\(c.size:Int)<=(c.size:Int))/\(a (c.extract (2:Int).toNat (c.size:Int).toNat)/\b (c.extract (2:Int).toNat (c.size:Int).toNat)<b c)))/\(((Aa .i64 (Aa .u8 (((Ao (Ak .u8) v) &&& (Ao (Ak .u8) 7)).toNat:Int)):Int)==2)=false->(((Aa .i64 (Aa .u8 (((Ao (Ak .u8) v) &&& (Ao (Ak .u8) 7)).toNat:Int)):Int)==3)=true->((!(decide ((c.size:Int)<3)))=true->(0<=(1:Int)/\(1:Int)<(c.size:Int)))/\((!(bif (decide ((c.size:Int)<3))then true else(decide ((zb c (1:Int).toNat:Int)<w))))=true->(0<=(1:Int)/\(1:Int)<(c.size:Int)))/\((!(bif (bif (decide ((c.size:Int)<3))then true else(decide ((zb c (1:Int).toNat:Int)<w)))then true else(decide (x<(zb c (1:Int).toNat)))))=true->(0<=(2:Int)/\(2:Int)<(c.size:Int)))/\((!(bif (bif (bif (decide ((c.size:Int)<3))then true else(decide ((zb c (1:Int).toNat:Int)<w)))then true else(decide (x<(zb c (1:Int).toNat))))then true else(decide ((zb c (2:Int).toNat:Int)<128))))=true->(0<=(2:Int)/\(2:Int)<(c.size:Int)))/\((bif (bif (bif (bif (decide ((c.size:Int)<3))then true else(decide ((zb c (1:Int).toNat:Int)<w)))then true else(decide (x<(zb c (1:Int).toNat))))then true else(decide ((zb c (2:Int).toNat:Int)<128)))then true else(decide ((191:Int)<(zb c (2:Int).toNat))))=true->R false)/\((bif (bif (bif (bif (decide ((c.size:Int)<3))then true else(decide ((zb c (1:Int).toNat:Int)<w)))then true else(decide (x<(zb c (1:Int).toNat))))then true else(decide ((zb c (2:Int).toNat:Int)<128)))then true else(decide ((191:Int)<(zb c (2:Int).toNat))))=false->(0<=(3:Int)/\(3:Int)<=(c.size:Int)/\(c.size:Int)<=(c.size:Int))/\(a (c.extract (3:Int).toNat (c.size:Int).toNat)/\b (c.extract (3:Int).toNat (c.size:Int).toNat)<b c)))/\(((Aa .i64 (Aa .u8 (((Ao (Ak .u8) v) &&& (Ao (Ak .u8) 7)).toNat:Int)):Int)==3)=false->(((Aa .i64 (Aa .u8 (((Ao (Ak .u8) v) &&& (Ao (Ak .u8) 7)).toNat:Int)):Int)==4)=true->((!(decide ((c.size:Int)<4)))=true->(0<=(1:Int)/\(1:Int)<(c.size:Int)))/\((!(bif (decide ((c.size:Int)<4))then true else(decide ((zb c (1:Int).toNat:Int)<w))))=true->(0<=(1:Int)/\(1:Int)<(c.size:Int)))/\((!(bif (bif (decide ((c.size:Int)<4))then true else(decide ((zb c (1:Int).toNat:Int)<w)))then true else(decide (x<(zb c (1:Int).toNat)))))=true->(0<=(2:Int)/\(2:Int)<(c.size:Int)))/\((!(bif (bif (bif (decide ((c.size:Int)<4))then true else(decide ((zb c (1:Int).toNat:Int)<w)))then true else(decide (x<(zb c (1:Int).toNat))))then true else(decide ((zb c (2:Int).toNat:Int)<128))))=true->(0<=(2:Int)/\(2:Int)<(c.size:Int)))/\((!(bif (bif (bif (bif (decide ((c.size:Int)<4))then true else(decide ((zb c (1:Int).toNat:Int)<w)))then true else(decide (x<(zb c (1:Int).toNat))))then true else(decide ((zb c (2:Int).toNat:Int)<128)))then true else(decide ((191:Int)<(zb c (2:Int).toNat)))))=true->(0<=(3:Int)/\(3:Int)<(c.size:Int)))/\((!(bif (bif (bif (bif (bif (decide ((c.size:Int)<4))then true else(decide ((zb c (1:Int).toNat:Int)<w)))then true else(decide (x<(zb c (1:Int).toNat))))then true else(decide ((zb c (2:Int).toNat:Int)<128)))then true else(decide ((191:Int)<(zb c (2:Int).toNat))))then true else(decide ((zb c (3:Int).toNat:Int)<128))))=true->(0<=(3:Int)/\(3:Int)<(c.size:Int)))/\((bif (bif (bif (bif (bif (bif (decide ((c.size:Int)<4))then true else(decide ((zb c (1:Int).toNat:Int)<w)))then true else(decide (x<(zb c (1:Int).toNat))))then true else(decide ((zb c (2:Int).toNat:Int)<128)))then true else(decide ((191:Int)<(zb c (2:Int).toNat))))then true else(decide ((zb c (3:Int).toNat:Int)<128)))then true else(decide ((191:Int)<(zb c (3:Int).toNat))))=true->R false)/\((bif (bif (bif (bif (bif (bif (decide ((c.size:Int)<4))then true else(decide ((zb c (1:Int).toNat:Int)<w)))then true else(decide (x<(zb c (1:Int).toNat))))then true else(decide ((zb c (2:Int).toNat:Int)<128)))then true else(decide ((191:Int)<(zb c (2:Int).toNat))))then true else(decide ((zb c (3:Int).toNat:Int)<128)))then true else(decide ((191:Int)<(zb c (3:Int).toNat))))=false->(0<=(4:Int)/\(4:Int)<=(c.size:Int)/\(c.size:Int)<=(c.size:Int))/\(a (c.extract (4:Int).toNat (c.size:Int).toNat)/\b (c.extract (4:Int).toNat (c.size:Int).toNat)<b c)))/\(((Aa .i64 (Aa .u8 (((Ao (Ak .u8) v) &&& (Ao (Ak .u8) 7)).toNat:Int)):Int)==4)=false->R false)))))/\(decide ((c.size:Int)>0)=false->R true))):
  PC Tp gl 150 [Arg.mk .str s0] [.bool] R:=
 PF ⟨[],[(7,8,[],[0,1,2,3,4,6,7,5],[]),(9,15,[],[0,1,2,3,4,6,7,10,11,13,14,5,8,9,12],[9])],[(1,⟨[(0,.one (.dat .str))],[],[],[100000]⟩),(9,⟨[(0,.one (.dat .str))],[],[],[100000]⟩)],[]⟩ [.tmp 2] 169 Tryz.func150 H
theorem zmg(gl:Fr)(v0:Tr)(R:Int->Prop)
  (H:∃(a:Int->Int->Prop) (b:Int->Int->Nat),a 1 0/\∀c d:Int,a c d->((decide (d<v0.items.length)=true->∃e,(0<=d/\v0.items[d.toNat]?=some e)/\PC Tp gl 56 [Arg.mk .tree (Tr.mk e.kind e.text e.keys e.items)] [.int .i64] (λf:Int=>(a (Aa .i64 (c+f)) (Aa .i64 (d+1))/\b (Aa .i64 (c+f)) (Aa .i64 (d+1))<b c d)))/\(decide (d<v0.items.length)=false->R c))):
  PC Tp gl 56 [Arg.mk .tree v0] [.int .i64] R:=
 PF ⟨[],[],[(3,⟨[(3,.one (.dat (.int .i64))),(9,.one (.dat (.int .i64)))],[],[],[100192,100576]⟩)],[]⟩ [.tmp 2] 19 Tryz.func56 H
theorem zjk(gl:Fr)(v0:Tr)(R:Int->Prop)
  (H:∃(a:Int->Int->Prop) (b:Int->Int->Nat),a 0 0/\∀c d:Int,a c d->((decide (d<v0.items.length)=true->∃e,(0<=d/\v0.items[d.toNat]?=some e)/\PC Tp gl 161 [Arg.mk .tree (Tr.mk e.kind e.text e.keys e.items)] [.int .i64] (λf:Int=>(a (if c<f then f else c) (Aa .i64 (d+1))/\b (if c<f then f else c) (Aa .i64 (d+1))<b c d)))/\(decide (d<v0.items.length)=false->R (Aa .i64 (c+1))))):
  PC Tp gl 161 [Arg.mk .tree v0] [.int .i64] R:=
 PF ⟨[],[],[(3,⟨[(3,.one (.dat (.int .i64))),(9,.one (.dat (.int .i64)))],[],[],[100192,100576]⟩)],[]⟩ [.tmp 2] 20 Tryz.func161 H
theorem zfu(gl:Fr)(s0:Bt)(R:((Bool×Bt×Int)×Bool)->Prop)
  (H:PC Tp gl 25 [Arg.mk .str s0] [.pair .bool (.pair .str (.int .i64)),.int .i64] (λa:(Bool×Bt×Int)×Int=>∃b:Bt->Prop,((a.2==0)=true->PC Tp gl 26 [Arg.mk (.pair .bool (.pair .str (.int .i64))) (a.1.1,(a.1.2.1,a.1.2.2))] [.str] b)/\∀c:Bt,((a.2==0)=true->b c)->R ((a.1.1,(a.1.2.1,a.1.2.2)),bif (a.2==0)then(c.toList==s0.toList)else false))):
  PC Tp gl 165 [Arg.mk .str s0] [.pair .bool (.pair .str (.int .i64)),.bool] R:=
 PF ⟨[],[(2,9,[],[0,1,2,3,4,6,5,7,8],[6,7,8])],[],[]⟩ [.cell 2 46,.tmp 3] 20 Tryz.func165 H
theorem zjl(gl:Fr)(s0:Bt)(R:Bool->Prop)
  (H:PC Tp gl 80 [Arg.mk .str s0] [.int .i64,.bool] (λa:Int×Bool=>R a.2)):
  PC Tp gl 166 [Arg.mk .str s0] [.bool] R:=
 PF ⟨[],[],[],[]⟩ [.tmp 2] 11 Tryz.func166 H
theorem zmh(gl:Fr)(s0:Bt)(R:Bool->Prop)
  (H:PC Tp gl 165 [Arg.mk .str s0] [.pair .bool (.pair .str (.int .i64)),.bool] (λa:(Bool×Bt×Int)×Bool=>PC Tp gl 234 [Arg.mk (.pair .bool (.pair .str (.int .i64))) (a.1.1,(a.1.2.1,a.1.2.2))] [.int .i64,.bool] (λb:Int×Bool=>R (bif (bif a.2 then b.2 else false)then(decide (b.1>=0))else false)))):
  PC Tp gl 167 [Arg.mk .str s0] [.bool] R:=
 PF ⟨[],[],[],[]⟩ [.tmp 2] 25 Tryz.func167 H
theorem zfv(gl:Fr)(s0:Bt)(R:Bool->Prop)
  (H:∃(a:(Bt×Nat)->Prop) (b:(Bt×Nat)->Nat),a (s0,0)/\∀Z:Bt×Nat,a Z->(((nxB Z.1 Z.2)=true->(nxB Z.1 Z.2)=true/\((bif (decide ((nxR Z.1 Z.2:Int)<48))then true else(decide ((nxR Z.1 Z.2:Int)>57)))=true->R false)/\((bif (decide ((nxR Z.1 Z.2:Int)<48))then true else(decide ((nxR Z.1 Z.2:Int)>57)))=false->(a (Z.1,nxP Z.1 Z.2)/\b (Z.1,nxP Z.1 Z.2)<b Z)))/\((nxB Z.1 Z.2)=false->R (!(s0.toList==(⟨#[]⟩:Bt).toList))))):
  PC Tp gl 141 [Arg.mk .str s0] [.bool] R:=
 PF ⟨[],[],[(2,⟨[],[(6,[.dat .iter])],[],[1000384]⟩)],[]⟩ [.tmp 2] 18 Tryz.func141 H
theorem zjm(gl:Fr)(s0:Bt)(R:((Bool×Bool×Bt×Bt×Bt)×Bool)->Prop)
  (H:PC Tp gl 138 [Arg.mk .str s0,Arg.mk .str (⟨#[45]⟩:Bt)] [.str,.bool] (λa:Bt×Bool=>PC Tp gl 139 [Arg.mk .str a.1,Arg.mk .str (⟨#[101,69]⟩:Bt)] [.str,.str,.bool] (λb:Bt×Bt×Bool=>∀c:Bt->Bool->Bool->Bt->Bt->Bt->Prop,(∀d:Bt,∀ai ah:Bool,∀aj am ak:Bt,(PC Tp gl 139 [Arg.mk .str b.1,Arg.mk .str (⟨#[46]⟩:Bt)] [.str,.str,.bool] (λe:Bt×Bt×Bool=>PC Tp gl 141 [Arg.mk .str e.1] [.bool] (λf:Bool=>∃g:Bool->Prop,(((!(!f))&&e.2.2)=true->PC Tp gl 141 [Arg.mk .str e.2.1] [.bool] g)/\∀i:Bool,(((!(!f))&&e.2.2)=true->g i)->((bif (!f)then true else(bif e.2.2 then(!i)else false))=true->R ((ai,(ah,(e.1,(e.2.1,d)))),false))/\((bif (!f)then true else(bif e.2.2 then(!i)else false))=false->((!(e.1.toList==(⟨#[48]⟩:Bt).toList))=true->(0<=(0:Int)/\(0:Int)<(e.1.size:Int)))/\R ((ai,(ah,(e.1,(e.2.1,d)))),bif (e.1.toList==(⟨#[48]⟩:Bt).toList)then true else((zb e.1 (0:Int).toNat:Int) != 48))))))->c d ai ah aj am ak)->(b.2.2=true->PC Tp gl 138 [Arg.mk .str b.2.1,Arg.mk .str (⟨#[45]⟩:Bt)] [.str,.bool] (λj:Bt×Bool=>∀k:Bt->Bool->Bool->Bt->Bt->Bt->Prop,(∀l:Bt,∀Z af:Bool,∀ab ae aa:Bt,(PC Tp gl 141 [Arg.mk .str l] [.bool] (λm:Bool=>((!m)=true->R ((Z,(af,(ab,(ae,aa)))),false))/\((!m)=false->c l Z af ab ae aa)))->k l Z af ab ae aa)->((!j.2)=true->PC Tp gl 140 [Arg.mk .str j.1,Arg.mk .str (⟨#[43]⟩:Bt)] [.str] (λn:Bt=>k n a.2 j.2 (⟨#[]⟩:Bt) (⟨#[]⟩:Bt) (⟨#[]⟩:Bt)))/\((!j.2)=false->k j.1 a.2 j.2 (⟨#[]⟩:Bt) (⟨#[]⟩:Bt) (⟨#[]⟩:Bt))))/\(b.2.2=false->c b.2.1 a.2 false (⟨#[]⟩:Bt) (⟨#[]⟩:Bt) (⟨#[]⟩:Bt))))):
  PC Tp gl 75 [Arg.mk .str s0] [.pair .bool (.pair .bool (.pair .str (.pair .str .str))),.bool] R:=
 PF ⟨[],[(14,8,[],[0,1,2,3,4,5,6,7],[4,5,6,7])],[],[(9,⟨[(4,.one (.dat .str))],[(2,[.dat .bool,.dat .bool,.dat .str,.dat .str,.dat .str])],[],[100256,1000128,1000129,1000130,1000131,1000132]⟩),(7,⟨[(4,.one (.dat .str))],[(2,[.dat .bool,.dat .bool,.dat .str,.dat .str,.dat .str])],[],[100256,1000128,1000129,1000130,1000131,1000132]⟩)]⟩ [.cell 2 102,.tmp 3] 69 Tryz.func75 H
theorem Q6(gl:Fr)(s0:Bt)(R:Int->Prop)
  (H:(false=true->(0<=(0:Int)/\(0:Int)<(s0.size:Int))/\(0<=(1:Int)/\(1:Int)<(s0.size:Int))/\(0<=(2:Int)/\(2:Int)<(s0.size:Int))/\(0<=(3:Int)/\(3:Int)<(s0.size:Int))/\R (Aa .u64 (((Ao (Ak .u64) (Aa .u64 (((Ao (Ak .u64) (Aa .u64 (((Ao (Ak .u64) (Aa .u64 (zb s0 (0:Int).toNat))) ||| (Ao (Ak .u64) (Aa .u64 ((Aa .u64 (zb s0 (1:Int).toNat))*2 ^ 8)))).toNat:Int))) ||| (Ao (Ak .u64) (Aa .u64 ((Aa .u64 (zb s0 (2:Int).toNat))*2 ^ 16)))).toNat:Int))) ||| (Ao (Ak .u64) (Aa .u64 ((Aa .u64 (zb s0 (3:Int).toNat))*2 ^ 24)))).toNat:Int)))/\(false=false->(0<=(0:Int)/\(0:Int)<(s0.size:Int))/\(0<=(1:Int)/\(1:Int)<(s0.size:Int))/\(0<=(2:Int)/\(2:Int)<(s0.size:Int))/\(0<=(3:Int)/\(3:Int)<(s0.size:Int))/\(0<=(4:Int)/\(4:Int)<(s0.size:Int))/\(0<=(5:Int)/\(5:Int)<(s0.size:Int))/\(0<=(6:Int)/\(6:Int)<(s0.size:Int))/\(0<=(7:Int)/\(7:Int)<(s0.size:Int))/\R (Aa .u64 (((Ao (Ak .u64) (Aa .u64 (((Ao (Ak .u64) (Aa .u64 (((Ao (Ak .u64) (Aa .u64 (((Ao (Ak .u64) (Aa .u64 (((Ao (Ak .u64) (Aa .u64 (((Ao (Ak .u64) (Aa .u64 (((Ao (Ak .u64) (Aa .u64 (zb s0 (0:Int).toNat))) ||| (Ao (Ak .u64) (Aa .u64 ((Aa .u64 (zb s0 (1:Int).toNat))*2 ^ 8)))).toNat:Int))) ||| (Ao (Ak .u64) (Aa .u64 ((Aa .u64 (zb s0 (2:Int).toNat))*2 ^ 16)))).toNat:Int))) ||| (Ao (Ak .u64) (Aa .u64 ((Aa .u64 (zb s0 (3:Int).toNat))*2 ^ 24)))).toNat:Int))) ||| (Ao (Ak .u64) (Aa .u64 ((Aa .u64 (zb s0 (4:Int).toNat))*2 ^ 32)))).toNat:Int))) ||| (Ao (Ak .u64) (Aa .u64 ((Aa .u64 (zb s0 (5:Int).toNat))*2 ^ 40)))).toNat:Int))) ||| (Ao (Ak .u64) (Aa .u64 ((Aa .u64 (zb s0 (6:Int).toNat))*2 ^ 48)))).toNat:Int))) ||| (Ao (Ak .u64) (Aa .u64 ((Aa .u64 (zb s0 (7:Int).toNat))*2 ^ 56)))).toNat:Int)))):
  PC Tp gl 217 [Arg.mk .str s0] [.int .u64] R:=
 PF ⟨[],[],[],[]⟩ [.tmp 2] 59 Tryz.func217 H
theorem zmi(gl:Fr)(n0:Bool×Bt×Int)(R:(Int×Bool)->Prop)
  (H:PC Tp gl 78 [Arg.mk (.pair .bool (.pair .str (.int .i64))) (n0.1,(n0.2.1,n0.2.2))] [.bool] (λa:Bool=>((bif (bif (!a)then true else(decide (n0.2.2<0)))then true else(decide ((Aa .i64 ((n0.2.1.size:Int)+n0.2.2))>19)))=true->R (0,false))/\((bif (bif (!a)then true else(decide (n0.2.2<0)))then true else(decide ((Aa .i64 ((n0.2.1.size:Int)+n0.2.2))>19)))=false->PC Tp gl 86 [Arg.mk .str (⟨#[48]⟩:Bt),Arg.mk (.int .i64) n0.2.2] [.str] (λb:Bt=>Zw (n0.2.1.size+b.size)/\∀c:Bt->Prop,(∀d:Bt,(((d.toList==(⟨#[]⟩:Bt).toList)=true->R (0,true))/\((d.toList==(⟨#[]⟩:Bt).toList)=false->PC Tp gl 277 [Arg.mk .str d,Arg.mk (.int .i64) 10,Arg.mk (.int .i64) 64] [.int .i64,.err] (λe:Int×Bool=>((!e.2)=true->R (0,false))/\((!e.2)=false->R (e.1,true)))))->c d)->(n0.1=true->Zw (((⟨#[45]⟩:Bt)).size+(n0.2.1++b).size)/\c ((⟨#[45]⟩:Bt)++(n0.2.1++b)))/\(n0.1=false->c (n0.2.1++b)))))):
  PC Tp gl 234 [Arg.mk (.pair .bool (.pair .str (.int .i64))) n0] [.int .i64,.bool] R:=
 PF ⟨[],[(3,5,[],[0,1,2,3,4],[])],[],[(6,⟨[(4,.one (.dat .str))],[],[],[100256]⟩)]⟩ [.tmp 2,.tmp 3] 44 Tryz.func234 H
theorem zmj(gl:Fr)(s0:Bt)(Z:Bt)(R:(Bt×Bt×Bool)->Prop)
  (H:∃(a:Int->Prop) (b:Int->Nat),a 0/\∀c:Int,a c->((decide (c<s0.size)=true->(0<=c/\c<s0.size)/\PC Tp gl 212 [Arg.mk .str Z,Arg.mk (.int .u8) (zb s0 c.toNat)] [.int .i64] (λd:Int=>(decide (d>=0)=true->(0<=(0:Int)/\(0:Int)<=c/\c<=s0.size)/\(0<=(Aa .i64 (c+1))/\(Aa .i64 (c+1))<=(s0.size:Int)/\(s0.size:Int)<=(s0.size:Int))/\R (s0.extract (0:Int).toNat c.toNat,s0.extract (Aa .i64 (c+1)).toNat (s0.size:Int).toNat,true))/\(decide (d>=0)=false->(a (Aa .i64 (c+1))/\b (Aa .i64 (c+1))<b c))))/\(decide (c<s0.size)=false->R (s0,(⟨#[]⟩:Bt),false)))):
  PC Tp gl 139 [Arg.mk .str s0,Arg.mk .str Z] [.str,.str,.bool] R:=
 PF ⟨[],[],[(2,⟨[(10,.one (.dat (.int .i64)))],[],[],[100640]⟩)],[]⟩ [.tmp 4,.tmp 5,.tmp 6] 28 Tryz.func139 H
end
section
abbrev bl(l:List UInt8):Bt:=⟨l.toArray⟩
abbrev lb(s:Bt):List UInt8:=s.data.toList
@[simp] theorem yp(l:List UInt8):lb (bl l)=l:=by simp[lb]
@[simp] theorem Y0(s:Bt):bl (lb s)=s:=by cases s;simp[lb,bl]
theorem zpj{s t:Bt}:lb s=lb t↔s=t:=⟨λh=>by rw[<-Y0 s,h,Y0],λh=>by rw[h]⟩
theorem zhz(s:Bt):(lb s).length=s.size:=by cases s;simp[lb,ByteArray.size]
theorem zz5(s t:Bt):lb (s++t)=lb s++lb t:=by
 cases s;cases t
 simp[lb]
theorem zw8(s:Bt)(a b:Nat):lb (s.extract a b)=((lb s).drop a).take (b-a):=by
 cases s
 simp[lb,ByteArray.data_extract,List.extract_eq_take_drop]
theorem zz6(s:Bt)(i:Nat):zb s i=((((lb s)[i]?).getD 0).toNat:Int):=by
 cases s;simp[lb,zb]
theorem qay(s:Bt)(i:Nat):s.get! i=((lb s)[i]?).getD 0:=by
 cases s with
 |mk d=>simp[lb,ByteArray.get!,Array.getElem!_eq_getD];rfl
def dec(l:List UInt8):Nat×Nat:=Go.Lib.decodeN l.length (l.getD 0 0).toNat (l.getD 1 0).toNat (l.getD 2 0).toNat (l.getD 3 0).toNat
theorem zuj(s:Bt)(i:Nat):Ew s i=dec ((lb s).drop i):=by
 rw[Go.Lib.decode_at,dec]
 simp only[qay,List.getD_eq_getElem?_getD,AQ,AI,zhz,CW]
theorem xn(l:List UInt8):1<=(dec l).2/\(dec l).2<=4:=by
 unfold dec Go.Lib.decodeN
 repeat' split
 all_goals simp
theorem zuk{l:List UInt8}(h:l≠[]):(dec l).2<=l.length:=by
 have:0<l.length:=Bf.2 h
 unfold dec Go.Lib.decodeN
 repeat' split
 all_goals simp only
 all_goals omega
def zd8(d:Nat×Nat):Bool:=d.1==65533&&d.2==1
def jd(l:List UInt8):Bool:=if h:l=[]then true else if zd8 (dec l)then false else jd (l.drop (dec l).2)
termination_by l.length
decreasing_by
 have h1:=xn l
 have h2:0<l.length:=Bf.2 h
 simp only[AI];omega
theorem Yu:jd []=true:=by unfold jd;simp
theorem jk{l:List UInt8}(h:l≠[]):jd l=if zd8 (dec l)then false else jd (l.drop (dec l).2):=by
 rw[jd];simp[h]
theorem Q7{c:UInt8}{l:List UInt8}(h:c.toNat<128):dec (c::l)=(c.toNat,1):=by
 simp[dec,Go.Lib.decodeN,h]
theorem zw9{c:UInt8}{l:List UInt8}(h:c.toNat<128):zd8 (dec (c::l))=false:=by
 rw[Q7 h,zd8]
 have:(c.toNat==65533)=false:=by simp;omega
 simp[this]
theorem zk4{c:UInt8}{l:List UInt8}(h:c.toNat<128):jd (c::l)=jd l:=by
 rw[jk (by simp),zw9 h,Q7 h];simp
end
end Go.X
end
section
namespace Go.X
open Go Go.Lib
section
abbrev Bs:=List UInt8
end
end Go.X
end
section
namespace Go.X
section
variable {n b0 b1 b2 b3:Nat}
theorem Xz{n:Int}(h1:-2147483648<=n)(h2:n<=2147483647):Aa .i32 n=n:=by
 unfold Aa
 have e:(2:Int) ^ Ak .i32=4294967296:=by decide
 have e':(2:Int) ^ (Ak .i32-1)=2147483648:=by decide
 simp only[e,e']
 have hs:Dj .i32=true:=rfl
 simp only[hs,BZ,decide_eq_true_eq]
 split <;> omega
theorem qh6(h:128<=b0/\b0<194\/245<=b0/\b0<256):Lib.decodeN n b0 b1 b2 b3=(65533,1):=by
 refine Lib.bad_eq _ _ _ _ _ (by omega) ?_
 unfold Lib.firstT
 repeat' split
 all_goals first|rfl|(exfalso;omega)
theorem qh7(h:194<=b0/\b0<224)(h1:b1<256):Lib.decodeN n b0 b1 b2 b3=if 2<=n/\128<=b1/\b1<=191 then((b0-192)*64+(b1-128),2)else(65533,1):=by
 unfold Lib.decodeN
 rw[if_neg (by omega)]
 by_cases hc:2<=n/\128<=b1/\b1<=191
 ·have e:b0 % 32*64+b1 % 64=(b0-192)*64+(b1-128):=by omega
  rw[if_pos (by omega),if_pos (by omega),if_pos hc,e]
 ·rw[if_neg (by omega),if_neg (by omega),if_neg (by omega),if_neg hc]
theorem qh8(h:224<=b0/\b0<240)(h1:b1<256)(h2:b2<256):Lib.decodeN n b0 b1 b2 b3=
  if 3<=n/\(128<=b1/\b1<=191)/\(128<=b2/\b2<=191)/\2048<=((b0-224)*64+(b1-128))*64+(b2-128)/\(((b0-224)*64+(b1-128))*64+(b2-128)<55296\/57344<=((b0-224)*64+(b1-128))*64+(b2-128))
  then(((b0-224)*64+(b1-128))*64+(b2-128),3)else(65533,1):=by
 unfold Lib.decodeN
 rw[if_neg (by omega),if_neg (by omega)]
 by_cases hc:3<=n/\(128<=b1/\b1<=191)/\(128<=b2/\b2<=191)
 ·rw[if_pos (by omega)]
  have e:b0 % 16*4096+b1 % 64*64+b2 % 64=((b0-224)*64+(b1-128))*64+(b2-128):=by omega
  rw[e]
  split <;> rename_i hx
  ·rw[if_pos (by omega)]
  ·rw[if_neg (by omega)]
 ·rw[if_neg (by omega),if_neg (by omega),if_neg (by omega)]
theorem qh9(h:240<=b0/\b0<245)(h1:b1<256)(h2:b2<256)(h3:b3<256):Lib.decodeN n b0 b1 b2 b3=
  if 4<=n/\(128<=b1/\b1<=191)/\(128<=b2/\b2<=191)/\(128<=b3/\b3<=191)/\65536<=(((b0-240)*64+(b1-128))*64+(b2-128))*64+(b3-128)/\(((b0-240)*64+(b1-128))*64+(b2-128))*64+(b3-128)<=1114111
  then((((b0-240)*64+(b1-128))*64+(b2-128))*64+(b3-128),4)else(65533,1):=by
 unfold Lib.decodeN
 rw[if_neg (by omega),if_neg (by omega),if_neg (by omega)]
 by_cases hc:4<=n/\(128<=b1/\b1<=191)/\(128<=b2/\b2<=191)/\(128<=b3/\b3<=191)
 ·rw[if_pos (by omega)]
  have e:b0 % 8*262144+b1 % 64*4096+b2 % 64*64+b3 % 64=(((b0-240)*64+(b1-128))*64+(b2-128))*64+(b3-128):=by omega
  rw[e]
  split <;> rename_i hx
  ·rw[if_pos (by omega)]
  ·rw[if_neg (by omega)]
 ·rw[if_neg (by omega),if_neg (by omega)]
end
end Go.X
end
section
namespace Go.X
open Go Go.Proofs Go.Shelf Go.RowKit
section
theorem LF{α : Type}{x y : α}{o : Option α}(h : o = some x)(e : x = y := by kernel_rfl): o = some y := h.trans (congrArg some e)
def zmk:Go.Shelf.Ren:=⟨fun|161=>76|231=>142|227=>143|233=>144|235=>145|228=>214|197=>151|151=>215|260=>218|152=>269|137=>212|119=>300|224=>301|225=>302|217=>268|266=>299|n=>n,fun|9=>9|4=>4|3=>3|5=>5|117=>170|116=>169|0=>0|124=>173|105=>174|21=>21|119=>230|46=>177|139=>233|138=>232|n=>n,fun|3=>0|4=>1|n=>n⟩
theorem zz7:Go.Proofs.Lays.n161 Tp zmk:={
 mixed:=by kernel_rfl
 f119:=LF Tryz.func300
 f137:=LF Eg
 f151:=LF Tryz.func215
 f152:=LF Tryz.func269
 f161:=LF Tryz.func76
 f197:=LF Tryz.func151
 f217:=LF Tryz.func268
 f224:=LF Tryz.func301
 f225:=LF Tryz.func302
 f227:=LF Tryz.func143
 f228:=LF Tryz.func214
 f231:=LF Tryz.func142
 f233:=LF Tryz.func144
 f235:=LF Tryz.func145
 f260:=LF Tryz.func218
 f266:=LF Tryz.func299
 t0:=Cd
 a0:=CX
 z0:=CK
 v0:=Ci
 t3:=Bo
 a3:=Co
 z3:=Ce
 v3:=BI
 t4:=BD
 a4:=Cy
 z4:=Ck
 v4:=BO
 t5:=Bq
 a5:=Cp
 z5:=Cf
 v5:=BJ
 t9:=Bm
 a9:=Cq
 z9:=Cg
 v9:=BK
 t21:=CL
 a21:=Dq
 z21:=Df
 v21:=CU
 t46:=Tryz.underlying177
 a46:=Tryz.isAgg177
 z46:=Tryz.sizeOf177
 v46:=Tryz.zeroValue177
 t105:=Tryz.underlying174
 a105:=Tryz.isAgg174
 z105:=Tryz.sizeOf174
 v105:=Tryz.zeroValue174
 t116:=Tryz.underlying169
 a116:=Tryz.isAgg169
 z116:=Tryz.sizeOf169
 t117:=Tryz.underlying170
 a117:=Tryz.isAgg170
 z117:=Tryz.sizeOf170
 v117:=Tryz.zeroValue170
 t119:=Tryz.underlying230
 a119:=Tryz.isAgg230
 z119:=Tryz.sizeOf230
 t124:=Tryz.underlying173
 a124:=Tryz.isAgg173
 z124:=Tryz.sizeOf173
 v124:=Tryz.zeroValue173
 t138:=Tryz.underlying232
 a138:=Tryz.isAgg232
 z138:=Tryz.sizeOf232
 v138:=Tryz.zeroValue232
 t139:=Tryz.underlying233
 a139:=Tryz.isAgg233
 z139:=Tryz.sizeOf233
 v139:=Tryz.zeroValue233
 g3:=by kernel_rfl
 g4:=by kernel_rfl }
theorem Xa(s:Bt)(c:UInt8)(hc:c.toNat<128)(w:World):
  Calls Tp 76 #[.string s,.string ⟨#[c]⟩] w λe w'=>e=.returned (.string ⟨(Lib.trimLeftB s.data.toList c).toArray⟩)/\w'=w:=Any.strings_TrimLeft_one zz7 s c hc w
def zml:Go.Shelf.Ren:=⟨fun|162=>77|232=>146|227=>143|234=>147|236=>148|228=>214|271=>216|151=>215|120=>270|197=>151|152=>269|260=>218|137=>212|119=>300|224=>301|225=>302|217=>268|266=>299|n=>n,fun|9=>9|4=>4|3=>3|5=>5|117=>170|116=>169|0=>0|124=>173|21=>21|105=>174|46=>177|119=>230|139=>233|138=>232|n=>n,fun|3=>0|4=>1|n=>n⟩
theorem zz8:Go.Proofs.Lays.n162 Tp zml:={
 mixed:=by kernel_rfl
 f119:=LF Tryz.func300
 f120:=LF Tryz.func270
 f137:=LF Eg
 f151:=LF Tryz.func215
 f152:=LF Tryz.func269
 f162:=LF Tryz.func77
 f197:=LF Tryz.func151
 f217:=LF Tryz.func268
 f224:=LF Tryz.func301
 f225:=LF Tryz.func302
 f227:=LF Tryz.func143
 f228:=LF Tryz.func214
 f232:=LF Tryz.func146
 f234:=LF Tryz.func147
 f236:=LF Tryz.func148
 f260:=LF Tryz.func218
 f266:=LF Tryz.func299
 f271:=LF Tryz.func216
 t0:=Cd
 a0:=CX
 z0:=CK
 v0:=Ci
 t3:=Bo
 a3:=Co
 z3:=Ce
 v3:=BI
 t4:=BD
 a4:=Cy
 z4:=Ck
 v4:=BO
 t5:=Bq
 a5:=Cp
 z5:=Cf
 v5:=BJ
 t9:=Bm
 a9:=Cq
 z9:=Cg
 v9:=BK
 t21:=CL
 a21:=Dq
 z21:=Df
 v21:=CU
 t46:=Tryz.underlying177
 a46:=Tryz.isAgg177
 z46:=Tryz.sizeOf177
 v46:=Tryz.zeroValue177
 t105:=Tryz.underlying174
 a105:=Tryz.isAgg174
 z105:=Tryz.sizeOf174
 v105:=Tryz.zeroValue174
 t116:=Tryz.underlying169
 a116:=Tryz.isAgg169
 z116:=Tryz.sizeOf169
 t117:=Tryz.underlying170
 a117:=Tryz.isAgg170
 z117:=Tryz.sizeOf170
 v117:=Tryz.zeroValue170
 t119:=Tryz.underlying230
 a119:=Tryz.isAgg230
 z119:=Tryz.sizeOf230
 t124:=Tryz.underlying173
 a124:=Tryz.isAgg173
 z124:=Tryz.sizeOf173
 v124:=Tryz.zeroValue173
 t138:=Tryz.underlying232
 a138:=Tryz.isAgg232
 z138:=Tryz.sizeOf232
 v138:=Tryz.zeroValue232
 t139:=Tryz.underlying233
 a139:=Tryz.isAgg233
 z139:=Tryz.sizeOf233
 v139:=Tryz.zeroValue233
 g3:=by kernel_rfl
 g4:=by kernel_rfl }
theorem Wo(s:Bt)(c:UInt8)(hc:c.toNat<128)(w:World)(hs:s.size<=9223372036854775807):
  Calls Tp 77 #[.string s,.string ⟨#[c]⟩] w λe w'=>e=.returned (.string ⟨(Lib.trimRightB s.data.toList c).toArray⟩)/\w'=w:=Any.strings_TrimRight_one zz8 s c hc w hs
def zmm:Go.Shelf.Ren:=⟨fun|137=>212|217=>268|266=>299|n=>n,fun|9=>9|5=>5|3=>3|n=>n,fun|n=>n⟩
theorem zz9:Go.Proofs.Lays.n137 Tp zmm:={
 mixed:=by kernel_rfl
 f137:=LF Eg
 f217:=LF Tryz.func268
 f266:=LF Tryz.func299
 t3:=Bo
 a3:=Co
 z3:=Ce
 v3:=BI
 t5:=Bq
 a5:=Cp
 z5:=Cf
 v5:=BJ
 t9:=Bm
 a9:=Cq
 z9:=Cg
 v9:=BK }
theorem jh(s:Bt)(c:Int)(w:World):
  Calls Tp 212 #[.string s,.int .u8 c] w λe w'=>e=.returned (.int .i64 (Lib.indexByte s.data.toList c.toNat.toUInt8))/\w'=w:=Any.strings_IndexByte zz9 s c w
def zmn:Go.Shelf.Ren:=⟨fun|103=>138|210=>211|206=>227|n=>n,fun|9=>9|4=>4|24=>163|3=>3|n=>n,fun|n=>n⟩
theorem z0a:Go.Proofs.Lays.n103 Tp zmn:={
 mixed:=by kernel_rfl
 f103:=LF Tryz.func138
 f206:=LF Tryz.func227
 f210:=LF Tryz.func211
 t3:=Bo
 a3:=Co
 z3:=Ce
 v3:=BI
 t4:=BD
 a4:=Cy
 z4:=Ck
 v4:=BO
 t9:=Bm
 a9:=Cq
 z9:=Cg
 v9:=BK
 t24:=Tryz.underlying163
 a24:=Tryz.isAgg163
 z24:=Tryz.sizeOf163
 v24:=Tryz.zeroValue163 }
theorem zb2(s p:Bt)(w:World):
  Calls Tp 138 #[.string s,.string p] w λe w'=>e=.returned (.tuple #[.string ⟨(Lib.trimPrefix s.data.toList p.data.toList).toArray⟩,.bool (Lib.hasPrefix s.data.toList p.data.toList)])/\w'=w:=Any.strings_CutPrefix z0a s p w
def zmo:Go.Shelf.Ren:=⟨fun|242=>153|278=>220|n=>n,fun|37=>110|21=>21|51=>236|4=>4|5=>5|46=>177|n=>n,fun|n=>n⟩
theorem z0b:Go.Proofs.Lays.n242 Tp zmo:={
 mixed:=by kernel_rfl
 f242:=LF Tryz.func153
 f278:=LF Tryz.func220
 t4:=BD
 a4:=Cy
 z4:=Ck
 v4:=BO
 t5:=Bq
 a5:=Cp
 z5:=Cf
 v5:=BJ
 t21:=CL
 a21:=Dq
 z21:=Df
 v21:=CU
 t37:=Tryz.underlying110
 a37:=Tryz.isAgg110
 z37:=Tryz.sizeOf110
 v37:=Tryz.zeroValue110
 t46:=Tryz.underlying177
 a46:=Tryz.isAgg177
 z46:=Tryz.sizeOf177
 v46:=Tryz.zeroValue177
 t51:=Tryz.underlying236
 a51:=Tryz.isAgg236
 z51:=Tryz.sizeOf236
 v51:=Tryz.zeroValue236 }
theorem Wp(B:Nat)(v:Value)(n:Nat)(xs:List Value)(r:Int)(af:-2147483648<=r)(ae:r<=2147483647)(w:World)(Z:w.ownsRow B 5 1 v n xs)(aa:n+4<=140737488355328)(ab:B<=w.heap.size):
  Calls Tp 153 #[v,.int .i32 r] w λe w'=>∃v',e=.returned v'/\w'.ownsRow B 5 1 v' (n+(Lib.runeCells r).length) (xs++Lib.runeCells r)/\∃o,(w.alloc o).grownBy w' v.ownBlock:=Any.utf8_AppendRune_plain z0b (by kernel_rfl) B v n xs r af ae w Z aa ab
def zjn:Go.Shelf.Ren:=⟨fun|171=>79|243=>149|246=>154|283=>221|284=>222|285=>223|286=>224|129=>252|317=>271|318=>272|319=>273|320=>274|337=>303|338=>304|n=>n,fun|3=>3|9=>9|2=>2|4=>4|171=>237|0=>0|53=>238|37=>110|5=>5|173=>241|212=>273|51=>236|20=>20|213=>274|46=>177|232=>306|233=>307|n=>n,fun|17=>2|18=>6|19=>7|n=>n⟩
theorem zxa:Go.Proofs.LaysM.n171 Tp zjn:={
 mixed:=by kernel_rfl
 f129:=LF Tryz.func252
 f171:=LF Tryz.func79
 f243:=LF Tryz.func149
 f246:=LF Es
 f283:=LF Tryz.func221
 f284:=LF Tryz.func222
 f285:=LF Tryz.func223
 f286:=LF Tryz.func224
 f317:=LF Tryz.func271
 f318:=LF Tryz.func272
 f319:=LF Tryz.func273
 f320:=LF Tryz.func274
 f337:=LF Tryz.func303
 f338:=LF Tryz.func304
 t0:=Cd
 a0:=CX
 z0:=CK
 v0:=Ci
 t2:=Tryz.underlying2
 a2:=Tryz.isAgg2
 z2:=Tryz.sizeOf2
 v2:=Tryz.zeroValue2
 t3:=Bo
 a3:=Co
 z3:=Ce
 v3:=BI
 t4:=BD
 a4:=Cy
 z4:=Ck
 v4:=BO
 t5:=Bq
 a5:=Cp
 z5:=Cf
 v5:=BJ
 t9:=Bm
 a9:=Cq
 z9:=Cg
 v9:=BK
 t20:=Dz
 a20:=Et
 z20:=Em
 v20:=DT
 t37:=Tryz.underlying110
 a37:=Tryz.isAgg110
 z37:=Tryz.sizeOf110
 v37:=Tryz.zeroValue110
 t46:=Tryz.underlying177
 a46:=Tryz.isAgg177
 z46:=Tryz.sizeOf177
 v46:=Tryz.zeroValue177
 t51:=Tryz.underlying236
 a51:=Tryz.isAgg236
 z51:=Tryz.sizeOf236
 v51:=Tryz.zeroValue236
 t53:=Tryz.underlying238
 a53:=Tryz.isAgg238
 z53:=Tryz.sizeOf238
 v53:=Tryz.zeroValue238
 t171:=Tryz.underlying237
 a171:=Tryz.isAgg237
 z171:=Tryz.sizeOf237
 v171:=Tryz.zeroValue237
 t173:=Tryz.underlying241
 a173:=Tryz.isAgg241
 z173:=Tryz.sizeOf241
 v173:=Tryz.zeroValue241
 t212:=Tryz.underlying273
 a212:=Tryz.isAgg273
 z212:=Tryz.sizeOf273
 v212:=Tryz.zeroValue273
 t213:=Tryz.underlying274
 a213:=Tryz.isAgg274
 z213:=Tryz.sizeOf274
 t232:=Tryz.underlying306
 a232:=Tryz.isAgg306
 z232:=Tryz.sizeOf306
 v232:=Tryz.zeroValue306
 t233:=Tryz.underlying307
 a233:=Tryz.isAgg307
 z233:=Tryz.sizeOf307
 v233:=Tryz.zeroValue307
 g17:=by kernel_rfl
 g18:=by kernel_rfl
 g19:=by kernel_rfl
 i0:=by kernel_rfl
 i2:=by kernel_rfl
 i3:=by kernel_rfl
 i4:=by kernel_rfl
 i5:=by kernel_rfl
 i9:=by kernel_rfl
 i20:=by kernel_rfl
 i37:=by kernel_rfl
 i46:=by kernel_rfl
 i51:=by kernel_rfl
 i53:=by kernel_rfl
 i171:=by kernel_rfl
 i173:=by kernel_rfl
 i212:=by kernel_rfl
 i232:=by kernel_rfl
 i233:=by kernel_rfl
 m17:=by kernel_rfl
 m18:=by kernel_rfl
 m19:=by kernel_rfl }
open Go.RowKit Go.Sort Go.Lib in
theorem zjo(n : Int)(h0 : -9223372036854775808 ≤ n)(h1 : n ≤ 9223372036854775807)(w : World)(htab : Lib.TabIs Tp w "internal/strconv.uint64pow10" .u64 Lib.pow10Tab):
  Calls Tp 79 #[.int .i64 n] w λe w'=>e=.returned (.string ⟨(Lib.itoa n).toArray⟩)/\∃k os,w'=grow (w.drewN k) os:=Any.strconv_Itoa zxa n h0 h1 w htab
def zjp:Go.Shelf.Ren:=⟨fun|245=>267|279=>295|280=>296|281=>297|282=>298|316=>317|171=>79|205=>318|243=>149|246=>154|283=>221|284=>222|285=>223|286=>224|129=>252|317=>271|318=>272|319=>273|320=>274|337=>303|338=>304|n=>n,fun|9=>9|3=>3|75=>114|167=>287|4=>4|168=>288|210=>304|37=>110|0=>0|127=>181|145=>315|143=>313|2=>2|171=>237|53=>238|5=>5|173=>241|212=>273|51=>236|20=>20|213=>274|46=>177|232=>306|233=>307|80=>122|n=>n,fun|15=>4|16=>5|17=>2|18=>6|19=>7|n=>n⟩
theorem zxb:Go.Proofs.LaysC.n245 Tp zjp:={
 mixed:=by kernel_rfl
 f129:=LF Tryz.func252
 f171:=LF Tryz.func79
 f205:=LF Tryz.func318
 f243:=LF Tryz.func149
 f245:=LF Tryz.func267
 f246:=LF Es
 f279:=LF Tryz.func295
 f280:=LF Tryz.func296
 f281:=LF Tryz.func297
 f282:=LF Tryz.func298
 f283:=LF Tryz.func221
 f284:=LF Tryz.func222
 f285:=LF Tryz.func223
 f286:=LF Tryz.func224
 f316:=LF Tryz.func317
 f317:=LF Tryz.func271
 f318:=LF Tryz.func272
 f319:=LF Tryz.func273
 f320:=LF Tryz.func274
 f337:=LF Tryz.func303
 f338:=LF Tryz.func304
 t0:=Cd
 a0:=CX
 z0:=CK
 v0:=Ci
 t2:=Tryz.underlying2
 a2:=Tryz.isAgg2
 z2:=Tryz.sizeOf2
 v2:=Tryz.zeroValue2
 t3:=Bo
 a3:=Co
 z3:=Ce
 v3:=BI
 t4:=BD
 a4:=Cy
 z4:=Ck
 v4:=BO
 t5:=Bq
 a5:=Cp
 z5:=Cf
 v5:=BJ
 t9:=Bm
 a9:=Cq
 z9:=Cg
 v9:=BK
 t20:=Dz
 a20:=Et
 z20:=Em
 v20:=DT
 t37:=Tryz.underlying110
 a37:=Tryz.isAgg110
 z37:=Tryz.sizeOf110
 v37:=Tryz.zeroValue110
 t46:=Tryz.underlying177
 a46:=Tryz.isAgg177
 z46:=Tryz.sizeOf177
 v46:=Tryz.zeroValue177
 t51:=Tryz.underlying236
 a51:=Tryz.isAgg236
 z51:=Tryz.sizeOf236
 v51:=Tryz.zeroValue236
 t53:=Tryz.underlying238
 a53:=Tryz.isAgg238
 z53:=Tryz.sizeOf238
 v53:=Tryz.zeroValue238
 t75:=Tryz.underlying114
 a75:=Tryz.isAgg114
 z75:=Tryz.sizeOf114
 v75:=Tryz.zeroValue114
 t127:=C9
 a127:=En
 z127:=Eh
 v127:=Tryz.zeroValue181
 t143:=Tryz.underlying313
 a143:=Tryz.isAgg313
 z143:=Tryz.sizeOf313
 v143:=Tryz.zeroValue313
 t145:=Tryz.underlying315
 a145:=Tryz.isAgg315
 z145:=Tryz.sizeOf315
 v145:=Tryz.zeroValue315
 t167:=Tryz.underlying287
 a167:=Tryz.isAgg287
 z167:=Tryz.sizeOf287
 v167:=Tryz.zeroValue287
 t168:=Tryz.underlying288
 a168:=Tryz.isAgg288
 z168:=Tryz.sizeOf288
 v168:=Tryz.zeroValue288
 t171:=Tryz.underlying237
 a171:=Tryz.isAgg237
 z171:=Tryz.sizeOf237
 v171:=Tryz.zeroValue237
 t173:=Tryz.underlying241
 a173:=Tryz.isAgg241
 z173:=Tryz.sizeOf241
 v173:=Tryz.zeroValue241
 t210:=Tryz.underlying304
 a210:=Tryz.isAgg304
 z210:=Tryz.sizeOf304
 v210:=Tryz.zeroValue304
 t212:=Tryz.underlying273
 a212:=Tryz.isAgg273
 z212:=Tryz.sizeOf273
 v212:=Tryz.zeroValue273
 t213:=Tryz.underlying274
 a213:=Tryz.isAgg274
 z213:=Tryz.sizeOf274
 t232:=Tryz.underlying306
 a232:=Tryz.isAgg306
 z232:=Tryz.sizeOf306
 v232:=Tryz.zeroValue306
 t233:=Tryz.underlying307
 a233:=Tryz.isAgg307
 z233:=Tryz.sizeOf307
 v233:=Tryz.zeroValue307
 g15:=by kernel_rfl
 g16:=by kernel_rfl
 g17:=by kernel_rfl
 g18:=by kernel_rfl
 g19:=by kernel_rfl
 t80:=Tryz.underlying122
 a80:=Tryz.isAgg122
 z80:=Tryz.sizeOf122
 v80:=Tryz.zeroValue122
 i0:=by kernel_rfl
 i2:=by kernel_rfl
 i3:=by kernel_rfl
 i4:=by kernel_rfl
 i5:=by kernel_rfl
 i9:=by kernel_rfl
 i20:=by kernel_rfl
 i37:=by kernel_rfl
 i46:=by kernel_rfl
 i51:=by kernel_rfl
 i53:=by kernel_rfl
 i75:=by kernel_rfl
 i80:=by kernel_rfl
 i127:=by kernel_rfl
 i143:=by kernel_rfl
 i145:=by kernel_rfl
 i167:=by kernel_rfl
 i168:=by kernel_rfl
 i171:=by kernel_rfl
 i173:=by kernel_rfl
 i210:=by kernel_rfl
 i212:=by kernel_rfl
 i232:=by kernel_rfl
 i233:=by kernel_rfl
 m15:=by kernel_rfl
 m16:=by kernel_rfl
 m17:=by kernel_rfl
 m18:=by kernel_rfl
 m19:=by kernel_rfl
 c0:=by kernel_rfl
 c2:=by kernel_rfl
 c3:=by kernel_rfl
 c4:=by kernel_rfl
 c5:=by kernel_rfl
 c9:=by kernel_rfl
 c20:=by kernel_rfl
 c37:=by kernel_rfl
 c46:=by kernel_rfl
 c51:=by kernel_rfl
 c53:=by kernel_rfl
 c75:=by kernel_rfl
 c80:=by kernel_rfl
 c127:=by kernel_rfl
 c143:=by kernel_rfl
 c145:=by kernel_rfl
 c167:=by kernel_rfl
 c168:=by kernel_rfl
 c171:=by kernel_rfl
 c173:=by kernel_rfl
 c210:=by kernel_rfl
 c212:=by kernel_rfl
 c213:=by kernel_rfl
 c232:=by kernel_rfl
 c233:=by kernel_rfl }
theorem Jg(fn s:Bt)(base Z:Int)(ev:Value)(w:World)(aa:s.size<=281474976710656)(hv:w.cell? ⟨4,0,none⟩=some ev)(ab:ev=.nilIface\/∃te pe,ev=.iface te pe):
  Calls Tp 267 #[.string fn,.string s,.int .i64 base,.int .i64 Z,.iface 287 (.int .i64 2)] w λe w'=>∃N,e=.returned (.iface 288 (.pointer (some ⟨N,0,none⟩)))/\w.heap.size<=N/\w'.heap[N]?=some (.cells #[.string fn,.string s,ev] 304 (0,0))/\Below w.heap.size w w':=Any.strconv_toError_syntax zxb fn s base Z ev w aa hv ab
def zjq:Go.Shelf.Ren:=⟨fun|172=>210|244=>266|245=>267|247=>294|279=>295|280=>296|281=>297|282=>298|287=>316|316=>317|171=>79|205=>318|321=>325|322=>326|243=>149|246=>154|283=>221|284=>222|285=>223|286=>224|129=>252|317=>271|318=>272|319=>273|320=>274|337=>303|338=>304|n=>n,fun|9=>9|3=>3|75=>114|76=>117|4=>4|5=>5|167=>287|37=>110|0=>0|85=>277|2=>2|168=>288|53=>238|175=>300|46=>177|210=>304|127=>181|145=>315|143=>313|21=>21|171=>237|173=>241|212=>273|51=>236|20=>20|213=>274|232=>306|233=>307|80=>122|n=>n,fun|15=>4|16=>5|17=>2|18=>6|19=>7|n=>n⟩
theorem zey:Go.Proofs.LaysC.n172 Tp zjq:={
 mixed:=by kernel_rfl
 f129:=LF Tryz.func252
 f171:=LF Tryz.func79
 f172:=LF Tryz.func210
 f205:=LF Tryz.func318
 f243:=LF Tryz.func149
 f244:=LF Tryz.func266
 f245:=LF Tryz.func267
 f246:=LF Es
 f247:=LF Tryz.func294
 f279:=LF Tryz.func295
 f280:=LF Tryz.func296
 f281:=LF Tryz.func297
 f282:=LF Tryz.func298
 f283:=LF Tryz.func221
 f284:=LF Tryz.func222
 f285:=LF Tryz.func223
 f286:=LF Tryz.func224
 f287:=LF Tryz.func316
 f316:=LF Tryz.func317
 f317:=LF Tryz.func271
 f318:=LF Tryz.func272
 f319:=LF Tryz.func273
 f320:=LF Tryz.func274
 f321:=LF Tryz.func325
 f322:=LF Tryz.func326
 f337:=LF Tryz.func303
 f338:=LF Tryz.func304
 t0:=Cd
 a0:=CX
 z0:=CK
 v0:=Ci
 t2:=Tryz.underlying2
 a2:=Tryz.isAgg2
 z2:=Tryz.sizeOf2
 v2:=Tryz.zeroValue2
 t3:=Bo
 a3:=Co
 z3:=Ce
 v3:=BI
 t4:=BD
 a4:=Cy
 z4:=Ck
 v4:=BO
 t5:=Bq
 a5:=Cp
 z5:=Cf
 v5:=BJ
 t9:=Bm
 a9:=Cq
 z9:=Cg
 v9:=BK
 t20:=Dz
 a20:=Et
 z20:=Em
 v20:=DT
 t21:=CL
 a21:=Dq
 z21:=Df
 v21:=CU
 t37:=Tryz.underlying110
 a37:=Tryz.isAgg110
 z37:=Tryz.sizeOf110
 v37:=Tryz.zeroValue110
 t46:=Tryz.underlying177
 a46:=Tryz.isAgg177
 z46:=Tryz.sizeOf177
 v46:=Tryz.zeroValue177
 t51:=Tryz.underlying236
 a51:=Tryz.isAgg236
 z51:=Tryz.sizeOf236
 v51:=Tryz.zeroValue236
 t53:=Tryz.underlying238
 a53:=Tryz.isAgg238
 z53:=Tryz.sizeOf238
 v53:=Tryz.zeroValue238
 t75:=Tryz.underlying114
 a75:=Tryz.isAgg114
 z75:=Tryz.sizeOf114
 v75:=Tryz.zeroValue114
 t76:=Tryz.underlying117
 a76:=Tryz.isAgg117
 z76:=Tryz.sizeOf117
 v76:=Tryz.zeroValue117
 t85:=Tryz.underlying277
 a85:=Tryz.isAgg277
 z85:=Tryz.sizeOf277
 v85:=Tryz.zeroValue277
 t127:=C9
 a127:=En
 z127:=Eh
 v127:=Tryz.zeroValue181
 t143:=Tryz.underlying313
 a143:=Tryz.isAgg313
 z143:=Tryz.sizeOf313
 v143:=Tryz.zeroValue313
 t145:=Tryz.underlying315
 a145:=Tryz.isAgg315
 z145:=Tryz.sizeOf315
 v145:=Tryz.zeroValue315
 t167:=Tryz.underlying287
 a167:=Tryz.isAgg287
 z167:=Tryz.sizeOf287
 v167:=Tryz.zeroValue287
 t168:=Tryz.underlying288
 a168:=Tryz.isAgg288
 z168:=Tryz.sizeOf288
 v168:=Tryz.zeroValue288
 t171:=Tryz.underlying237
 a171:=Tryz.isAgg237
 z171:=Tryz.sizeOf237
 v171:=Tryz.zeroValue237
 t173:=Tryz.underlying241
 a173:=Tryz.isAgg241
 z173:=Tryz.sizeOf241
 v173:=Tryz.zeroValue241
 t175:=Tryz.underlying300
 a175:=Tryz.isAgg300
 z175:=Tryz.sizeOf300
 v175:=Tryz.zeroValue300
 t210:=Tryz.underlying304
 a210:=Tryz.isAgg304
 z210:=Tryz.sizeOf304
 v210:=Tryz.zeroValue304
 t212:=Tryz.underlying273
 a212:=Tryz.isAgg273
 z212:=Tryz.sizeOf273
 v212:=Tryz.zeroValue273
 t213:=Tryz.underlying274
 a213:=Tryz.isAgg274
 z213:=Tryz.sizeOf274
 t232:=Tryz.underlying306
 a232:=Tryz.isAgg306
 z232:=Tryz.sizeOf306
 v232:=Tryz.zeroValue306
 t233:=Tryz.underlying307
 a233:=Tryz.isAgg307
 z233:=Tryz.sizeOf307
 v233:=Tryz.zeroValue307
 g15:=by kernel_rfl
 g16:=by kernel_rfl
 g17:=by kernel_rfl
 g18:=by kernel_rfl
 g19:=by kernel_rfl
 t80:=Tryz.underlying122
 a80:=Tryz.isAgg122
 z80:=Tryz.sizeOf122
 v80:=Tryz.zeroValue122
 i0:=by kernel_rfl
 i2:=by kernel_rfl
 i3:=by kernel_rfl
 i4:=by kernel_rfl
 i5:=by kernel_rfl
 i9:=by kernel_rfl
 i20:=by kernel_rfl
 i21:=by kernel_rfl
 i37:=by kernel_rfl
 i46:=by kernel_rfl
 i51:=by kernel_rfl
 i53:=by kernel_rfl
 i75:=by kernel_rfl
 i76:=by kernel_rfl
 i80:=by kernel_rfl
 i85:=by kernel_rfl
 i127:=by kernel_rfl
 i143:=by kernel_rfl
 i145:=by kernel_rfl
 i167:=by kernel_rfl
 i168:=by kernel_rfl
 i171:=by kernel_rfl
 i173:=by kernel_rfl
 i175:=by kernel_rfl
 i210:=by kernel_rfl
 i212:=by kernel_rfl
 i232:=by kernel_rfl
 i233:=by kernel_rfl
 m15:=by kernel_rfl
 m16:=by kernel_rfl
 m17:=by kernel_rfl
 m18:=by kernel_rfl
 m19:=by kernel_rfl
 c0:=by kernel_rfl
 c2:=by kernel_rfl
 c3:=by kernel_rfl
 c4:=by kernel_rfl
 c5:=by kernel_rfl
 c9:=by kernel_rfl
 c20:=by kernel_rfl
 c21:=by kernel_rfl
 c37:=by kernel_rfl
 c46:=by kernel_rfl
 c51:=by kernel_rfl
 c53:=by kernel_rfl
 c75:=by kernel_rfl
 c76:=by kernel_rfl
 c80:=by kernel_rfl
 c85:=by kernel_rfl
 c127:=by kernel_rfl
 c143:=by kernel_rfl
 c145:=by kernel_rfl
 c167:=by kernel_rfl
 c168:=by kernel_rfl
 c171:=by kernel_rfl
 c173:=by kernel_rfl
 c175:=by kernel_rfl
 c210:=by kernel_rfl
 c212:=by kernel_rfl
 c213:=by kernel_rfl
 c232:=by kernel_rfl
 c233:=by kernel_rfl }
def zmp:Go.Shelf.Ren:=⟨fun|321=>325|n=>n,fun|5=>5|n=>n,fun|n=>n⟩
theorem z0c:Go.Proofs.Lays.n321 Tp zmp:={
 mixed:=by kernel_rfl
 f321:=LF Tryz.func325
 t5:=Bq
 a5:=Cp
 z5:=Cf
 v5:=BJ }
theorem Jh(c:Int)(w:World):
  Calls Tp 325 #[.int .u8 c] w λe w'=>e=.returned (.int .u8 (bits .or .u8 c 32))/\w'=w:=Any.internal_strconv_lower z0c c w
theorem zez(s:Bt)(Z:s.size<=9223372036854775806)(v:Int)(h:Lib.atoiAll s.data.toList=.ok v)(w:World):
  Calls Tp 210 #[.string s] w λe w'=>e=.returned (.tuple #[.int .i64 v,.nilIface])/\(w'=w\/∃t,w'=Lib.bytesWorld w 5 t):=Any.strconv_Atoi_ok zey s Z v h w
theorem X0(s:Bt)(Z:s.size<=281474976710656)(h:Lib.atoiAll s.data.toList=Lib.atoiAll [])(ev:Value)(w:World)(hv:w.cell? ⟨4,0,none⟩=some ev)(aa:ev=.nilIface\/∃te pe,ev=.iface te pe):
  Calls Tp 210 #[.string s] w λe w'=>∃N,e=.returned (.tuple #[.int .i64 (0),.iface 288 (.pointer (some ⟨N,0,none⟩))])/\w.heap.size<=N/\w'.heap[N]?=some (.cells #[.string ⟨#[65,116,111,105]⟩,.string s,ev] 304 (0,0))/\Below w.heap.size w w':=Any.strconv_Atoi_syntax zey s Z h ev w hv aa
theorem za2(s:Bt)(Z:s.size<=281474976710656)(h:Lib.atoiAll s.data.toList=.range)(ev:Value)(w:World)(hv:w.cell? ⟨5,0,none⟩=some ev)(aa:ev=.nilIface\/∃te pe,ev=.iface te pe):
  Calls Tp 210 #[.string s] w λe w'=>∃N,e=.returned (.tuple #[.int .i64 (Lib.atoiSat s.data.toList),.iface 288 (.pointer (some ⟨N,0,none⟩))])/\w.heap.size<=N/\w'.heap[N]?=some (.cells #[.string ⟨#[65,116,111,105]⟩,.string s,ev] 304 (0,0))/\Below w.heap.size w w':=Any.strconv_Atoi_range zey s Z h ev w hv aa
def zjr:Go.Shelf.Ren:=⟨fun|174=>277|247=>294|245=>267|287=>316|279=>295|280=>296|281=>297|282=>298|321=>325|322=>326|316=>317|171=>79|205=>318|243=>149|246=>154|283=>221|284=>222|285=>223|286=>224|129=>252|317=>271|318=>272|319=>273|320=>274|337=>303|338=>304|n=>n,fun|9=>9|3=>3|2=>2|75=>114|85=>277|4=>4|167=>287|5=>5|53=>238|175=>300|46=>177|168=>288|37=>110|0=>0|210=>304|21=>21|127=>181|145=>315|143=>313|171=>237|173=>241|212=>273|51=>236|20=>20|213=>274|232=>306|233=>307|80=>122|n=>n,fun|15=>4|16=>5|17=>2|18=>6|19=>7|n=>n⟩
theorem ze0:Go.Proofs.LaysC.n174 Tp zjr:={
 mixed:=by kernel_rfl
 f129:=LF Tryz.func252
 f171:=LF Tryz.func79
 f174:=LF Tryz.func277
 f205:=LF Tryz.func318
 f243:=LF Tryz.func149
 f245:=LF Tryz.func267
 f246:=LF Es
 f247:=LF Tryz.func294
 f279:=LF Tryz.func295
 f280:=LF Tryz.func296
 f281:=LF Tryz.func297
 f282:=LF Tryz.func298
 f283:=LF Tryz.func221
 f284:=LF Tryz.func222
 f285:=LF Tryz.func223
 f286:=LF Tryz.func224
 f287:=LF Tryz.func316
 f316:=LF Tryz.func317
 f317:=LF Tryz.func271
 f318:=LF Tryz.func272
 f319:=LF Tryz.func273
 f320:=LF Tryz.func274
 f321:=LF Tryz.func325
 f322:=LF Tryz.func326
 f337:=LF Tryz.func303
 f338:=LF Tryz.func304
 t0:=Cd
 a0:=CX
 z0:=CK
 v0:=Ci
 t2:=Tryz.underlying2
 a2:=Tryz.isAgg2
 z2:=Tryz.sizeOf2
 v2:=Tryz.zeroValue2
 t3:=Bo
 a3:=Co
 z3:=Ce
 v3:=BI
 t4:=BD
 a4:=Cy
 z4:=Ck
 v4:=BO
 t5:=Bq
 a5:=Cp
 z5:=Cf
 v5:=BJ
 t9:=Bm
 a9:=Cq
 z9:=Cg
 v9:=BK
 t20:=Dz
 a20:=Et
 z20:=Em
 v20:=DT
 t21:=CL
 a21:=Dq
 z21:=Df
 v21:=CU
 t37:=Tryz.underlying110
 a37:=Tryz.isAgg110
 z37:=Tryz.sizeOf110
 v37:=Tryz.zeroValue110
 t46:=Tryz.underlying177
 a46:=Tryz.isAgg177
 z46:=Tryz.sizeOf177
 v46:=Tryz.zeroValue177
 t51:=Tryz.underlying236
 a51:=Tryz.isAgg236
 z51:=Tryz.sizeOf236
 v51:=Tryz.zeroValue236
 t53:=Tryz.underlying238
 a53:=Tryz.isAgg238
 z53:=Tryz.sizeOf238
 v53:=Tryz.zeroValue238
 t75:=Tryz.underlying114
 a75:=Tryz.isAgg114
 z75:=Tryz.sizeOf114
 v75:=Tryz.zeroValue114
 t85:=Tryz.underlying277
 a85:=Tryz.isAgg277
 z85:=Tryz.sizeOf277
 v85:=Tryz.zeroValue277
 t127:=C9
 a127:=En
 z127:=Eh
 v127:=Tryz.zeroValue181
 t143:=Tryz.underlying313
 a143:=Tryz.isAgg313
 z143:=Tryz.sizeOf313
 v143:=Tryz.zeroValue313
 t145:=Tryz.underlying315
 a145:=Tryz.isAgg315
 z145:=Tryz.sizeOf315
 v145:=Tryz.zeroValue315
 t167:=Tryz.underlying287
 a167:=Tryz.isAgg287
 z167:=Tryz.sizeOf287
 v167:=Tryz.zeroValue287
 t168:=Tryz.underlying288
 a168:=Tryz.isAgg288
 z168:=Tryz.sizeOf288
 v168:=Tryz.zeroValue288
 t171:=Tryz.underlying237
 a171:=Tryz.isAgg237
 z171:=Tryz.sizeOf237
 v171:=Tryz.zeroValue237
 t173:=Tryz.underlying241
 a173:=Tryz.isAgg241
 z173:=Tryz.sizeOf241
 v173:=Tryz.zeroValue241
 t175:=Tryz.underlying300
 a175:=Tryz.isAgg300
 z175:=Tryz.sizeOf300
 v175:=Tryz.zeroValue300
 t210:=Tryz.underlying304
 a210:=Tryz.isAgg304
 z210:=Tryz.sizeOf304
 v210:=Tryz.zeroValue304
 t212:=Tryz.underlying273
 a212:=Tryz.isAgg273
 z212:=Tryz.sizeOf273
 v212:=Tryz.zeroValue273
 t213:=Tryz.underlying274
 a213:=Tryz.isAgg274
 z213:=Tryz.sizeOf274
 t232:=Tryz.underlying306
 a232:=Tryz.isAgg306
 z232:=Tryz.sizeOf306
 v232:=Tryz.zeroValue306
 t233:=Tryz.underlying307
 a233:=Tryz.isAgg307
 z233:=Tryz.sizeOf307
 v233:=Tryz.zeroValue307
 g15:=by kernel_rfl
 g16:=by kernel_rfl
 g17:=by kernel_rfl
 g18:=by kernel_rfl
 g19:=by kernel_rfl
 t80:=Tryz.underlying122
 a80:=Tryz.isAgg122
 z80:=Tryz.sizeOf122
 v80:=Tryz.zeroValue122
 i0:=by kernel_rfl
 i2:=by kernel_rfl
 i3:=by kernel_rfl
 i4:=by kernel_rfl
 i5:=by kernel_rfl
 i9:=by kernel_rfl
 i20:=by kernel_rfl
 i21:=by kernel_rfl
 i37:=by kernel_rfl
 i46:=by kernel_rfl
 i51:=by kernel_rfl
 i53:=by kernel_rfl
 i75:=by kernel_rfl
 i80:=by kernel_rfl
 i85:=by kernel_rfl
 i127:=by kernel_rfl
 i143:=by kernel_rfl
 i145:=by kernel_rfl
 i167:=by kernel_rfl
 i168:=by kernel_rfl
 i171:=by kernel_rfl
 i173:=by kernel_rfl
 i175:=by kernel_rfl
 i210:=by kernel_rfl
 i212:=by kernel_rfl
 i232:=by kernel_rfl
 i233:=by kernel_rfl
 m15:=by kernel_rfl
 m16:=by kernel_rfl
 m17:=by kernel_rfl
 m18:=by kernel_rfl
 m19:=by kernel_rfl
 c0:=by kernel_rfl
 c2:=by kernel_rfl
 c3:=by kernel_rfl
 c4:=by kernel_rfl
 c5:=by kernel_rfl
 c9:=by kernel_rfl
 c20:=by kernel_rfl
 c21:=by kernel_rfl
 c37:=by kernel_rfl
 c46:=by kernel_rfl
 c51:=by kernel_rfl
 c53:=by kernel_rfl
 c75:=by kernel_rfl
 c80:=by kernel_rfl
 c85:=by kernel_rfl
 c127:=by kernel_rfl
 c143:=by kernel_rfl
 c145:=by kernel_rfl
 c167:=by kernel_rfl
 c168:=by kernel_rfl
 c171:=by kernel_rfl
 c173:=by kernel_rfl
 c175:=by kernel_rfl
 c210:=by kernel_rfl
 c212:=by kernel_rfl
 c213:=by kernel_rfl
 c232:=by kernel_rfl
 c233:=by kernel_rfl }
theorem Qb(s:Bt)(Z:s.size<=9223372036854775806)(v:Int)(h:Lib.parseIntB 64 s.data.toList=.ok v)(w:World):
  Calls Tp 277 #[.string s,.int .i64 10,.int .i64 64] w λe w'=>e=.returned (.tuple #[.int .i64 v,.nilIface])/\(w'=w\/∃t,w'=Lib.bytesWorld w 5 t):=Any.strconv_ParseInt_10_at64_ok ze0 s Z v h w
theorem xo(s:Bt)(Z:s.size<=281474976710656)(h:Lib.parseIntB 64 s.data.toList=Lib.parseIntB 64 [])(ev:Value)(w:World)(hv:w.cell? ⟨4,0,none⟩=some ev)(aa:ev=.nilIface\/∃te pe,ev=.iface te pe):
  Calls Tp 277 #[.string s,.int .i64 10,.int .i64 64] w λe w'=>∃N,e=.returned (.tuple #[.int .i64 (0),.iface 288 (.pointer (some ⟨N,0,none⟩))])/\w.heap.size<=N/\w'.heap[N]?=some (.cells #[.string ⟨#[80,97,114,115,101,73,110,116]⟩,.string s,ev] 304 (0,0))/\Below w.heap.size w w':=Any.strconv_ParseInt_10_at64_syntax ze0 s Z h ev w hv aa
theorem x7(s:Bt)(Z:s.size<=281474976710656)(h:Lib.parseIntB 64 s.data.toList=.range)(ev:Value)(w:World)(hv:w.cell? ⟨5,0,none⟩=some ev)(aa:ev=.nilIface\/∃te pe,ev=.iface te pe):
  Calls Tp 277 #[.string s,.int .i64 10,.int .i64 64] w λe w'=>∃N,e=.returned (.tuple #[.int .i64 (Lib.intSat 64 s.data.toList),.iface 288 (.pointer (some ⟨N,0,none⟩))])/\w.heap.size<=N/\w'.heap[N]?=some (.cells #[.string ⟨#[80,97,114,115,101,73,110,116]⟩,.string s,ev] 304 (0,0))/\Below w.heap.size w w':=Any.strconv_ParseInt_10_at64_range ze0 s Z h ev w hv aa
def zpk:Go.Shelf.Ren:=⟨fun|99=>156|206=>227|n=>n,fun|9=>9|4=>4|3=>3|n=>n,fun|n=>n⟩
theorem z5l:Go.Proofs.Lays.n99 Tp zpk:={
 mixed:=by kernel_rfl
 f99:=LF Tryz.func156
 f206:=LF Tryz.func227
 t3:=Bo
 a3:=Co
 z3:=Ce
 v3:=BI
 t4:=BD
 a4:=Cy
 z4:=Ck
 v4:=BO
 t9:=Bm
 a9:=Cq
 z9:=Cg
 v9:=BK }
open Go.RowKit Go.Lib in
theorem zb3(s p:Bt)(w:World):
  Calls Tp 156 #[.string s,.string p] w λe w'=>e=.returned (.bool (Lib.hasPrefix s.data.toList p.data.toList))/\w'=w:=Any.strings_HasPrefix z5l s p w
def zmq:Go.Shelf.Ren:=⟨fun|101=>140|208=>213|206=>227|n=>n,fun|9=>9|4=>4|3=>3|n=>n,fun|n=>n⟩
theorem z0d:Go.Proofs.Lays.n101 Tp zmq:={
 mixed:=by kernel_rfl
 f101:=LF Tryz.func140
 f206:=LF Tryz.func227
 f208:=LF Tryz.func213
 t3:=Bo
 a3:=Co
 z3:=Ce
 v3:=BI
 t4:=BD
 a4:=Cy
 z4:=Ck
 v4:=BO
 t9:=Bm
 a9:=Cq
 z9:=Cg
 v9:=BK }
open Go.RowKit Go.Lib in
theorem za3(s p:Bt)(w:World):
  Calls Tp 140 #[.string s,.string p] w λe w'=>e=.returned (.string ⟨(Lib.trimPrefix s.data.toList p.data.toList).toArray⟩)/\w'=w:=Any.strings_TrimPrefix z0d s p w
def zmr:Go.Shelf.Ren:=⟨fun|197=>151|260=>218|n=>n,fun|9=>9|21=>21|3=>3|4=>4|5=>5|105=>174|119=>230|0=>0|46=>177|139=>233|138=>232|n=>n,fun|3=>0|4=>1|n=>n⟩
theorem z0e:Go.Proofs.Lays.n197 Tp zmr:={
 mixed:=by kernel_rfl
 f197:=LF Tryz.func151
 f260:=LF Tryz.func218
 t0:=Cd
 a0:=CX
 z0:=CK
 v0:=Ci
 t3:=Bo
 a3:=Co
 z3:=Ce
 v3:=BI
 t4:=BD
 a4:=Cy
 z4:=Ck
 v4:=BO
 t5:=Bq
 a5:=Cp
 z5:=Cf
 v5:=BJ
 t9:=Bm
 a9:=Cq
 z9:=Cg
 v9:=BK
 t21:=CL
 a21:=Dq
 z21:=Df
 v21:=CU
 t46:=Tryz.underlying177
 a46:=Tryz.isAgg177
 z46:=Tryz.sizeOf177
 v46:=Tryz.zeroValue177
 t105:=Tryz.underlying174
 a105:=Tryz.isAgg174
 z105:=Tryz.sizeOf174
 v105:=Tryz.zeroValue174
 t119:=Tryz.underlying230
 a119:=Tryz.isAgg230
 z119:=Tryz.sizeOf230
 t138:=Tryz.underlying232
 a138:=Tryz.isAgg232
 z138:=Tryz.sizeOf232
 v138:=Tryz.zeroValue232
 t139:=Tryz.underlying233
 a139:=Tryz.isAgg233
 z139:=Tryz.sizeOf233
 v139:=Tryz.zeroValue233
 g3:=by kernel_rfl
 g4:=by kernel_rfl }
def zms:Go.Shelf.Ren:=⟨fun|150=>209|153=>265|152=>269|226=>293|227=>143|228=>214|137=>212|119=>300|224=>301|225=>302|217=>268|266=>299|n=>n,fun|9=>9|4=>4|3=>3|5=>5|21=>21|117=>170|116=>169|0=>0|46=>177|124=>173|n=>n,fun|n=>n⟩
theorem z0f:Go.Proofs.Lays.n150 Tp zms:={
 mixed:=by kernel_rfl
 f119:=LF Tryz.func300
 f137:=LF Eg
 f150:=LF Tryz.func209
 f152:=LF Tryz.func269
 f153:=LF Tryz.func265
 f217:=LF Tryz.func268
 f224:=LF Tryz.func301
 f225:=LF Tryz.func302
 f226:=LF Tryz.func293
 f227:=LF Tryz.func143
 f228:=LF Tryz.func214
 f266:=LF Tryz.func299
 t0:=Cd
 a0:=CX
 z0:=CK
 v0:=Ci
 t3:=Bo
 a3:=Co
 z3:=Ce
 v3:=BI
 t4:=BD
 a4:=Cy
 z4:=Ck
 v4:=BO
 t5:=Bq
 a5:=Cp
 z5:=Cf
 v5:=BJ
 t9:=Bm
 a9:=Cq
 z9:=Cg
 v9:=BK
 t21:=CL
 a21:=Dq
 z21:=Df
 v21:=CU
 t46:=Tryz.underlying177
 a46:=Tryz.isAgg177
 z46:=Tryz.sizeOf177
 v46:=Tryz.zeroValue177
 t116:=Tryz.underlying169
 a116:=Tryz.isAgg169
 z116:=Tryz.sizeOf169
 t117:=Tryz.underlying170
 a117:=Tryz.isAgg170
 z117:=Tryz.sizeOf170
 v117:=Tryz.zeroValue170
 t124:=Tryz.underlying173
 a124:=Tryz.isAgg173
 z124:=Tryz.sizeOf173
 v124:=Tryz.zeroValue173 }
open Go.RowKit Go.Lib in
theorem Yj(s Z:Bt)(w:World)(hs:s.size<4294967281)(ae:Z.size<4294967281)(aa:∀(j:Nat) b,s.data.toList[j]?=some b->b.toNat<128)(ab:∀(j:Nat) b,Z.data.toList[j]?=some b->b.toNat<128):
  Calls Tp 209 #[.string s,.string Z] w λe w'=>e=.returned (.bool (Lib.containsAny s.data.toList Z.data.toList))/\Below w.heap.size w w':=Any.strings_ContainsAny_laid z0f (by kernel_rfl) s Z w hs ae aa ab
def zdp:Go.Shelf.Ren:=⟨fun|105=>86|212=>155|99=>156|165=>157|166=>85|170=>158|169=>87|263=>225|264=>226|206=>227|240=>152|241=>228|276=>219|277=>275|n=>n,fun|9=>9|3=>3|4=>4|20=>20|0=>0|46=>177|109=>178|5=>5|72=>112|76=>117|51=>236|146=>243|53=>238|148=>245|70=>109|37=>110|75=>114|127=>181|164=>234|80=>122|n=>n,fun|n=>n⟩
theorem z0g:Go.Proofs.Lays.n105 Tp zdp:={
 mixed:=by kernel_rfl
 f99:=LF Tryz.func156
 f105:=LF Tryz.func86
 f165:=LF Tryz.func157
 f166:=LF Tryz.func85
 f169:=LF Tryz.func87
 f170:=LF Tryz.func158
 f206:=LF Tryz.func227
 f212:=LF Tryz.func155
 f240:=LF Tryz.func152
 f241:=LF Tryz.func228
 f263:=LF Tryz.func225
 f264:=LF Tryz.func226
 f276:=LF Tryz.func219
 f277:=LF Tryz.func275
 t0:=Cd
 a0:=CX
 z0:=CK
 v0:=Ci
 t3:=Bo
 a3:=Co
 z3:=Ce
 v3:=BI
 t4:=BD
 a4:=Cy
 z4:=Ck
 v4:=BO
 t5:=Bq
 a5:=Cp
 z5:=Cf
 v5:=BJ
 t9:=Bm
 a9:=Cq
 z9:=Cg
 v9:=BK
 t20:=Dz
 a20:=Et
 z20:=Em
 v20:=DT
 t37:=Tryz.underlying110
 a37:=Tryz.isAgg110
 z37:=Tryz.sizeOf110
 v37:=Tryz.zeroValue110
 t46:=Tryz.underlying177
 a46:=Tryz.isAgg177
 z46:=Tryz.sizeOf177
 v46:=Tryz.zeroValue177
 t51:=Tryz.underlying236
 a51:=Tryz.isAgg236
 z51:=Tryz.sizeOf236
 v51:=Tryz.zeroValue236
 t53:=Tryz.underlying238
 a53:=Tryz.isAgg238
 z53:=Tryz.sizeOf238
 v53:=Tryz.zeroValue238
 t70:=Tryz.underlying109
 a70:=Tryz.isAgg109
 z70:=Tryz.sizeOf109
 v70:=Tryz.zeroValue109
 t72:=Tryz.underlying112
 a72:=Tryz.isAgg112
 z72:=Tryz.sizeOf112
 v72:=Tryz.zeroValue112
 t75:=Tryz.underlying114
 a75:=Tryz.isAgg114
 z75:=Tryz.sizeOf114
 v75:=Tryz.zeroValue114
 t76:=Tryz.underlying117
 a76:=Tryz.isAgg117
 z76:=Tryz.sizeOf117
 v76:=Tryz.zeroValue117
 t109:=Tryz.underlying178
 a109:=Tryz.isAgg178
 z109:=Tryz.sizeOf178
 v109:=Tryz.zeroValue178
 t127:=C9
 a127:=En
 z127:=Eh
 v127:=Tryz.zeroValue181
 t146:=Tryz.underlying243
 a146:=Tryz.isAgg243
 z146:=Tryz.sizeOf243
 v146:=Tryz.zeroValue243
 t148:=Tryz.underlying245
 a148:=Tryz.isAgg245
 z148:=Tryz.sizeOf245
 v148:=Tryz.zeroValue245
 t164:=Tryz.underlying234
 a164:=Tryz.isAgg234
 z164:=Tryz.sizeOf234
 v164:=Tryz.zeroValue234 }
theorem zb4:Builder.Extra Tp zdp:={
 sizeBuilder:=by kernel_rfl
 liesBuilder:=by kernel_rfl
 t5:=Bq
 a5:=Cp
 z5:=Cf
 v5:=BJ
 infoByte:=by kernel_rfl
 cellsByte:=by kernel_rfl
 sizeByte:=by kernel_rfl
 neB5:=by decide }
open Go.RowKit Go.Lib in
theorem zfw(s:Bt)(c:Nat)(w:World)(hc:c<=9223372036854775807)(Z:s.size*c<=140737488355328):
  Calls Tp 86 #[.string s,.int .i64 c] w λe w'=>e=.returned (.string ⟨(Lib.repeatL s.data.toList c).toArray⟩)/\Below w.heap.size w w':=Any.strings_Repeat z0g zb4 s c w hc Z
open Go.RowKit Go.Lib in
theorem Y1(s:Bt)(w:World)(hT:Lib.Utf8Tabs 0 1 w):
  Calls Tp 151 #[.string s] w λe w'=>e=.returned (.tuple #[.int .i32 (Lib.decodeGo s).1,.int .i64 (Lib.decodeGo s).2])/\Below w.heap.size w w':=Any.utf8_DecodeRuneInString z0e s w hT
end
end Go.X
end
section
namespace Go.X
open Go Go.X Go.Proofs Go.RowKit
section
variable {gl M:Fr} {s:Bt}
theorem X1{c:Int}{R:Int->Prop}(h:R (Lib.indexByte (lb s) c.toNat.toUInt8)):PC Tp gl 212 [Arg.mk .str s,Arg.mk (.int .u8) c] [.int .i64] R:=
 PC.of_same rfl (λ_=>zz0 _ _) h λw _=>jh s c w
theorem zpl{s p:Bt}{R:Bt×Bool->Prop}(h:R (bl (Lib.trimPrefix (lb s) (lb p)),Lib.hasPrefix (lb s) (lb p))):PC Tp gl 138 [Arg.mk .str s,Arg.mk .str p] [.str,.bool] R:=
 PC.of_same rfl (λM=>⟨[_,_],⟨_,_,rfl,rfl,_,rfl,rfl⟩,rfl⟩) h λw _=>zb2 s p w
theorem zmt{s p:Bt}{R:Bt->Prop}(h:R (bl (Lib.trimPrefix (lb s) (lb p)))):PC Tp gl 140 [Arg.mk .str s,Arg.mk .str p] [.str] R:=
 PC.of_same rfl (λ_=>zhv _) h λw _=>za3 s p w
theorem zsi{c:UInt8}(hc:c.toNat<128){R:Bt->Prop}(h:R (bl (Lib.trimLeftB (lb s) c))):PC Tp gl 76 [Arg.mk .str s,Arg.mk .str ⟨#[c]⟩] [.str] R:=
 PC.of_same rfl (λ_=>zhv _) h λw _=>Xa s c hc w
theorem zpm{c:UInt8}(hc:c.toNat<128)(hs:s.size<=9223372036854775807){R:Bt->Prop}(h:R (bl (Lib.trimRightB (lb s) c))):PC Tp gl 77 [Arg.mk .str s,Arg.mk .str ⟨#[c]⟩] [.str] R:=
 PC.of_same rfl (λ_=>zhv _) h λw _=>Wo s c hc w hs
def z8i(gl:Fr):Prop:=∃(cs:Array Value) (m:Int),gl 3=some cs/\cs[0]?=some (.int .i64 m)
theorem zh0(w:World)(n:Nat):Below w.heap.size w (w.drewN n):=⟨rfl,rfl,rfl,Ac _,λ_ _=>rfl⟩
theorem zh1{c:Nat}(hc:c<=9223372036854775807)(Z:s.size*c<=140737488355328){R:Bt->Prop}(h:R (bl (Lib.repeatL (lb s) c))):PC Tp gl 86 [Arg.mk .str s,Arg.mk (.int .i64) (c:Int)] [.str] R:=
 PC.of_scal rfl (λ_=>zhv _) h λw hw=>zfw s c w hc Z
def Tabs(gl:Fr):Prop:=(∃cs:Array Value,gl 0=some cs/\∀c,c<256->cs[c]?=some (.int .u8 (Lib.firstT c)))/\∃cs:Array Value,gl 1=some cs/\∀i,i<16->cs[2*i]?=some (.int .u8 (Lib.accLo i))/\cs[2*i+1]?=some (.int .u8 (Lib.accHi i))
theorem Tabs.at(h:Tabs gl){w:World}(hw:AgM gl w.heap):Lib.Utf8Tabs 0 1 w:=by
 obtain⟨⟨c1,a1,b1⟩,c2,a2,b2⟩:=h
 exact⟨λc hc=>hw.glob a1 (b1 c hc),λi hi=>⟨hw.glob a2 (b2 i hi).1,hw.glob a2 (b2 i hi).2⟩⟩
theorem zpn(hg:Tabs gl){R:Int×Int->Prop}(h:R ((Lib.decodeGo s).1,(Lib.decodeGo s).2)):PC Tp gl 151 [Arg.mk .str s] [.int .i32,.int .i64] R:=
 PC.of_scal rfl (λM=>⟨[_,_],⟨_,_,rfl,rfl,_,rfl,rfl⟩,rfl⟩) h λw hw=>Y1 s w (hg.at hw)
theorem zxc(w:World)(k:Nat)(os:Array Obj):Below w.heap.size w (Go.Sort.grow (w.drewN k) os):=⟨rfl,rfl,rfl,by simp[Go.Sort.grow,World.drewN],λi hi=>by
 show((w.drewN k).heap++os)[i]?=_
 exact CI hi⟩
def Pow(gl : Fr): Prop := ∃ b cs, Tryz.prog.globalNamed "internal/strconv.uint64pow10" = some b ∧ gl b = some cs ∧ cs = (Lib.pow10Tab.map λz => Value.int .u64 z).toArray
theorem z0h(hg:Pow gl){n:Int}(h0:-9223372036854775808<=n)(h1:n<=9223372036854775807){R:Bt->Prop}(h:R (bl (Lib.itoa n))):PC Tp gl 79 [Arg.mk (.int .i64) n] [.str] R:=by
 obtain⟨b,cs,e1,e2,e3⟩:=hg
 refine PC.of_scal rfl (λ_=>zhv _) h λw hw=>(zjo n h0 h1 w ?_).mono λe w' ⟨he,k,os,Z⟩=>⟨he,Z ▸ zxc w k os⟩
 obtain⟨T,m,e4⟩:=hw b cs e2
 unfold Lib.TabIs World.var?
 rw[e1]
 simp only[CP,e4,e3]
def qaz(l:List UInt8):Int×Bool:=match Lib.atoiAll l with
 |.ok v=>(v,true)
 |.range=>(Lib.atoiSat l,false)
 |_=>(0,false)
def zmu(gl:Fr):Prop:=(∃(cs:Array Value) (e:Value),gl 4=some cs/\cs[0]?=some e/\(e=.nilIface\/∃te pe,e=.iface te pe))/\∃(cs:Array Value) (e:Value),gl 5=some cs/\cs[0]?=some e/\(e=.nilIface\/∃te pe,e=.iface te pe)
theorem zh2(k:IntKind)(i:Int)(t:TypeId)(u:Value):zcx M [.int k,.err] (i,false) (.tuple #[.int k i,.iface t u]):=⟨[_,_],⟨_,_,rfl,rfl,.iface t u,rfl,⟨_,rfl,.inr ⟨rfl,_,_,rfl⟩⟩⟩,rfl⟩
theorem zh3(k:IntKind)(i:Int):zcx M [.int k,.err] (i,true) (.tuple #[.int k i,.nilIface]):=⟨[_,_],⟨_,_,rfl,rfl,.nilIface,rfl,⟨_,rfl,.inl ⟨rfl,rfl⟩⟩⟩,rfl⟩
theorem qa0(hg:zmu gl)(hs:s.size<=281474976710656){R:Int×Bool->Prop}(h:R (qaz (lb s))):PC Tp gl 210 [Arg.mk .str s] [.int .i64,.err] R:=by
 unfold qaz at h
 cases hx:Lib.atoiAll (lb s)with
 |ok v=>
  rw[hx]at h
  refine PC.of_ex rfl λw hw=>(zez s (by omega) v hx w).mono λe w' ⟨he,aa⟩=>⟨_,(v,true),he,λM=>zh3 _ _,h,?_⟩
  rcases aa with rfl|⟨t,rfl⟩
  ·exact Below.refl _ _
  ·exact Lib.bytesWorld_below _ _ _
 |range=>
  rw[hx]at h
  obtain⟨_,⟨cs,ev,e1,e2,e3⟩⟩:=hg
  exact PC.of_ex rfl λw hw=>(za2 s hs hx ev w (hw.glob e1 e2) e3).mono λe w' ⟨N,he,_,_,Z⟩=>⟨_,(Lib.atoiSat (lb s),false),he,λM=>zh2 _ _ _ _,h,Z⟩
 |_=>
  rw[hx]at h
  obtain⟨⟨cs,ev,e1,e2,e3⟩,_⟩:=hg
  exact PC.of_ex rfl λw hw=>(X0 s hs hx ev w (hw.glob e1 e2) e3).mono λe w' ⟨N,he,_,_,Z⟩=>⟨_,(0,false),he,λM=>zh2 _ _ _ _,h,Z⟩
def zh4(l:List UInt8):Int×Bool:=match Lib.parseIntB 64 l with
 |.ok v=>(v,true)
 |.range=>(Lib.intSat 64 l,false)
 |_=>(0,false)
theorem zsj(hg:zmu gl)(hs:s.size<=281474976710656){R:Int×Bool->Prop}(h:R (zh4 (lb s))):PC Tp gl 277 [Arg.mk .str s,Arg.mk (.int .i64) 10,Arg.mk (.int .i64) 64] [.int .i64,.err] R:=by
 unfold zh4 at h
 cases hx:Lib.parseIntB 64 (lb s)with
 |ok v=>
  rw[hx]at h
  refine PC.of_ex rfl λw hw=>(Qb s (by omega) v hx w).mono λe w' ⟨he,aa⟩=>⟨_,(v,true),he,λM=>zh3 _ _,h,?_⟩
  rcases aa with rfl|⟨t,rfl⟩
  ·exact Below.refl _ _
  ·exact Lib.bytesWorld_below _ _ _
 |range=>
  rw[hx]at h
  obtain⟨_,⟨cs,ev,e1,e2,e3⟩⟩:=hg
  exact PC.of_ex rfl λw hw=>(x7 s hs hx ev w (hw.glob e1 e2) e3).mono λe w' ⟨N,he,_,_,Z⟩=>⟨_,(Lib.intSat 64 (lb s),false),he,λM=>zh2 _ _ _ _,h,Z⟩
 |_=>
  rw[hx]at h
  obtain⟨⟨cs,ev,e1,e2,e3⟩,_⟩:=hg
  exact PC.of_ex rfl λw hw=>(xo s hs hx ev w (hw.glob e1 e2) e3).mono λe w' ⟨N,he,_,_,Z⟩=>⟨_,(0,false),he,λM=>zh2 _ _ _ _,h,Z⟩
theorem zjs{s c:Bt}(hs:s.size<4294967281)(hc:c.size<4294967281)(Z:∀(j:Nat) b,(lb s)[j]?=some b->b.toNat<128)(aa:∀(j:Nat) b,(lb c)[j]?=some b->b.toNat<128){R:Bool->Prop}(h:R (Lib.containsAny (lb s) (lb c))):
  PC Tp gl 209 [Arg.mk .str s,Arg.mk .str c] [.bool] R:=
 PC.of_scal rfl (λ_=>zui _) h λw hw=>Yj s c w hs hc Z aa
end
end Go.X
end
section
namespace Go.X
open Go Go.Lib
section
theorem ze(l:Bs):(bl l).size=l.length:=by rw[<-zhz,yp]
theorem Zq(l:Bs)(a b:Nat):(bl l).extract a b=bl ((l.drop a).take (b-a)):=by rw[<-zpj,zw8,yp,yp]
theorem xp(a b:Bs):bl a++bl b=bl (a++b):=by rw[<-zpj,zz5,yp,yp,yp]
theorem yr(l:Bs)(i:Nat):zb (bl l) i=((l[i]?.getD 0).toNat:Int):=by rw[zz6,yp]
theorem Ji(s:Bt):s.toList=lb s:=by
 cases s with
 |mk d=>exact Go.Lib.toList_data ⟨d⟩
theorem zfx(a b:Bs):((bl a).toList==(bl b).toList)=decide (a=b):=by
 rw[Ji,Ji,yp,yp]
 rw[AJ];simp
theorem z8j{a b:Bs}:bl a=bl b↔a=b:=by rw[<-zpj,yp,yp]
theorem zpo(l:Bs)(p:Nat):nxB (bl l) p=decide (p<l.length):=by
 rw[AJ];simp[nxB,ze]
theorem zpp(l:Bs)(p:Nat):nxR (bl l) p=((dec (l.drop p)).1:Int):=by rw[nxR,zuj,yp]
theorem zh5(l:Bs)(p:Nat)(h:p<l.length):nxP (bl l) p=p+(dec (l.drop p)).2:=by
 rw[nxP,zuj,yp]
 have:Nat.blt p (bl l).size=true:=by simp[ze,h]
 rw[this];rfl
theorem zul{l:Bs}{i:Nat}(h:i<l.length):l[i]?.getD 0=l[i]:=by rw[Aq h];rfl
def qi(c:UInt8):Bool:=decide (48<=c.toNat)&&decide (c.toNat<=57)
def Ju(l:Bs):Bool:=l.all qi && !l.isEmpty
abbrev Nm:=Bool×Bs×Int
abbrev nmB(n:Nm):Bool×Bt×Int:=(n.1,(bl n.2.1,n.2.2))
def X3(n:Nm):Bool:=!n.1&&(n.2.1.isEmpty&&n.2.2==0)
def yy(n:Nm):Bool:=X3 n||(Ju n.2.1&&decide (n.2.1.length<=1000)&&n.2.1.head? != some 48&&n.2.1.getLast? != some 48&&decide (-1000000<=n.2.2)&&decide (n.2.2<=1000000))
def qz(n:Nm):Bs:=if yy n then(if n.2.1=[]then [48]else(if n.1 then [45]else [])++n.2.1++(if n.2.2=0 then []else 101::Go.Lib.itoa n.2.2))else []
theorem zh6{n:Nm}(h:yy n=true)(e:n.2.1=[]):X3 n=true:=by
 unfold yy at h
 rcases Br _ _ ▸ h with h|h
 ·exact h
 ·simp[Ju,e]at h
theorem zb5{n:Nm}(h:yy n=true):n.2.1.length<=1000/\-1000000<=n.2.2/\n.2.2<=1000000:=by
 unfold yy X3 at h
 obtain⟨a,d,e⟩:=n
 simp at h
 rcases h with⟨_,h,h'⟩|h
 ·subst h;subst h';simp
 ·simp only;omega
def cutAt(p:UInt8->Bool):Bs->Bs×Bs×Bool
 |[]=>([],[],false)
 |c::l=>if p c then([],l,true)else(c::(cutAt p l).1,(cutAt p l).2)
theorem zaw{p:UInt8->Bool}:∀{l},(∀c∈l,p c=false)->cutAt p l=(l,[],false)
 |[],_=>rfl
 |c::l,h=>by
  unfold cutAt
  rw[if_neg (by simp[h c (by simp)]),zaw λc hc=>h c (by simp[hc])]
theorem zmv{p:UInt8->Bool}:∀{l:Bs} {k:Nat} (hk:k<l.length),(∀i (hi:i<k),p (l[i]'(by omega))=false)->p l[k]=true->cutAt p l=(l.take k,l.drop (k+1),true)
 |c::l,0,_,_,h=>by
  unfold cutAt
  rw[if_pos (by simpa using h)];simp
 |c::l,k+1,hk,h0,h=>by
  unfold cutAt
  have h1:p c=false:=h0 0 (by omega)
  rw[if_neg (by simp[h1]),zmv (k:=k) (by simpa using hk) (λi hi=>by simpa using h0 (i+1) (by omega)) (by simpa using h)]
  simp
structure Lit where
 neg:Bool
 whole:Bs
 rest:Bs
 low:Bool
 exp:Bs
def zn2(s:Bs):Bs:=if s.head?==some 45 then s.tail else s
def isE(c:UInt8):Bool:=c==101||c==69
def zh7(c:UInt8):Bool:=c==46
def Zr(s:Bs):Bs×Bs×Bool:=cutAt isE (zn2 s)
def Q8(s:Bs):Bool:=(Zr s).2.2&&(Zr s).2.1.head?==some 45
def zi9(s:Bs):Bs:=if Q8 s then(Zr s).2.1.tail else if(Zr s).2.1.head?==some 43 then(Zr s).2.1.tail else(Zr s).2.1
def Za(s:Bs):Bs×Bs×Bool:=cutAt zh7 (Zr s).1
def zdq(s:Bs):Bool:=(!(Zr s).2.2||Ju (zi9 s))&&Ju (Za s).1&&(!(Za s).2.2||Ju (Za s).2.1)&&((Za s).1==[48]||(Za s).1.head? != some 48)
def zfy(s:Bs):Lit:=⟨s.head?==some 45,(Za s).1,(Za s).2.1,Q8 s,if(Zr s).2.2 then zi9 s else []⟩
def W6(s:Bs):Option Lit:=if zdq s then some (zfy s)else none
theorem zb6{s:Bs}{x:Lit}(h:W6 s=some x):zdq s=true/\x=zfy s:=by
 unfold W6 at h
 split at h
 ·rename_i e;exact⟨e,(Au h).symm⟩
 ·exact absurd h (by simp)
theorem Jj{p:UInt8->Bool}:∀{l:Bs},(cutAt p l).2.2=false->(cutAt p l).1=l/\(cutAt p l).2.1=[]
 |[],_=>⟨rfl,rfl⟩
 |c::l,h=>by
  unfold cutAt at h ⊢
  split
  ·rename_i e;rw[if_pos e]at h;exact absurd h (by simp)
  ·rename_i e
   rw[if_neg e]at h
   have:=Jj h
   exact⟨by simp[this.1],this.2⟩
def yz(l:Bs):Bs:=((l.dropWhile (· == 48)).reverse.dropWhile (· == 48)).reverse
def zh(l:Bs):Nat:=l.foldl (λn c=>10*n+(c.toNat-48)) 0
def zi(s:Bs):Nm×Int:=match W6 s with
 |none=>((false,[],0),2)
 |some x=>
  if x.whole.length+x.rest.length>1000 then((false,[],0),3)
  else if(x.exp.dropWhile (· == 48)).length>9 then((false,[],0),4)
  else
   let e:Int:=if x.low then-(zh (x.exp.dropWhile (· == 48)):Int)else zh (x.exp.dropWhile (· == 48))
   let d:=(x.whole++x.rest).dropWhile (· == 48)
   let Z:=yz (x.whole++x.rest)
   if d=[]then((false,[],0),0)
   else if -1000000<=e-x.rest.length+d.length-Z.length/\e-x.rest.length+d.length-Z.length<=1000000 then((x.neg,Z,e-x.rest.length+d.length-Z.length),0)
   else((false,[],0),4)
def z5m(n:Nm):Int×Bool:=
 if yy n&&decide (0<=n.2.2)&&decide ((n.2.1.length:Int)+n.2.2<=19)then
  let v:Int:=if n.1 then-((zh n.2.1*10 ^ n.2.2.toNat:Nat):Int)else(zh n.2.1*10 ^ n.2.2.toNat:Nat)
  if -9223372036854775808<=v/\v<=9223372036854775807 then(v,true)else(0,false)
 else(0,false)
end
end Go.X
end
section
namespace Go.X
section
variable {n:Nat} {l:Bs} {gl:Fr} {R:Bool -> Prop}
theorem Yk{k n:Nat}(h:k<n)(hn:n<=4611686018427387904):Aa .i64 ((k:Int)+1)=((k+1:Nat):Int):=zyu (by omega)
theorem qa1(h:l≠[]):(48<=(dec l).1/\(dec l).1<=57)->(dec l).2=1/\∃c t,l=c::t/\qi c=true/\(dec l).1=c.toNat:=by
 obtain⟨c,t,rfl⟩:=A9 h
 intro hh
 by_cases hc:c.toNat<128
 ·rw[Q7 hc]at hh ⊢
  exact⟨rfl,c,t,rfl,by simp[qi];simpa using hh,rfl⟩
 ·exfalso
  unfold dec at hh
  have b0:((c::t).getD 0 0).toNat=c.toNat:=rfl
  rw[b0]at hh
  have:=c.toNat_lt
  have b1:=((c::t).getD 1 0).toNat_lt;have b2:=((c::t).getD 2 0).toNat_lt;have b3:=((c::t).getD 3 0).toNat_lt
  generalize ((c::t).getD 1 0).toNat=x1 at *
  generalize ((c::t).getD 2 0).toNat=x2 at *
  generalize ((c::t).getD 3 0).toNat=x3 at *
  generalize c.toNat=x0 at *
  unfold Lib.decodeN at hh
  rw[if_neg hc]at hh
  split at hh
  ·split at hh <;> simp only at hh <;> omega
  ·split at hh
   ·split at hh <;> simp only at hh <;> omega
   ·split at hh
    ·split at hh <;> simp only at hh <;> omega
    ·simp only at hh;omega
theorem zdr(h:R (Ju l)):PC Tp gl 141 [Arg.mk .str (bl l)] [.bool] R:=by
 apply zfv
 refine⟨λp=>p.1=bl l/\p.2<=l.length/\(l.drop p.2).all qi=l.all qi,λp=>l.length-p.2,⟨rfl,by omega,by simp⟩,?_⟩
 rintro⟨_,p⟩ ⟨rfl,hp,h2⟩
 simp only at hp h2 ⊢
 rw[zpo,zpp]
 refine⟨λhc=>⟨hc,λhx=>?_,λhx=>?_⟩,λhc=>?_⟩
 all_goals first
  |have ab:p<l.length:=by simpa using hc
  |have ab:¬p<l.length:=by simpa using hc
 ·have aa:l.drop p≠[]:=λe=>by have:=congrArg Cr e;simp at this;omega
  have hd:¬(48<=(dec (l.drop p)).1/\(dec (l.drop p)).1<=57):=by
   rw[Ca]at hx
   rcases Br _ _ ▸ hx with hx|hx <;> simp at hx <;> omega
  have hf:l.all qi=false:=by
   rw[<-h2]
   obtain⟨c,t,e⟩:=A9 aa
   rw[e]
   cases Z:qi c with
   |false=>simp[Z]
   |true=>
    exfalso;apply hd
    have:c.toNat<128:=by simp[qi]at Z;omega
    rw[e,Q7 this]
    simpa[qi]using Z
  have:Ju l=false:=by simp[Ju,hf]
  rw[this]at h;exact h
 ·have aa:l.drop p≠[]:=λe=>by have:=congrArg Cr e;simp at this;omega
  have hd:48<=(dec (l.drop p)).1/\(dec (l.drop p)).1<=57:=by
   rw[Ca]at hx
   have:=BX.1 hx
   simp at this;omega
  obtain⟨h1,c,t,e,Z,_⟩:=qa1 aa hd
  rw[zh5 l p ab,h1]
  refine⟨⟨trivial,by omega,?_⟩,by omega⟩
  have e2:l.drop (p+1)=t:=by rw[<-Bj,e];rfl
  rw[e2,<-h2,e];simp[Z]
 ·have:l.drop p=[]:=BL (by omega)
  rw[this]at h2
  have e:Ju l=!(decide (l=[])):=by
   rw[Ju,<-h2];cases l <;> simp
  have:=zfx l []
  rw[show(⟨#[]⟩:Bt)=bl []from rfl,this,<-e];exact h
abbrev tN:Ty:=.pair .bool (.pair .str (.int .i64))
theorem zum(h:0<l.length):(((l[0]?.getD 0).toNat:Int) != 48)=(l.head? != some 48):=by
 cases l with
 |nil=>simp at h
 |cons c t=>
  rw[AJ];simp
  constructor
  ·intro h1 h2;exact h1 (by rw[h2];rfl)
  ·intro h1 h2;exact h1 (D7.1 (by(have:c.toNat=48:=by omega);rw[this];rfl))
theorem z5n(h:0<l.length):(((l[l.length-1]?.getD 0).toNat:Int) != 48)=(l.getLast? != some 48):=by
 rw[List.getLast?_eq_getElem?]
 rw[Aq (by omega)]
 rw[AJ];simp
 constructor
 ·intro h1 h2;exact h1 (by rw[h2];rfl)
 ·intro h1 h2;exact h1 (D7.1 (by(have:l[l.length-1].toNat=48:=by omega);rw[this];rfl))
theorem zun(h:Ju l=true):0<l.length:=by
 cases l with
 |nil=>simp[Ju]at h
 |cons=>simp
theorem qa2(h:0<n)(hn:n<=4611686018427387904):Aa .i64 ((n:Int)-1)=((n-1:Nat):Int):=by
 rw[wrap64 (by omega) (by omega)];omega
theorem zmw{n:Nm}(hn:n.2.1.length<=4611686018427387904)(h:R (yy n)):PC Tp gl 78 [Arg.mk tN (nmB n)] [.bool] R:=by
 apply zhx
 simp only[show(⟨#[]⟩:Bt)=bl []from rfl,zfx,ze,yr]
 have e:((n.1==false)&&(decide (n.2.1=[])&&((n.2.2==0)&&true)))=X3 n:=by
  unfold X3
  rcases n with⟨_|_,_|⟨_,_⟩,e⟩ <;> simp
 rw[e]
 refine⟨λh1=>?_,λh1=>?_⟩
 ·have:yy n=true:=by simp[yy,h1]
  rw[this]at h;exact h
 ·unfold yy at h
  rw[h1,Du]at h
  refine zdr ⟨λh2=>⟨λ_=>?_,λh3=>?_⟩,λh2=>⟨λh3=>⟨λ_=>?_,λh4=>?_⟩,λh3=>⟨?_,λh4=>⟨λ_=>?_,λh5=>?_⟩,λh4=>⟨?_,λh5=>?_,λh5=>?_⟩⟩⟩⟩
  ·have:Ju n.2.1=false:=by simpa using h2
   rw[this]at h;simpa using h
  ·rw[h2]at h3;cases h3
  ·have:decide (n.2.1.length<=1000)=false:=by simp at h3 ⊢;omega
   rw[this]at h;simpa using h
  ·rw[h3]at h4;cases h4
  all_goals
   have hd:Ju n.2.1=true:=by simpa using h2
   have hp:=zun hd
   have Z:decide (n.2.1.length<=1000)=true:=by simp at h3 ⊢;omega
   have eh:=zum hp
   have el:=z5n hp
  ·omega
  ·have:(n.2.1.head? != some 48)=false:=by
    rw[<-eh];simp at h4 ⊢;exact h4
   rw[this]at h;simpa using h
  ·rw[h4]at h5;cases h5
  ·rw[qa2 hp hn];omega
  ·have:(n.2.1.getLast? != some 48)=false:=by
    rw[<-el];rw[qa2 hp hn]at h5;simp at h5 ⊢;exact h5
   rw[this]at h;simpa using h
  ·have e1:(n.2.1.head? != some 48)=true:=by
    rw[<-eh];simp at h4 ⊢;exact h4
   have e2:(n.2.1.getLast? != some 48)=true:=by
    rw[<-el];rw[qa2 hp hn]at h5;simp at h5 ⊢;exact h5
   rw[hd,Z,e1,e2]at h
   simp only[BZ]at h
   rw[Bool.cond_false_right]
   exact h
end
end Go.X
end
section
namespace Go.X
open Go Go.Lib
section
variable {n k:Nat} {l s:Bs}
theorem u8n{c:UInt8}(hn:n<256):c=A4 n↔c.toNat=n:=by
 constructor
 ·rintro rfl;simp;omega
 ·intro h;rw[<-h];simp
theorem xq(c:UInt8):∀l:Bs,-1<=indexByte l c/\(0<=indexByte l c↔c∈l)
 |[]=>by simp[indexByte]
 |b::l=>by
  have ih:=xq c l
  unfold indexByte
  by_cases h:b=c
  ·simp[h]
  ·have h':¬c=b:=λe=>h e.symm
   simp only[beq_iff_eq,h,if_false,Af,h',false_or]
   obtain⟨i1,i2⟩:=ih
   split
   ·rename_i e
    rw[e]at i2
    exact⟨by omega,by rw[<-i2]⟩
   ·rename_i e
    refine⟨by omega,?_⟩
    rw[<-i2];omega
theorem Wq(u:Nat):(decDigits u).length<=u+1:=by
 rw[decDigits]
 split
 ·simp
 ·rename_i h
  have:=Wq (u / 10)
  simp;omega
theorem itoa_len(n:Int):(itoa n).length<=n.natAbs+2:=by
 unfold itoa
 split
 ·have:=Wq n.natAbs;simp;omega
 ·have:=Wq n.toNat;omega
theorem zds(l:Bs)(c:UInt8):hasPrefix l [c]=(l.head?==some c):=by
 cases l with
 |nil=>rfl
 |cons b t=>simp[hasPrefix,List.isPrefixOf];rw[AJ];simp;exact eq_comm
theorem zbd(l:Bs)(c:UInt8):trimPrefix l [c]=if l.head?==some c then l.tail else l:=by
 unfold trimPrefix
 rw[zds]
 split <;> simp
theorem zh8(l:Bs)(c:UInt8):zh (l++[c])=10*zh l+(c.toNat-48):=by simp[zh,List.foldl_append]
theorem zh9(hk:k<l.length):zh (l.take (k+1))=10*zh (l.take k)+(l[k].toNat-48):=by
 rw[Av hk,zh8]
theorem zuo{p:UInt8->Bool}(h:l.all p=true)(k:Nat):(l.take k).all p=true:=by
 rw[AD]at h ⊢
 exact λx hx=>h x (List.mem_of_mem_take hx)
theorem z8k(h:l.all qi=true)(hk:k<l.length):48<=l[k].toNat/\l[k].toNat<=57:=by
 have:=AD.1 h _ (AN hk)
 simpa[qi]using this
theorem zpq:∀(n:Nat) (l:Bs),l.length=n->l.all qi=true->zh l<10 ^ n
 |0,l,h,_=>by
  have:l=[]:=AO h
  subst this;simp[zh]
 |n+1,l,h,hd=>by
  have hl:l=l.take (n+1):=by rw[<-h,AW]
  rw[hl,zh9 (by omega)]
  have h1:=zpq n (l.take n) (by simp;omega) (zuo hd n)
  have h2:=z8k hd (k:=n) (by omega)
  rw[DU];omega
theorem X4(hn:l.length<=n)(h:l.all qi=true):zh l<10 ^ n:=
 C7 (zpq _ l rfl h) (Nat.pow_le_pow_right (by omega) hn)
theorem Yv(h:Ju l=true):l.all qi=true:=by
 unfold Ju at h;exact(Bool.and_eq_true_iff.1 h).1
theorem Wr{p q:UInt8->Bool}(h:l.all p=true):(l.dropWhile q).all p=true:=by
 rw[AD]at h ⊢
 exact λx hx=>h x ((List.dropWhile_sublist q).mem hx)
theorem xr(l:Bs)(q:UInt8->Bool):(l.dropWhile q).length<=l.length:=(List.dropWhile_sublist q).length_le
theorem zbe{q:UInt8->Bool}:∀c,(l.dropWhile q).head?=some c->q c=false:=by
 induction l with
 |nil=>simp
 |cons b t ih=>
  intro c h
  rw[List.dropWhile_cons]at h
  split at h
  ·exact ih c h
  ·rename_i hq;simp at h;subst h;exact Bool.eq_false_iff.2 hq
theorem zdt(h:l.all qi=true)(Z:l.dropWhile (· == 48)≠[]):Ju (yz l)=true/\(yz l).length<=(l.dropWhile (· == 48)).length/\((yz l).head? != some 48)=true/\((yz l).getLast? != some 48)=true:=by
 unfold yz
 obtain⟨c,t,hd⟩:=A9 Z
 have hc:(c==48)=false:=by
  have:=zbe (l:=l) (q:=(· == 48)) c (by rw[hd];rfl)
  simpa using this
 have key:∀(t:Bs),∃u,((c::t).reverse.dropWhile (· == 48)).reverse=c::u:=by
  intro t
  rw[List.reverse_cons]
  have hx:∀(r:Bs),∃u,(r++[c]).dropWhile (· == 48)=u++[c]:=by
   intro r
   induction r with
   |nil=>exact⟨[],by simp[hc]⟩
   |cons b r ih=>
    rw[AE,List.dropWhile_cons]
    split
    ·exact ih
    ·exact⟨b::r,rfl⟩
  obtain⟨u,e⟩:=hx t.reverse
  exact⟨u.reverse,by rw[e];simp⟩
 rw[hd]
 obtain⟨u,e⟩:=key t
 refine⟨?_,?_,?_,?_⟩
 ·rw[Ju,Bool.and_eq_true_iff]
  refine⟨?_,by rw[e];rfl⟩
  rw[List.all_reverse]
  apply Wr
  rw[List.all_reverse,<-hd]
  exact Wr h
 ·rw[List.length_reverse]
  refine CV (xr _ _) ?_
  simp
 ·rw[e];simp;simpa using hc
 ·rw[List.getLast?_reverse]
  cases hh:((c::t).reverse.dropWhile (· == 48)).head? with
  |none=>rfl
  |some x=>
   have:=zbe (l:=(c::t).reverse) (q:=(· == 48)) x hh
   simpa using this
theorem zk5(h:l.all qi=true)(Z:l.dropWhile (· == 48)≠[])(hl:l.length<=1000)(neg:Bool)(e:Int):yy (neg,yz l,e)=(decide (-1000000<=e)&&decide (e<=1000000)):=by
 obtain⟨h1,h2,h3,h4⟩:=zdt h Z
 have h5:=xr l (· == 48)
 have hp:(yz l).isEmpty=false:=by
  rw[Ju]at h1
  have:=(Bool.and_eq_true_iff.1 h1).2
  simpa using this
 unfold yy X3
 simp only[h1,h3,h4,hp,Bool.and_false,DG,Du,BZ]
 have:decide ((yz l).length<=1000)=true:=by simp;omega
 rw[this];simp
theorem zia{x:Lit}(h:W6 s=some x):Ju x.whole=true/\x.rest.all qi=true/\x.exp.all qi=true:=by
 obtain⟨Z,rfl⟩:=zb6 h
 unfold zdq at Z
 simp only[As]at Z
 obtain⟨⟨⟨h1,h2⟩,h3⟩,h4⟩:=Z
 refine⟨h2,?_,?_⟩
 ·show(Za s).2.1.all qi=true
  cases hp:(Za s).2.2 with
  |true=>rw[hp]at h3;exact Yv (by simpa using h3)
  |false=>rw[show(Za s).2.1=[]from(Jj hp).2];rfl
 ·show(if(Zr s).2.2 then zi9 s else []).all qi=true
  cases hm:(Zr s).2.2 with
  |true=>rw[hm]at h1;simpa using Yv (by simpa using h1)
  |false=>rfl
theorem ze1(p:UInt8->Bool)(l:Bs):(cutAt p l).1.length+(cutAt p l).2.1.length<=l.length:=by
 induction l with
 |nil=>simp[cutAt]
 |cons c t ih=>unfold cutAt;split <;> simp <;> omega
theorem zk6{x:Lit}(h:W6 s=some x):x.whole.length+x.rest.length+x.exp.length<=s.length:=by
 obtain⟨Z,rfl⟩:=zb6 h
 have h1:(zn2 s).length<=s.length:=by unfold zn2;split <;> simp
 have h2:=ze1 isE (zn2 s)
 have h3:=ze1 zh7 (Zr s).1
 have h4:(zi9 s).length<=(Zr s).2.1.length:=by
  unfold zi9
  split
  ·simp
  ·split <;> simp
 have h5:(if(Zr s).2.2 then zi9 s else []).length<=(Zr s).2.1.length:=by
  split
  ·exact h4
  ·simp
 show(Za s).1.length+(Za s).2.1.length+(if(Zr s).2.2 then zi9 s else []).length<=s.length
 unfold Za
 unfold Zr at *
 omega
end
end Go.X
end
