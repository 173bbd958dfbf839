/- A part of the proof: nothing is stated here for its own sake. -/
import Derived.Test.YtbploiccompocaaGreatDoorPlB
import Derived.ProofKit
import Derived.OpenShut
import Derived.ShutString
import Derived.SizedLaws
import Derived.LaidSub
import Derived.Lib.LaidU8
import Derived.Test.YtbploiccompocaaGreatDoorProg
import Derived.Shelf.Strings.Trim
import Derived.Shelf.Small.Wraps
import Derived.Shelf.Utf8.RuneCount
import Derived.Shelf.Strconv.Itoa3
import Derived.Shelf.Strconv.AtoiErr
import Derived.Shelf.Strconv.ErrVarAll
import Derived.Shelf.Strconv.ErrVarParseInt
import Derived.Shelf.Strings.Shaped
import Derived.Shelf.Strings.SplitShaped
import Derived.Shelf.Strings.IndexAnyAll
import Derived.Shelf.Strings.Explode
import Derived.Shelf.Strings.Repeat
import Derived.Shelf.Unicode.DecodeLast
import Derived.Shelf.Strings.BuilderCap
import Derived.Shelf.Slices.Turned
import Derived.Shelf.Slices.Clone
import Derived.Shelf.Slices.Cells
import Derived.Shelf.Slices.Empties
import Derived.Shelf.SlicesE.Clone
open _root_.Go.Addr renaming add->Af
open _root_.Array renaming getD_eq_getD_getElem?->Bo,getElem?_append_left->Cs,getElem?_eq_getElem->AP,getElem?_eq_some_iff->Ac,getElem?_push->BG,getElem?_toList->AN,range->Ev,replicate->Bn,toList->CH,toList_map->C7
open _root_.BitVec renaming ofInt->As
open _root_.Bool renaming cond_false_right->Ba,eq_iff_iff->AB,false_eq_true->A9,or_eq_true->Cw,true_and->Bf
open _root_.Go.Builtin renaming append_->Au
open _root_.ByteArray renaming empty->D3
open _root_.Go.Code renaming cond->Ej,region->C4
open _root_.Go.Instr renaming fill->Ez
open _root_.Int renaming toNat_natCast->Ad
open _root_.Go.IntKind renaming bits->Ar,i64->Cp,signed->DO,wrap->Aa
open _root_.List renaming all_eq_true->AU,append_assoc->AY,append_nil->Bc,cons_append->Be,drop_drop->BS,drop_eq_getElem_cons->AC,drop_eq_nil_of_le->A6,drop_zero->AQ,eq_nil_of_length_eq_zero->Az,ext_getElem?->Bb,getD_eq_getElem?_getD->Ct,getElem?_drop->AH,getElem?_eq_getElem->Aj,getElem?_eq_none->Bu,getElem?_eq_some_iff->Ax,getElem?_map->B5,getElem?_take->AF,getElem_mem->Ao,length->Bm,length_append->Av,length_cons->AR,length_drop->Bg,length_eq_zero_iff->B6,length_erase_of_mem->CF,length_map->Dw,length_nil->CR,length_pos_iff->BB,length_range->DG,mapM_cons->Ec,mem_append->Am,mem_append_left->Ap,mem_append_right->Ay,mem_cons->Ag,mem_cons_of_mem->Ah,mem_cons_self->Aq,mem_map->BR,mem_range->BO,mem_singleton->Cn,nodup_range->Dh,pairwise_cons->BD,range->AZ,take_append_drop->Bp,take_length->AE,take_of_length_le->AM,take_succ_cons->B4
open _root_.List.cons renaming injEq->Br
open _root_.Nat renaming add_zero->CX,blt_eq->Cq,eq_of_beq_eq_true->Ak,le_mul_of_pos_right->Dj,le_of_ble_eq_true->BE,le_refl->Ae,lt_or_ge->AX,mul_one->Cf,zero_add->AD,zero_le->BP,zero_mul->Da
open _root_.Go.Next renaming value->DL
open _root_.Go.Op renaming bytesLess->CZ
open _root_.Option renaming bind_some->BW
open _root_.Option.some renaming inj->Aw,injEq->Ab
open _root_.Pure renaming pure->Dg
open _root_.Go.Proofs.Tryz renaming func191->Eg,func221->Ep,func222->Eh,func236->Er,func237->Ef,isAgg0->Db,isAgg176->C6,isAgg21->DX,isAgg3->Cx,isAgg4->CN,isAgg5->C5,isAgg9->Cy,prog->AK,sizeOf0->C3,sizeOf176->CO,sizeOf21->Dz,sizeOf3->Cj,sizeOf4->Cu,sizeOf5->CJ,sizeOf9->Ck,underlying0->Cc,underlying129->Dt,underlying176->B7,underlying21->CP,underlying3->BH,underlying4->BI,underlying5->BZ,underlying9->Bw,zeroValue0->Ci,zeroValue176->Cg,zeroValue21->C8,zeroValue3->BM,zeroValue4->BU,zeroValue5->Cb,zeroValue9->BN
open _root_.Go.Value.slice renaming injEq->AJ
open _root_.Go.Value renaming string->A5
set_option linter.unusedVariables false
set_option maxRecDepth 100000
namespace Go.X
end Go.X
namespace Go.Proofs
end Go.Proofs
open Go Go.X Go.Proofs
section
namespace Go.X
section
variable {P:Program} {t tr:TypeId} {n d m i id:Nat} {cs R C:CS} {γ:Gh} {h:zb} {o:Oper} {gl:Fr} {c:qf} {ops:Array Oper} {pu ord:List Nat} {listed pl:Array Bool} {a:Act}
variable {h0 : zb} {W : Nat -> Prop} {M0 : Fr}
structure It where
 k:Nat
 dst:Option Nat
 ch:qf
 av:AV
 nb:Option (Nat×Ch)
def itE:List It->yl
 |[]=>[]
 |i::l=>match i.dst with
  |some s=>(s,i.ch,i.av)::itE l
  |none=>itE l
def itC:List It->CS
 |[]=>[]
 |i::l=>match i.nb with
  |some b=>b::itC l
  |none=>itC l
theorem Xh{x:Nat×qf×AV}:∀{l:List It},x∈itE l↔∃i∈l,i.dst=some x.1/\i.ch=x.2.1/\i.av=x.2.2
 |[]=>by simp[itE]
 |i::l=>by
  simp only[itE]
  split
  ·rename_i s hs
   rw[Ag,Xh (l:=l)]
   constructor
   ·rintro(rfl|⟨j,hj,h⟩)
    ·exact⟨i,Aq,hs,rfl,rfl⟩
    ·exact⟨j,Ah _ hj,h⟩
   ·rintro⟨j,hj,h1,h2,h3⟩
    rcases Ag.1 hj with rfl|hj
    ·left;rw[hs]at h1;cases h1;rw[h2,h3]
    ·exact .inr ⟨j,hj,h1,h2,h3⟩
  ·rename_i hs
   rw[Xh (l:=l)]
   constructor
   ·rintro⟨j,hj,h⟩;exact⟨j,Ah _ hj,h⟩
   ·rintro⟨j,hj,h1,h2,h3⟩
    rcases Ag.1 hj with rfl|hj
    ·rw[hs]at h1;cases h1
    ·exact⟨j,hj,h1,h2,h3⟩
def Xi(S:List Nat):yl->yl
 |[]=>[]
 |(i,c,v)::e=>bif memN S i then(i,c,v)::Xi S e else Xi S e
theorem Jq{S:List Nat}{x:Nat×qf×AV}:∀{e:yl},x∈Xi S e->x∈e/\x.1∈S
 |[],h=>by cases h
 |(i,c,v)::e,h=>by
  simp only[Xi]at h
  cases hm:memN S i with
  |true=>
   rw[hm]at h
   rcases Ag.1 h with rfl|h
   ·exact⟨Aq,zo0 hm⟩
   ·exact⟨Ah _ (Jq h).1,(Jq h).2⟩
  |false=>rw[hm]at h;exact⟨Ah _ (Jq h).1,(Jq h).2⟩
def qbn(P:Program)(tr:TypeId)(t:TypeId)(n:Nat)(ps:List (Nat×AV))(cs:CS)(K:AV->Prop):Prop:=
 match z4z P t with
 |some el=>match z8m P tr 8 el,zhw P el (n*je P el)with
  |some ty,some zs=>bif Nat.beq (je P el) (sz ty)then(bif Nat.ble (n*je P el) 16777216 then(bif Nat.blt 0 (je P el)then(match zqt (λi=>some (i*je P el,je P el)) (zs.map .v) ps with
   |some r=>match X9 cs ty n r with
    |some (ys,[])=>K (.g (.a (.dc ty ys)))
    |_=>False
   |none=>False)else False)else False)else False
  |_,_=>False
 |none=>False
theorem zjr{t el:TypeId}(hu:P.underlying t=some (.slice el))(aa:ji P el=true)(af:n*je P el<=16777216){zs:List Value}(O:zhw P el (n*je P el)=some zs){ps:Array (Nat×Value)}{c1:List Value}
  (e6:Ez (λi=>some (i*je P el,je P el)) zs.toArray ps.toList=some c1.toArray) (B:World) (e:Nat) (h:zb):
  (Instr.buildSlice t n ps).run P (mk B e h)=.ok (.slice (some ⟨h.size,0,none⟩) n n) (mk B e (h.push (.cells c1.toArray el))):=by
 have hq:=QExec.underlying (h:=h) hu B e
 have hs:=QExec.sizeOf (P:=P) (h:=h) (j5 aa).choose_spec B e
 unfold Instr.buildSlice
 rw[Sem.run_bind,hq]
 simp only[Result.andThen_ok]
 rw[Sem.run_bind,hs]
 simp only[Result.andThen_ok]
 rw[if_neg (by omega)]
 unfold zhw at O
 by_cases Z:n*je P el=0
 ·rw[if_pos Z]
  rw[Z]at O ⊢
  simp at O
  subst O
  simp only[Sem.run_bind,Sem.run_pure,Result.andThen_ok]
  have e7:Array.map (λx=>(#[]:Array Value)[x % (#[]:Array Value).size]!) (Ev 0)=([]:List Value).toArray:=by simp
  rw[e7,e6]
  rfl
 ·rw[if_neg Z]
  have hb:Nat.beq (n*je P el) 0=false:=by
   cases hh:Nat.beq (n*je P el) 0 with
   |false=>rfl
   |true=>exact absurd (Ak hh) Z
  rw[hb]at O
  simp only[cond_false]at O
  split at O
  ·rename_i z ae
   have ac:=Jp ae h B e
   simp only[Ab]at O
   rw[Sem.run_bind,ac]
   simp only[Result.andThen_ok,Sem.run_bind,Sem.run_pure]
   have e7:Array.map (λx=>z.cells[x % z.cells.size]!) (Ev (n*je P el))=zs.toArray:=by
    rw[<-O]
   rw[e7,e6]
   rfl
  ·cases O
theorem Inv.newFrozen(I:Inv h0 W M0 cs γ h)(O:Array Value)(el:TypeId):Inv h0 W M0 cs (zfq γ h.size O) (h.push (.cells O el))/\Gx none γ (zfq γ h.size O)/\(zfq γ h.size O).M h.size=some O:=by
 have aa:γ.M h.size=none:=I.ag.none (Ae _)
 have hM:Fr.le γ.M (zfq γ h.size O).M:=by
  intro b cc eM
  have:Nat.beq b h.size=false:=by
   cases hb:Nat.beq b h.size with
   |false=>rfl
   |true=>rw[Ak hb,aa]at eM;cases eM
  simp[zfq,this,eM]
 have Z:AgM (zfq γ h.size O).M (h.push (.cells O el)):=by
  intro b cc eM
  by_cases hb:b=h.size
  ·subst hb
   have:cc=O:=by simp[zfq]at eM;exact eM.symm
   subst this
   exact⟨_,_,wu _ _⟩
  ·have:Nat.beq b h.size=false:=by
    cases hb':Nat.beq b h.size with
    |false=>rfl
    |true=>exact absurd (Ak hb') hb
   simp only[zfq,this,cond_false]at eM
   obtain⟨T',m,e'⟩:=I.ag b cc eM
   exact⟨T',m,by rw[BG,if_neg hb];exact e'⟩
 refine⟨I.call (Keep.push h _ (Ae _)) hM (λb hb=>?_) Z,⟨hM,λ_ _=>⟨rfl,rfl⟩⟩,by simp[zfq]⟩
 have:Nat.beq b h.size=false:=by
  cases hb':Nat.beq b h.size with
  |false=>rfl
  |true=>have:=Ak hb';omega
 simp[this]
def zh3(h0:zb)(W:Nat->Prop)(M0:Fr)(P:Program)(o:Oper)(a:Act)(γ:Gh)(h:zb)(cs:CS)(nb:Option (Nat×Ch))(Ka:AV->Prop):Prop:=
 ExA P (execOp a.eval o) h λv h'=>∃av γ',Ka av/\DenV γ' av v/\Inv h0 W M0 (nb.toList++cs) γ' h'/\Gx (nb.map (·.1)) γ γ'
theorem z5l{parts:Array (Nat×Operand)}(ho:o.op=.buildSlice t n parts){ps:List (Nat×AV)}{ρ:Operand->Option AV}(ak:zc2 ρ parts.toList=some ps){K:AV->Prop}(H:qbn P tr t n ps cs K):
  ∃av,K av/\∀(γ:Gh) (h:zb) (a:Act) (Y:CS),Inv h0 W M0 (Y++cs) γ h->(∀x av,ρ x=some av->DenV γ av (a.eval x))->zh3 h0 W M0 P o a γ h (Y++cs) none (· = av):=by
 unfold qbn at H
 split at H
 ·rename_i el aj
  obtain⟨hu,ac⟩:=Jn aj
  split at H
  ·rename_i ty zs am ai
   cases hz:Nat.beq (je P el) (sz ty)with
   |false=>rw[hz]at H;exact H.elim
   |true=>
   rw[hz]at H
   cases hb1:Nat.ble (n*je P el) 16777216 with
   |false=>rw[hb1]at H;exact H.elim
   |true=>
   rw[hb1]at H
   cases hb2:Nat.blt 0 (je P el)with
   |false=>rw[hb2]at H;exact H.elim
   |true=>
   rw[hb2]at H
   simp only[cond_true]at H
   split at H
   ·rename_i r hr
    split at H
    ·rename_i ys af
     refine⟨_,H,λγ h a Y I hρ=>?_⟩
     have I1:Inv h0 W M0 cs γ h:=I.sub (by simp)
     obtain⟨ws,e1,e2⟩:=Wc hr (Qc γ zs) (X6 hρ ak)
     obtain⟨c1,c2,rfl,r3,r4,r5⟩:=zbj I1.fz af e2
     cases c2 with
     |cons _ _=>exact r5.elim
     |nil=>
     rw[Bc]at *
     have Z:=Ak hz
     have aa:0<je P el:=by simpa[Cq]using hb2
     have ae:n*je P el<=16777216:=BE hb1
     have hn:n<=n*je P el:=Dj _ aa
     have al:c1.length=n*je P el:=by rw[r3.1,r4,Z]
     obtain⟨I2,g2,ah⟩:=I.newFrozen c1.toArray el
     intro B e
     refine .inl ⟨.slice (some ⟨h.size,0,none⟩) n n,e,_,?_,_,_,rfl,?_,I2,g2⟩
     ·have e5:(parts.map λx=>(x.1,a.eval x.2)).toList=parts.toList.map λx=>(x.1,a.eval x.2):=by rw[C7]
      simp only[execOp,ho]
      refine Jd ?_
      exact zjr hu ac ae ai (by
       show Ez _ _ (parts.map λx=>(x.1,a.eval x.2)).toList=_
       rw[e5];exact e1) B e h
     ·have O:=(r3.mono g2.1).rd (b:=h.size) (o:=0) (c:=n) (cs:=c1.toArray) ah (by rw[AQ,AM (by rw[r4,<-Z];simp;omega)]) ⟨by omega,by omega⟩
      rw[r4]at O
      exact⟨⟨some ⟨h.size,0,none⟩,n,n⟩,rfl,rfl,O⟩
    ·exact H.elim
   ·exact H.elim
  ·exact H.elim
 ·exact H.elim
def qbo:AV->Bool
 |.g (.a (.dc _ _))=>true
 |_=>false
theorem z5m{tr t tx:TypeId}{bv sv:AV}{c:Call}(ho:o.op=.call c)(hc:c.callee=.builtin .append){s x:Operand}(ah:c.args.toList=[s,x])(an:c.argTypes.toList=[t,tx]){K:AV->Prop}(ak:qbo bv=true)
  (H:zes P tr t tx bv sv 0 [] cs (λav _ _=>K av)) {ρ:Operand->Option AV} (hs:ρ s=some bv) (hx:ρ x=some sv):
  ∀(γ:Gh) (h:zb) (a:Act) (Y:CS),Inv h0 W M0 (Y++cs) γ h->(∀x av,ρ x=some av->DenV γ av (a.eval x))->zh3 h0 W M0 P o a γ h (Y++cs) none K:=by
 intro γ h a Y I hρ
 have aG:=hρ _ _ hs
 have aC:=hρ _ _ hx
 have I1:Inv h0 W M0 ([]++cs) γ h:=I.sub (by simp)
 have key:∀{K':Value->zb->Prop},XRun P (Au #[t,tx] o.type #[a.eval s,a.eval x]) h K'->ExA P (execOp a.eval o) h K':=by
  intro K' aD B e
  obtain⟨v,d',h',r,hp⟩:=aD B e
  refine .inl ⟨v,d',h',?_,hp⟩
  have ee:execOp a.eval o=(Au c.argTypes o.type (c.args.map a.eval) >>= λx=>(Dg (DL x):Sem Next)):=by
   simp only[execOp,ho,resolve,hc]
   rfl
  rw[ee,toList_eq ah,toList_eq an]
  refine Jd ?_
  simpa using r
 refine key ?_
 clear key
 unfold zes at H
 split at H
 ·rename_i el aB
  obtain⟨hu,aH⟩:=Jn aB
  split at H
  ·rename_i ty aJ
   split at H
   ·rename_i b ys hb az
    obtain⟨⟨z,T⟩,au⟩:=zkw hu hb
    obtain⟨news,ae,af⟩:=zsr I1 az T.pos aC
    split at H
    ·cases ak
    ·cases ak
    ·rename_i t' aI
     split at H
     ·rename_i xs ai
      obtain⟨aj,hK⟩:=H
      have am:=zc7 au aj
      obtain⟨e1,e2⟩:=Yg ai
      subst e1
      simp only at e2
      subst e2
      generalize a.eval s=u at *
      generalize a.eval x=v at *
      obtain⟨s2,e,aM,ap⟩:=(show ∃s:Sl,u=slV s/\s.cap=s.len/\Rd γ.M (.row t') xs [u]from aG)
      subst e
      obtain⟨s3,e,O,aL,cells,Z,al⟩:=ap.rowC I.ag
      have e':s2=s3:=by cases s2;cases s3;simp only[slV,AJ]at e;simp[e]
      subst e'
      have ac:cells.length=s2.len*sz t':=by rw[O];exact Z.1
      intro B dr
      by_cases hm:ys.length=0
      ·have ax:ys=[]:=Az hm
       subst ax
       have ay:news=[]:=Az (by rw[ae.1];simp)
       subst ay
       have hr:=x8 (P:=P) (ty:=o.type) T (s:=s2) (h':=h) (af B dr) (by simp;omega) (λp hp=>by simp[storeCells]) (λ_=>rfl)
       refine⟨_,dr,h,hr,_,γ,hK,?_,I,Gx.refl _ _⟩
       rw[Bc]
       exact ap
      ·obtain⟨cp,aa,hr,aF,aO,aN,aE⟩:=Yf (P:=P) (ty:=o.type) (base:=0) T ac (λB d=>Zr al ac T.pos B d) af (by rw[O];exact aj) (by rw[O];exact am) (BP _) (by omega) B dr
       obtain⟨I2,g2,aA⟩:=I.newFrozen aa el
       refine⟨_,dr+1,_,hr,_,_,hK,?_,I2,g2⟩
       have ar:=((Z.append ae).mono g2.1).rd (b:=h.size) (o:=0) (c:=cp) (cs:=aa) aA (by rw[AQ,Av,<-O];exact aE) (by rw[Av,<-O];exact⟨by rw[O];exact am,aF⟩)
       rw[Av,<-O]at ar
       exact ar
     ·exact H.elim
    ·exact H.elim
   ·exact H.elim
  ·exact H.elim
 ·exact H.elim
def z5n(P:Program)(gl:Fr)(tr:TypeId)(o:Oper)(ρ:Operand->Option AV)(cs:CS)(K:AV->Prop):Prop:=
 match o.op with
 |.call c=>match c.callee with
  |.value x=>match z9h x with
   |some f=>bif ya P f then(match z5e P tr f,zqv ρ c.args.toList with
    |some (ts,rt),some vs=>match wa cs ts vs with
     |some args=>PC P gl f args rt λr=>K (z8l rt r)
     |none=>False
    |_,_=>False)else False
   |none=>False
  |_=>False
 |_=>False
theorem z1i(Z:Fr.le gl M0){ρ:Operand->Option AV}{K:AV->Prop}(H:z5n P gl tr o ρ cs K):
  ∀(γ:Gh) (h:zb) (a:Act) (Y:CS),Inv h0 W M0 (Y++cs) γ h->(∀x av,ρ x=some av->DenV γ av (a.eval x))->zh3 h0 W M0 P o a γ h (Y++cs) none K:=by
 intro γ h a Y I hρ
 unfold z5n at H
 split at H
 ·rename_i c ho
  split at H
  ·rename_i x hx
   split at H
   ·rename_i f hf
    cases hcal:ya P f with
    |false=>rw[hcal]at H;exact H.elim
    |true=>
     rw[hcal]at H
     simp only[cond_true]at H
     split at H
     ·rename_i ts rt vs hs aa
      split at H
      ·rename_i args O
       intro B d
       have e:=zl9 hf
       subst e
       have I1:Inv h0 W M0 cs γ h:=I.sub (by simp)
       have ha:=xn I1.fz O (Xg hρ aa)
       refine .inr (.inr ⟨f,c.args.map a.eval,zc4 ho hx hcal rfl _,?_⟩)
       have e2:c.args.map a.eval=(c.args.toList.map a.eval).toArray:=by rw[<-C7]
       rw[e2]
       refine(zma Z H I ha).mono ?_
       rintro v h' ⟨r,γ',h1,h2,h3,h4,_⟩
       exact⟨_,γ',h1,h2,h3,h4⟩
      ·exact H.elim
     ·exact H.elim
   ·exact H.elim
  ·exact H.elim
 ·exact H.elim
theorem zu2(Z:Fr.le gl M0){ρ:Operand->Option AV}{b:Bool}{K:AV->Prop}(H:zus P gl tr o ρ b cs K)(hb:b=true):
  ∀(γ:Gh) (h:zb) (a:Act) (Y:CS),Inv h0 W M0 (Y++cs) γ h->(∀x av,ρ x=some av->DenV γ av (a.eval x))->zh3 h0 W M0 P o a γ h (Y++cs) none K:=by
 intro γ h a Y I hρ
 unfold zus at H
 split at H
 ·rename_i c ho
  split at H
  ·rename_i x hx
   split at H
   ·rename_i f hf
    cases hcal:ya P f with
    |false=>rw[hcal]at H;exact H.elim
    |true=>
     rw[hcal]at H
     simp only[cond_true]at H
     split at H
     ·rename_i ts rt vs hs aa
      split at H
      ·rename_i args O
       obtain⟨J,h1,h2⟩:=H
       intro B d
       have e:=zl9 hf
       subst e
       have I1:Inv h0 W M0 cs γ h:=I.sub (by simp)
       have ha:=xn I1.fz O (Xg hρ aa)
       refine .inr (.inr ⟨f,c.args.map a.eval,zc4 ho hx hcal rfl _,?_⟩)
       have e2:c.args.map a.eval=(c.args.toList.map a.eval).toArray:=by rw[<-C7]
       rw[e2]
       refine(zma Z (h1 hb) I ha).mono ?_
       rintro v h' ⟨r,γ',g1,g2,g3,g4,_⟩
       exact⟨_,γ',h2 r (λ_=>g1),g2,g3,g4⟩
      ·exact H.elim
     ·exact H.elim
   ·exact H.elim
  ·exact H.elim
 ·exact H.elim
theorem zxh(ho:o.op=.alloc t){z:Value}(hz:zeroOf P t=some z)(Z:itB (z.cells.toList.map .v)=false):
  ∀(γ:Gh) (h:zb) (a:Act) (Y:CS),Inv h0 W M0 (Y++cs) γ h->wo d (Y++cs)=true->zh3 h0 W M0 P o a γ h (Y++cs) (some (d,.box (z.cells.toList.map .v))) (· = .g (.a (.box d 0))):=by
 intro γ h a Y I hR B e
 refine .inl ⟨.pointer (some ⟨h.size,0,none⟩),e,h.push (.cells z.cells t),?_,_,zv1 γ d h.size,rfl,?_,?_,Xb _ _ _⟩
 ·have O:=Jp hz h B e
  simp only[execOp,ho]
  refine Jd ?_
  unfold Instr.alloc
  rw[Sem.run_bind,O]
  simp only[Result.andThen_ok]
  rw[Sem.run_bind,X7]
  rfl
 ·simp only[DenV,DenG,DenA,Qa]
 ·have:=Inv.newBox (C:=[]) (R:=Y++cs) (by simpa using I) (c:=d) hR (Qc γ z.cells.toList) (zer d _) Z t
  simpa[jc]using this
theorem z5o{x:Operand}(ho:o.op=.box t x){l:List AA}(hm:zn2 d l=false)(O:itB l=false):
  ∀(γ:Gh) (h:zb) (a:Act) (Y:CS),Inv h0 W M0 (Y++cs) γ h->wo d (Y++cs)=true->All2 (DenA γ) l (a.eval x).cells.toList->zh3 h0 W M0 P o a γ h (Y++cs) (some (d,.box l)) (· = .g (.a (.box d 0))):=by
 intro γ h a Y I hR hl B e
 refine .inl ⟨.pointer (some ⟨h.size,0,none⟩),e,h.push (.cells (a.eval x).cells t),?_,_,zv1 γ d h.size,rfl,?_,?_,Xb _ _ _⟩
 ·simp only[execOp,ho]
  refine Jd ?_
  unfold Instr.box
  rw[Sem.run_bind,X7]
  rfl
 ·simp only[DenV,DenG,DenA,Qa]
 ·have:=Inv.newBox (C:=[]) (R:=Y++cs) (by simpa using I) (c:=d) hR hl hm O t
  simpa[jc]using this
def jb(o:Oper):Bool:=match o.op with
 |.call c=>match c.callee with
  |.builtin .append=>true
  |.builtin _=>false
  |_=>true
 |_=>false
def zda:List AA->Bool
 |[]=>true
 |.v _::l=>zda l
 |.d _ _::l=>zda l
 |.elt _ _ _::l=>zda l
 |.dc _ _::l=>zda l
 |_::_=>false
theorem Q8{c:Nat}:∀{l:List AA},zda l=true->zn2 c l=false
 |[],_=>rfl
 |.v _::l,h=>by simp only[zn2,zuk,cond_false];exact Q8 (l:=l) h
 |.d _ _::l,h=>by simp only[zn2,zuk,cond_false];exact Q8 (l:=l) h
 |.elt _ _ _::l,h=>by simp only[zn2,zuk,cond_false];exact Q8 (l:=l) h
 |.dc _ _::l,h=>by simp only[zn2,zuk,cond_false];exact Q8 (l:=l) h
 |.box _ _::_,h=>by cases h
 |.own _::_,h=>by cases h
 |.oelt _ _ _ _::_,h=>by cases h
theorem zfs:∀l:List Value,zda (l.map .v)=true
 |[]=>rfl
 |_::l=>zfs l
def zxi(P:Program)(gl:Fr)(tr:TypeId)(o:Oper)(e:yl)(ch:qf)(cs:CS)(K:AV->Option (Nat×Ch)->Prop):Prop:=
 match o.op with
 |.alloc t=>match ch,o.dst,zeroOf P t with
  |[],some d,some z=>bif wo d cs then(bif itB (z.cells.toList.map .v)then False else K (.g (.a (.box d 0))) (some (d,.box (z.cells.toList.map .v))))else False
  |_,_,_=>False
 |.box t x=>match ch,o.dst,zho e [] x with
  |[],some d,some av=>match zuq av with
   |some l=>bif wo d cs then(bif zda l then(bif itB l then False else K (.g (.a (.box d 0))) (some (d,.box l)))else False)else False
   |none=>False
  |_,_,_=>False
 |.buildSlice t n parts=>match ch,zc2 (zho e []) parts.toList with
  |[],some ps=>qbn P tr t n ps cs λav=>K av none
  |_,_=>False
 |.call c=>match c.callee with
  |.builtin .append=>match ch,c.args.toList,c.argTypes.toList with
   |[],[s,x],[t,tx]=>match zho e [] s,zho e [] x with
    |some bv,some sv=>bif qbo bv then zes P tr t tx bv sv 0 [] cs (λav _ _=>K av none)else False
    |_,_=>False
   |_,_,_=>False
  |.builtin _=>z1h P gl o e ch cs λav=>K av none
  |_=>match ch with
   |[]=>z5n P gl tr o (zho e []) cs λav=>K av none
   |_=>match Wb e ch with
    |some (some b)=>zus P gl tr o (zho e ch) b cs λav=>K av none
    |_=>False
 |_=>z1h P gl o e ch cs λav=>K av none
structure Spec (h0:zb) (W:Nat->Prop) (M0:Fr) (P:Program) (o:Oper) (e:yl) (ch:qf) (cs:CS) (nb:Option (Nat×Ch)) (Kan:AV->Prop):Prop where
 yes:∀(n:Nat) (γ:Gh) (h:zb) (a:Act) (Y:CS),SatA n e γ a->Inv h0 W M0 (Y++cs) γ h->(∀b,nb=some b->wo b.1 (Y++cs)=true)->valid (zx a) ch->zh3 h0 W M0 P o a γ h (Y++cs) nb Kan
 no:∀(n:Nat) (γ:Gh) (a:Act),SatA n e γ a->¬valid (zx a) ch->nb=none/\∃av,Kan av
 box:∀b,nb=some b->wo b.1 cs=true/\o.dst=some b.1/\(∃l,b.2=.box l/\zda l=true)/\Kan=(· = .g (.a (.box b.1 0)))
theorem Spec.ofQ(O:Fr.le gl M0){e:yl}{ch:qf}{K:AV->Option (Nat×Ch)->Prop}(H:z1h P gl o e ch cs λav=>K av none):∃nb Kan,Spec h0 W M0 P o e ch cs nb Kan/\(∀av,Kan av->K av nb)/\∃av,Kan=(· = av):=by
 obtain⟨av,h1,h2⟩:=zk1 (h0:=h0) (W:=W) (M0:=M0) O H
 refine⟨none,(· = av),⟨λn γ h a Y hs I _ hv=>?_,λn γ a hs hv=>⟨rfl,av,rfl⟩,λb hb=>by cases hb⟩,λZ e=>e ▸ h1,av,rfl⟩
 obtain⟨v,hd,hq⟩:=h2 n γ a h hs (I.sub (by simp)) hv
 exact λB d=>.inl ⟨v,d,h,hq B d,av,γ,rfl,hd,I,Gx.refl _ _⟩
theorem zqz(Z:Fr.le gl M0){e:yl}{ch:qf}{K:AV->Option (Nat×Ch)->Prop}(H:zxi P gl tr o e ch cs K):
  ∃nb Kan,Spec h0 W M0 P o e ch cs nb Kan/\(∀av,Kan av->K av nb)/\(jb o=false->∃av,Kan=(· = av)):=by
 unfold zxi at H
 split at H
 ·rename_i t ho
  split at H
  ·rename_i d z hd hz
   cases hR:wo d cs with
   |false=>rw[hR]at H;exact H.elim
   |true=>
    rw[hR]at H
    cases hit:itB (z.cells.toList.map .v)with
    |true=>rw[hit]at H;exact H.elim
    |false=>
    rw[hit]at H
    refine⟨_,(· = .g (.a (.box d 0))),⟨λn γ h a Y hs I hn _=>zxh ho hz hit γ h a Y I (hn _ rfl),λn γ a hs hv=>absurd trivial hv,λb hb=>?_⟩,λav e=>e ▸ H,λ_=>⟨_,rfl⟩⟩
    cases hb
    exact⟨hR,hd,⟨_,rfl,zfs _⟩,rfl⟩
  ·exact H.elim
 ·rename_i t x ho
  split at H
  ·rename_i d av hd ae
   split at H
   ·rename_i l hl
    cases hR:wo d cs with
    |false=>rw[hR]at H;exact H.elim
    |true=>
     rw[hR]at H
     cases hm:zda l with
     |false=>rw[hm]at H;exact H.elim
     |true=>
      rw[hm]at H
      cases hit:itB l with
      |true=>rw[hit]at H;exact H.elim
      |false=>
      rw[hit]at H
      refine⟨_,(· = .g (.a (.box d 0))),⟨λn γ h a Y hs I hn _=>z5o ho (Q8 hm) hit γ h a Y I (hn _ rfl) (zc0 hl (qe hs (c:=[]) trivial ae)),λn γ a hs hv=>absurd trivial hv,λb hb=>?_⟩,λav e=>e ▸ H,λ_=>⟨_,rfl⟩⟩
      cases hb
      exact⟨hR,hd,⟨_,rfl,hm⟩,rfl⟩
   ·exact H.elim
  ·exact H.elim
 ·rename_i t n parts ho
  split at H
  ·rename_i ps ai
   obtain⟨av,h1,h2⟩:=z5l (h0:=h0) (W:=W) (M0:=M0) ho ai H
   exact⟨none,(· = av),⟨λn γ h a Y hs I _ _=>h2 γ h a Y I λx av hx=>qe hs (c:=[]) trivial hx,λn γ a hs hv=>absurd trivial hv,λb hb=>by cases hb⟩,λal e=>e ▸ h1,λ_=>⟨_,rfl⟩⟩
  ·exact H.elim
 ·rename_i c ho
  split at H
  ·rename_i hc
   have O:jb o=true:=by simp[jb,ho,hc]
   split at H
   ·rename_i s x t tx aa ac
    split at H
    ·rename_i bv sv ah af
     cases hdc:qbo bv with
     |false=>rw[hdc]at H;exact H.elim
     |true=>
      rw[hdc]at H
      simp only[cond_true]at H
      exact⟨none,λav=>K av none,⟨λn γ h a Y hs I _ _=>z5m ho hc aa ac hdc H ah af γ h a Y I λx av hx=>qe hs (c:=[]) trivial hx,λn γ a hs hv=>absurd trivial hv,λb hb=>by cases hb⟩,λav e=>e,λhn=>by rw[O]at hn;cases hn⟩
    ·exact H.elim
   ·exact H.elim
  ·obtain⟨nb,Kan,h1,h2,h3⟩:=Spec.ofQ (h0:=h0) (W:=W) (M0:=M0) Z H
   exact⟨nb,Kan,h1,h2,λ_=>h3⟩
  ·rename_i aj ak
   have O:jb o=true:=by
    simp only[jb,ho]
   split at H
   ·exact⟨none,λav=>K av none,⟨λn γ h a Y hs I _ _=>z1i Z H γ h a Y I λx av hx=>qe hs (c:=[]) trivial hx,λn γ a hs hv=>absurd trivial hv,λb hb=>by cases hb⟩,λav e=>e,λhn=>by rw[O]at hn;cases hn⟩
   ·split at H
    ·rename_i b hb
     refine⟨none,λav=>K av none,⟨λn γ h a Y hs I _ hv=>zu2 Z H (Zh hs hb hv) γ h a Y I λx av hx=>qe hs hv hx,λn γ a hs hv=>⟨rfl,?_⟩,λb hb=>by cases hb⟩,λav e=>e,λhn=>by rw[O]at hn;cases hn⟩
     have:=zbd hs hb hv
     simp only[Ab]at this
     exact(zbg (h0:=#[]) (W:=λ_=>False) (M0:=λ_=>none) H).1 this
    ·exact H.elim
 ·obtain⟨nb,Kan,h1,h2,h3⟩:=Spec.ofQ (h0:=h0) (W:=W) (M0:=M0) Z H
  exact⟨nb,Kan,h1,h2,λ_=>h3⟩
def y9(ops:Array Oper)(m:Nat):List Nat:=jj (ops.toList.take m)
def Y2(av:AV):List Nat->Bool
 |[]=>true
 |s::l=>bif z0n s av then false else Y2 av l
theorem zk2{av:AV}:∀{l:List Nat},Y2 av l=true->∀s∈l,z0n s av=false
 |[],_,s,hs=>by cases hs
 |x::l,h,s,hs=>by
  simp only[Y2]at h
  cases hb:z0n x av with
  |true=>rw[hb]at h;cases h
  |false=>
   rw[hb]at h
   rcases Ag.1 hs with rfl|hs
   ·exact hb
   ·exact zk2 h s hs
def zf5(S:List Nat):yl->yl
 |[]=>[]
 |(i,[],v)::e=>bif memN S i then zf5 S e else(bif Y2 v S then(i,[],v)::zf5 S e else zf5 S e)
 |(_,_::_,_)::e=>zf5 S e
theorem xo{S:List Nat}{x:Nat×qf×AV}:∀{e:yl},x∈zf5 S e->x∈e/\x.2.1=[]/\x.1∉S/\Y2 x.2.2 S=true
 |[],h=>by cases h
 |(i,[],v)::e,h=>by
  simp only[zf5]at h
  cases hm:memN S i with
  |true=>rw[hm]at h;exact⟨Ah _ (xo h).1,(xo h).2⟩
  |false=>
   rw[hm]at h
   simp only[cond_false]at h
   cases hn:Y2 v S with
   |false=>rw[hn]at h;exact⟨Ah _ (xo h).1,(xo h).2⟩
   |true=>
    rw[hn]at h
    rcases Ag.1 h with rfl|h
    ·exact⟨Aq,rfl,Zc hm,hn⟩
    ·exact⟨Ah _ (xo h).1,(xo h).2⟩
 |(_,_::_,_)::e,h=>⟨Ah _ (xo (e:=e) h).1,(xo (e:=e) h).2⟩
def qbp(ops:Array Oper)(o:Oper):qf->Bool
 |[]=>true
 |[(g,_)]=>match o.guard with
  |some (j,_)=>match jd ops j with
   |some g'=>Nat.beq g g'
   |none=>false
  |none=>false
 |_=>false
def z3w:List Nat->Nat->Bool
 |[x],k=>Nat.beq x k
 |_,_=>false
def inL:List Nat->Nat->Bool
 |[],_=>false
 |x::l,k=>bif Nat.beq x k then true else inL l k
theorem zxj{k:Nat}:∀{l:List Nat},inL l k=true->k∈l
 |[],h=>by cases h
 |x::l,h=>by
  simp only[inL]at h
  cases hb:Nat.beq x k with
  |true=>rw[Ak hb];exact Aq
  |false=>rw[hb]at h;exact Ah _ (zxj h)
def zh4(ops:Array Oper)(m:Nat)(o:Oper)(k:Nat)(pl:Array Bool):Bool:=
 bif Nat.blt k m then(bif xm ops k (Qo ops o) m then(bif jb o then z3w (Region.ready .any ops pl) k else inL (Region.ready .any ops pl) k)else false)else false
def zsx(S:List Nat)(av:AV)(nb:Option (Nat×Ch)):Bool:=match nb with
 |none=>Y2 av S
 |some _=>true
def zu3(pl:Array Bool):Nat->Bool
 |0=>true
 |k+1=>bif pl.getD k false then zu3 pl k else false
theorem zk3{pl:Array Bool}:∀{m:Nat},zu3 pl m=true->∀k,k<m->pl.getD k false=true
 |0,_,k,hk=>by omega
 |m+1,h,k,hk=>by
  simp only[zu3]at h
  cases hb:pl.getD m false with
  |false=>rw[hb]at h;cases h
  |true=>
   rw[hb]at h
   rcases AX k m with h1|h1
   ·exact zk3 h k h1
   ·have:k=m:=by omega
    subst this;exact hb
def zsy(P:Program)(ρ:Operand->Option AV)(o:Oper):Bool:=bif zf3 o then(bif isQ P o then(bif xf o.op then zhq ρ o.op.operands.toList else false)else false)else false
def zet(P:Program)(e:yl)(c:qf)(o:Oper):Bool:=match o.op with
 |.pick _ _ _=>true
 |.move _=>true
 |.assign _=>true
 |.extract _ _=>true
 |.alloc _=>false
 |.box _ _=>false
 |.buildSlice _ _ _=>false
 |.call _=>false
 |.load _ _=>false
 |.indexAddr _ _ _=>false
 |_=>zsy P (zho e c) o
theorem zo2{e:yl}(h:zet P e c o=true):jb o=false:=by
 unfold jb
 split
 ·rename_i c ho;rw[zet,ho]at h;cases h
 ·rfl
def zdb(P:Program)(o:Oper)(e:yl)(ch:qf)(Kan:AV->Prop):Prop:=
 ∀av,Kan av->∀(n:Nat) (γ:Gh) (a:Act),SatA n e γ a->valid (zx a) ch->∃v,DenV γ av v/\∀w,(execOp a.eval o).run P w=.ok (.value v) w
theorem QExec.all{α:Type}{s:Sem α}{x:α}(H:∀h,QExec P s h x)(w:World):s.run P w=.ok x w:=H w.heap w w.drawn
theorem zxk{e:yl}{K:AV->Prop}(H:z1h P gl o e c cs K)(hp:zet P e c o=true):∃av,K av/\zdb P o e c (· = av):=by
 unfold z1h at H
 split at H
 ·rename_i x y z ho
  obtain⟨av,h1,h2⟩:=Wd H
  refine⟨av,h1,λO e' n γ a hs hv=>?_⟩
  obtain⟨t,h3,h4⟩:=h2 n γ a hs hv
  subst e'
  refine⟨_,h4,QExec.all λh B d=>?_⟩
  simp only[execOp,ho,h3,asBool,Sem.run_bind,Sem.run_pure,Result.andThen_ok]
 ·rename_i ae
  split at H
  ·rename_i g hg
   unfold qA at H
   split at H
   ·rename_i b hb
    exact⟨_,H,λO e' n γ a hs hv=>⟨_,e' ▸ (show DenV γ (.g (.a (.v (.bool b)))) _ from rfl),QExec.all λh=>zot hb (λx av hx=>qe hs hv hx) h⟩⟩
   split at H
   ·rename_i b hb
    exact⟨_,H,λO e' n γ a hs hv=>⟨_,e' ▸ (show DenV γ (.g (.a (.v (.bool b)))) _ from rfl),QExec.all λh=>zkt hb (λx av hx=>qe hs hv hx) h⟩⟩
   split at H
   ·rename_i t b off aa
    exfalso
    unfold z5b at aa
    split at aa
    ·rename_i t' x ho;rw[zet,ho]at hp;cases hp
    ·cases aa
   split at H
   ·rename_i b off n len z aa
    exfalso
    unfold z5c at aa
    split at aa
    ·rename_i t' x i ho;rw[zet,ho]at hp;cases hp
    ·cases aa
   unfold qA0 at H
   cases hb:zsy P (zho e c) o with
   |true=>
    unfold zsy at hb
    rw[hb]at H
    cases hfam:zf3 o with
    |false=>rw[hfam]at hb;cases hb
    |true=>
     cases hq:isQ P o with
     |false=>rw[hfam,hq]at hb;cases hb
     |true=>
      cases hns:xf o.op with
      |false=>rw[hfam,hq,hns]at hb;cases hb
      |true=>
       rw[hfam,hq,hns]at hb
       simp only[cond_true]at hb H
       obtain⟨v,h1,h2⟩:=Xy hfam H
       refine⟨_,h1,λO e' n γ a hs hv=>⟨v,e' ▸ Jm γ v,QExec.all λh=>?_⟩⟩
       rw[zoj (γ:=γ) (λx av hx=>qe hs hv hx) hns hb]
       exact h2 (Zh hs hg hv) h ⟨by simp,λi hi=>absurd hi (by simp)⟩
   |false=>
    have ac:=hb
    unfold zsy at ac
    rw[ac]at H
    simp only[cond_false]at H
    unfold zet at hp
    split at hp
    ·rename_i x y z ho;exact absurd ho (ae x y z)
    ·rename_i x ho
     rw[ho]at H
     simp only at H
     split at H
     ·rename_i av Z
      exact⟨av,H,λO e' n γ a hs hv=>⟨_,e' ▸ qe hs hv Z,QExec.all λh=>by simp only[execOp,ho];exact QExec.pure _⟩⟩
     ·exact H.elim
    ·rename_i x ho
     rw[ho]at H
     simp only at H
     split at H
     ·rename_i av Z
      exact⟨av,H,λO e' n γ a hs hv=>⟨_,e' ▸ qe hs hv Z,QExec.all λh=>by simp only[execOp,ho];exact QExec.pure _⟩⟩
     ·exact H.elim
    ·rename_i x i ho
     rw[ho]at H
     simp only at H
     split at H
     ·rename_i l Z
      split at H
      ·rename_i ag af
       refine⟨_,H,λO e' n γ a hs hv=>?_⟩
       subst e'
       obtain⟨us,e1,h2⟩:=qe hs hv Z
       obtain⟨u,hu,hd⟩:=h2.get af
       refine⟨u,hd,QExec.all λh=>?_⟩
       simp only[execOp,ho,e1]
       refine QExec.val λB d=>?_
       unfold Instr.extract
       simp[hu]
      ·exact H.elim
     ·rename_i b p c Z
      split at H
      ·refine⟨_,H,λO e' n γ a hs hv=>⟨_,e' ▸ (show DenV γ (.g (.a (.v (.bool b)))) _ from rfl),QExec.all λh=>?_⟩⟩
       obtain⟨e1,e2⟩:=qe hs hv Z
       simp only[execOp,ho]
       refine QExec.val λB d=>?_
       cases b with
       |true=>rw[e1 rfl];rfl
       |false=>rw[e2 rfl];rfl
      ·refine⟨_,H.2,λO e' n γ a hs hv=>⟨_,e' ▸ (show DenV γ (.g (.a (.v (.int .i64 p)))) _ from rfl),QExec.all λh=>?_⟩⟩
       obtain⟨e1,_⟩:=qe hs hv Z
       simp only[execOp,ho,e1 (H.1.out (Zh hs hg hv))]
       exact QExec.val λB d=>rfl
      ·refine⟨_,H.2,λO e' n γ a hs hv=>⟨_,e' ▸ (show DenV γ (.g (.a (.v (.int .i32 c)))) _ from rfl),QExec.all λh=>?_⟩⟩
       obtain⟨e1,_⟩:=qe hs hv Z
       simp only[execOp,ho,e1 (H.1.out (Zh hs hg hv))]
       exact QExec.val λB d=>rfl
      ·exact H.elim
     ·exact H.elim
    ·cases hp
    ·cases hp
    ·cases hp
    ·cases hp
    ·cases hp
    ·cases hp
    ·rw[hb]at hp;cases hp
  ·exact H.elim
theorem zu4{e:yl}{ch:qf}{K:AV->Option (Nat×Ch)->Prop}(H:zxi P gl tr o e ch cs K)(hp:zet P e ch o=true):
  ∃av,Spec h0 W M0 P o e ch cs none (· = av)/\K av none/\zdb P o e ch (· = av):=by
 have H':z1h P gl o e ch cs λav=>K av none:=by
  unfold zxi at H
  split at H
  ·rename_i t ho;rw[zet,ho]at hp;cases hp
  ·rename_i t x ho;rw[zet,ho]at hp;cases hp
  ·rename_i t n ps ho;rw[zet,ho]at hp;cases hp
  ·rename_i c ho;rw[zet,ho]at hp;cases hp
  ·exact H
 obtain⟨av,h1,h2⟩:=zxk H' hp
 refine⟨av,⟨λn γ h a Y hs I _ hv=>?_,λn γ a hs hv=>⟨rfl,av,rfl⟩,λb hb=>by cases hb⟩,h1,h2⟩
 obtain⟨v,hd,hq⟩:=h2 av rfl n γ a hs hv
 exact λB d=>.inl ⟨v,d,h,hq _,av,γ,rfl,hd,I,Gx.refl _ _⟩
def zxl(ops:Array Oper)(k:Nat)(o:Oper)(j:Nat):Bool:=bif Nat.beq j k then true else bif Region.waitsFor .any ops j k then true else bif Region.waitsFor .any ops k j then true else match ops[j]? with
 |some oj=>o.apart ops oj
 |none=>true
def zq0(ops:Array Oper)(k:Nat)(o:Oper):Nat->Bool
 |0=>true
 |j+1=>bif zxl ops k o j then zq0 ops k o j else false
theorem zk4{ops:Array Oper}{k:Nat}{o:Oper}:∀{n:Nat},zq0 ops k o n=true->∀j oj,j<n->ops[j]?=some oj->j≠k->Region.waitsFor .any ops j k=false->Region.waitsFor .any ops k j=false->o.apart ops oj=true
 |0,_,j,oj,hj,_,_,_,_=>by omega
 |n+1,h,j,oj,hj,ho,h1,h2,h3=>by
  simp only[zq0]at h
  cases hx:zxl ops k o n with
  |false=>rw[hx]at h;cases h
  |true=>
   rw[hx]at h
   rcases AX j n with O|O
   ·exact zk4 h j oj O ho h1 h2 h3
   ·have:j=n:=by omega
    subst this
    have e1:Nat.beq j k=false:=by
     cases hb:Nat.beq j k with
     |false=>rfl
     |true=>exact absurd (Ak hb) h1
    unfold zxl at hx
    rw[e1,h2,h3,ho]at hx
    exact hx
def zxm(P:Program)(ops:Array Oper)(pu:List Nat)(o:Oper)(k:Nat)(e:yl)(ch:qf):Bool:=
 bif memN pu k then(bif zet P e ch o then zq0 ops k o ops.size else false)else true
def dW(P:Program)(gl:Fr)(tr:TypeId)(n:Nat)(ops:Array Oper)(m:Nat)(pu:List Nat)(e0:yl)(cs:CS)(Kt:List It->Prop):List Nat->Array Bool->List It->Prop
 |[],pl,IL=>bif zu3 pl m then Kt IL else False
 |k::ord,pl,IL=>match ops[k]? with
  |none=>False
  |some o=>bif zh4 ops m o k pl then(match Y1 ops (Xi (Qo ops o) (itE IL++e0)) o.guard with
   |some ch=>bif qbp ops o ch then(bif yu n ch o.dst then(bif zxm P ops pu o k (Xi (Qo ops o) (itE IL++e0)) ch then zxi P gl tr o (Xi (Qo ops o) (itE IL++e0)) ch cs (λav nb=>bif zsx (y9 ops m) av nb then dW P gl tr n ops m pu e0 cs Kt ord (pl.setIfInBounds k true) (⟨k,o.dst,ch,av,nb⟩::IL)else False)else False)else False)else False
   |none=>False)else False
def Jr(listed:Array Bool):List It->List It
 |[]=>[]
 |i::l=>bif listed.getD i.k false then i::Jr listed l else Jr listed l
theorem zaa{listed:Array Bool}{i:It}:∀{l:List It},i∈Jr listed l↔i∈l/\listed.getD i.k false=true
 |[]=>by simp[Jr]
 |j::l=>by
  simp only[Jr]
  cases h:listed.getD j.k false with
  |true=>
   simp only[cond_true,Ag,zaa (l:=l)]
   constructor
   ·rintro(rfl|⟨h1,h2⟩)
    ·exact⟨.inl rfl,h⟩
    ·exact⟨.inr h1,h2⟩
   ·rintro⟨rfl|h1,h2⟩
    ·exact .inl rfl
    ·exact .inr ⟨h1,h2⟩
  |false=>
   simp only[cond_false,Ag,zaa (l:=l)]
   constructor
   ·rintro⟨h1,h2⟩;exact⟨.inr h1,h2⟩
   ·rintro⟨rfl|h1,h2⟩
    ·rw[h]at h2;cases h2
    ·exact⟨h1,h2⟩
structure ItOK (h0:zb) (W:Nat->Prop) (M0:Fr) (P:Program) (n:Nat) (ops:Array Oper) (m:Nat) (pu:List Nat) (e0:yl) (cs:CS) (IL:List It) (it:It) (Kan:AV->Prop):Prop where
 lt:it.k<m
 dst:jd ops it.k=it.dst
 ok:yu n it.ch it.dst=true
 chw:∀x∈it.ch,∀p,p<m->jd ops p=some x.1->Region.waitsFor .any ops it.k p=true
 ex:∃o e,ops[it.k]?=some o/\Y1 ops e o.guard=some it.ch/\Spec h0 W M0 P o e it.ch cs it.nb Kan /\
  (∀x∈e,x∈e0\/(x∈itE IL/\∀p,p<m->jd ops p=some x.1->Region.waitsFor .any ops it.k p=true)) /\
  (memN pu it.k=true->it.nb=none/\zdb P o e it.ch Kan/\zq0 ops it.k o ops.size=true/\jb o=false)
 men:∀av,Kan av->it.nb=none->Y2 av (y9 ops m)=true
theorem ItOK.mono{e0:yl}{IL O:List It}{it:It}{Kan:AV->Prop}(H:ItOK h0 W M0 P n ops m pu e0 cs IL it Kan)(hs:∀i∈IL,i∈O):ItOK h0 W M0 P n ops m pu e0 cs O it Kan:=
 {lt:=H.lt,dst:=H.dst,ok:=H.ok,chw:=H.chw,men:=H.men,ex:=by
   obtain⟨o,e,h1,h2,h3,h4,Z⟩:=H.ex
   refine⟨o,e,h1,h2,h3,λx hx=>(h4 x hx).imp id λ⟨h5,h6⟩=>⟨?_,h6⟩,Z⟩
   obtain⟨i,hi,q⟩:=Xh.1 h5
   exact Xh.2 ⟨i,hs i hi,q⟩ }
theorem Y3{i p:Nat}(hi:i∈Region.ready .any ops listed)(hw:Region.waitsFor .any ops i p=true):listed.getD p false=true:=by
 obtain⟨oj,Z,e,he,hb,aa⟩:=Region.waitsFor_spec hw
 obtain⟨_,o,ho,O⟩:=mem_ready.1 hi
 have:oj=o:=Aw (Z.symm.trans ho)
 subst this
 rw[<-aa];exact O e he hb
structure Mid (h0:zb) (W:Nat->Prop) (M0:Fr) (P:Program) (n:Nat) (ops:Array Oper) (m:Nat) (e0:yl) (cs:CS) (listed:Array Bool) (IL:List It) (γ:Gh) (a:Act) (h:zb):Prop where
 sat:SatA n (itE (Jr listed IL)++e0) γ a
 inv:Inv h0 W M0 (itC (Jr listed IL)++cs) γ h
theorem zdc{k:Nat}(h:ops[k]?=some o):jd ops k=o.dst:=by simp[jd,h]
theorem zeu{m k t:Nat}(hk:k<m)(h:jd ops k=some t):t∈y9 ops m:=by
 unfold jd at h
 split at h
 ·rename_i o ho
  unfold y9
  have O:o∈ops.toList.take m:=by
   rw[List.mem_iff_getElem?]
   exact⟨k,by rw[AF,if_pos hk];simpa using ho⟩
  generalize ops.toList.take m=l at O
  induction l with
  |nil=>cases O
  |cons x l ih=>
   simp only[jj]
   rcases Ag.1 O with rfl|O
   ·rw[h];exact Aq
   ·split
    ·exact Ah _ (ih O)
    ·exact ih O
 ·cases h
theorem zq1{x:Nat×Ch}:∀{l:List It},x∈itC l↔∃i∈l,i.nb=some x
 |[]=>by simp[itC]
 |i::l=>by
  simp only[itC]
  split
  ·rename_i b hb
   rw[Ag,zq1 (l:=l)]
   constructor
   ·rintro(rfl|⟨j,hj,h⟩)
    ·exact⟨i,Aq,hb⟩
    ·exact⟨j,Ah _ hj,h⟩
   ·rintro⟨j,hj,h⟩
    rcases Ag.1 hj with rfl|hj
    ·left;rw[hb]at h;exact(Aw h).symm
    ·exact .inr ⟨j,hj,h⟩
  ·rename_i hb
   rw[zq1 (l:=l)]
   constructor
   ·rintro⟨j,hj,h⟩;exact⟨j,Ah _ hj,h⟩
   ·rintro⟨j,hj,h⟩
    rcases Ag.1 hj with rfl|hj
    ·rw[hb]at h;cases h
    ·exact⟨j,hj,h⟩
theorem zsz{c:Nat}:∀{l:CS},(∀x∈l,x.1≠c/\zhn c x.2=false)->wo c l=true
 |[],_=>rfl
 |(j,k)::l,h=>by
  obtain⟨h1,h2⟩:=h _ Aq
  simp only[wo]
  have:Nat.beq j c=false:=by
   cases hb:Nat.beq j c with
   |false=>rfl
   |true=>exact absurd (Ak hb) h1
  rw[this,h2]
  exact zsz λx hx=>h x (Ah _ hx)
theorem zk5{e0:yl}(ai:wy ops m=true)(aG:∀x∈e0,x.2.1=[]/\x.1∉y9 ops m/\Y2 x.2.2 (y9 ops m)=true)
  {IL:List It} (ap:∀i∈IL,∃Kan,ItOK h0 W M0 P n ops m pu e0 cs IL i Kan/\Kan i.av) (aD:HeadInv .any ops m listed) (M:Mid h0 W M0 P n ops m e0 cs listed IL γ a h)
  {it:It} {Kan:AV->Prop} (T:ItOK h0 W M0 P n ops m pu e0 cs IL it Kan) (hr:it.k∈Region.ready .any ops listed):
  ∃o e,ops[it.k]?=some o/\o.dst=it.dst/\SatA n e γ a/\Y1 ops e o.guard=some it.ch/\Spec h0 W M0 P o e it.ch cs it.nb Kan/\(memN pu it.k=true->it.nb=none/\zdb P o e it.ch Kan/\zq0 ops it.k o ops.size=true/\jb o=false) /\
   (∀b,it.nb=some b->wo b.1 (itC (Jr listed IL)++cs)=true) /\
   ∀av u γ' h',Kan av->(valid (zx a) it.ch->DenV γ' av u)->(¬valid (zx a) it.ch->u=undef)->Inv h0 W M0 (it.nb.toList++(itC (Jr listed IL)++cs)) γ' h'->Gx (it.nb.map (·.1)) γ γ' ->
    ∀L':List It,L'.Perm ({ it with av:=av }::Jr listed IL)->SatA n (itE L'++e0) γ' (a.put it.dst u)/\Inv h0 W M0 (itC L'++cs) γ' h':=by
 obtain⟨o,e,ho,aA,sp,ax,aB⟩:=T.ex
 have ac:o.dst=it.dst:=by rw[<-zdc ho];exact T.dst
 have az:listed.getD it.k true=false:=(mem_ready.1 hr).1
 have af:SatA n e γ a:=M.sat.sub λx hx=>by
  rcases ax x hx with h1|⟨h1,h2⟩
  ·exact Ay _ h1
  ·refine Ap _ ?_
   obtain⟨i,hi,q⟩:=Xh.1 h1
   obtain⟨Ki,Ti,_⟩:=ap i hi
   have hw:=h2 i.k Ti.lt (by rw[Ti.dst];exact q.1)
   exact Xh.2 ⟨i,zaa.2 ⟨hi,Y3 hr hw⟩,q⟩
 have hw:=Zq af aA
 have Z:∀i∈Jr listed IL,i.k≠it.k:=by
  intro i hi e
  have:=(zaa.1 hi).2
  rw[e]at this
  have h2:=getD_both az
  rw[h2]at this
  cases this
 have au:∀b,it.nb=some b->wo b.1 (itC (Jr listed IL)++cs)=true:=by
  intro b hb
  obtain⟨h1,h2,_⟩:=sp.box b hb
  refine zsz λx hx=>?_
  rcases Am.1 hx with hx|hx
  ·obtain⟨i,hi,O⟩:=zq1.1 hx
   obtain⟨Ki,Ti,ak⟩:=ap i (zaa.1 hi).1
   obtain⟨oi,ei,am,_,al,_,_⟩:=Ti.ex
   obtain⟨_,h4,⟨l,h5,h6⟩,_⟩:=al.box x O
   refine⟨λe=>Z i hi ?_,by rw[h5];exact Q8 h6⟩
   refine ym ai i.k it.k b.1 Ti.lt T.lt ?_ (by rw[T.dst,<-ac];exact h2)
   rw[zdc am,h4,e]
  ·obtain⟨e1,e2⟩:=zcx h1 x hx
   exact⟨λe=>e1 (by rw[e]),e2⟩
 refine⟨o,e,ho,ac,af,aA,sp,aB,au,?_⟩
 ·intro av u γ' h' aQ hy hn I' g L' hp
  refine⟨?_,?_⟩
  ·refine⟨by rw[qh];exact M.sat.defers,by rw[size_put];exact M.sat.size,λx hx=>?_⟩
   have old:∀x:Nat×qf×AV,x∈itE (Jr listed IL)++e0->(∀s,it.dst=some s->x.1≠s/\mentions x.2.1 s=false)->z0o z0n (it.nb.map (·.1)) x.2.2=false->zl7 γ' (zx (a.put it.dst u)) x:=by
    intro x hx hs hm
    have hf:=M.sat.all x hx
    cases hd:it.dst with
    |none=>
     exact⟨λhv=>(hf.1 hv).gx g hm,hf.2⟩
    |some s=>
     obtain⟨h1,h2⟩:=hs s hd
     have hv:=Zz (σ:=zx (a.put (some s) u)) (τ:=zx a) h2 (λj hj=>qt hj)
     refine⟨λhc=>?_,λhc=>?_⟩
     ·rw[qt h1];exact(hf.1 (hv.1 hc)).gx g hm
     ·exact(qt h1).trans (hf.2 λaj=>hc (hv.2 aj))
   have ay:∀s,it.dst=some s->s∈y9 ops m:=λs hs=>zeu T.lt (by rw[T.dst];exact hs)
   have ae:∀ah,(Y2 ah (y9 ops m)=true)->z0o z0n (it.nb.map (·.1)) ah=false:=by
    intro ah h1
    cases O:it.nb with
    |none=>rfl
    |some b=>
     obtain⟨_,h2,_⟩:=sp.box b O
     exact zk2 h1 b.1 (ay _ (by rw[<-ac];exact h2))
   rcases Am.1 hx with hx|hx
   ·obtain⟨i,hi,q1,q2,q3⟩:=Xh.1 hx
    rcases Ag.1 (hp.subset hi)with rfl|aa
    ·-- the new fact
     simp only at q1 q2 q3
     have ar:x.1<a.tmps.size:=by
      rw[M.sat.size]
      have:=T.ok
      rw[q1]at this
      simp only[yu]at this
      cases hm:mentions it.ch x.1 with
      |true=>rw[hm]at this;cases this
      |false=>rw[hm]at this;simpa[Cq]using this
     have aC:mentions it.ch x.1=false:=by
      have:=T.ok
      rw[q1]at this
      simp only[yu]at this
      cases hm:mentions it.ch x.1 with
      |true=>rw[hm]at this;cases this
      |false=>rfl
     rw[q1]
     have hv:=Zz (σ:=zx (a.put (some x.1) u)) (τ:=zx a) aC (λj hj=>qt hj)
     refine⟨λhc=>?_,λhc=>?_⟩
     ·rw[yg ar,<-q3];rw[<-q2]at hc;exact hy (hv.1 hc)
     ·rw[yg ar];rw[<-q2]at hc;exact hn λaj=>hc (hv.2 aj)
    ·obtain⟨aP,aI⟩:=zaa.1 aa
     obtain⟨Ki,Ti,ak⟩:=ap i aP
     obtain⟨oi,ei,am,_,al,_,_⟩:=Ti.ex
     refine old x (Ap _ (Xh.2 ⟨i,aa,q1,q2,q3⟩)) (λs hs=>⟨λe=>Z i aa ?_,?_⟩) ?_
     ·exact ym ai i.k it.k s Ti.lt T.lt (by rw[Ti.dst,q1,e]) (by rw[T.dst];exact hs)
     ·cases hm:mentions x.2.1 s with
      |false=>rfl
      |true=>
       exfalso
       rw[<-q2]at hm
       have:∃y∈i.ch,y.1=s:=by
        have key:∀c:qf,mentions c s=true->∃y∈c,y.1=s:=by
         intro c
         induction c with
         |nil=>intro h;cases h
         |cons y c ih=>
          intro h
          obtain⟨g,p⟩:=y
          simp only[mentions]at h
          cases hb:Nat.beq s g with
          |true=>exact⟨(g,p),Aq,(Ak hb).symm⟩
          |false=>
           rw[hb]at h
           obtain⟨y,hy,e⟩:=ih h
           exact⟨y,Ah _ hy,e⟩
        exact key _ hm
       obtain⟨y,aF,aJ⟩:=this
       have aN:=Ti.chw y aF it.k T.lt (by rw[T.dst,hs,aJ])
       obtain⟨oj,aL,e',aO,aM,aH⟩:=Region.waitsFor_spec aN
       have:=aD.closed i.k oj aL aI e' aO aM
       rw[aH,getD_both az]at this
       cases this
     ·rw[<-q3]
      cases hnbi:i.nb with
      |none=>exact ae _ (Ti.men _ ak hnbi)
      |some bi=>
       obtain⟨_,h4,_,h5⟩:=al.box bi hnbi
       have aE:i.av=.g (.a (.box bi.1 0)):=by
        have:=ak;rw[h5]at this;exact this
       rw[aE]
       cases O:it.nb with
       |none=>rfl
       |some b=>
        obtain⟨_,h2,_⟩:=sp.box b O
        show Nat.beq bi.1 b.1=false
        cases hb:Nat.beq bi.1 b.1 with
        |false=>rfl
        |true=>
         exfalso
         have:=Ak hb
         exact Z i aa (ym ai i.k it.k b.1 Ti.lt T.lt (by rw[zdc am,h4,this]) (by rw[T.dst,<-ac];exact h2))
   ·obtain⟨b1,b2,b3⟩:=aG x hx
    exact old x (Ay _ hx) (λs hs=>⟨λe=>b2 (e ▸ ay s hs),by rw[b1];rfl⟩) (ae _ b3)
  ·have e1:itC ({ it with av:=av }::Jr listed IL)=it.nb.toList++itC (Jr listed IL):=by
    simp only[itC]
    cases it.nb <;> rfl
   rw[<-AY,<-e1]at I'
   have an:∀{l l':List It},l.Perm l'->(itC l).Perm (itC l'):=by
    intro l l' hp
    induction hp with
    |nil=>exact .nil
    |cons x p ih=>simp only[itC];split;exact ih.cons _;exact ih
    |swap x y l=>
     simp only[itC]
     split <;> split <;> first|exact .swap _ _ _|exact .refl _
    |trans _ _ i1 i2=>exact i1.trans i2
   exact I'.perm ((an hp.symm).append_right cs)
theorem zo3{e0:yl}{Q:Exit->Act->World->Prop}(aj:wy ops m=true)(al:∀x∈e0,x.2.1=[]/\x.1∉y9 ops m/\Y2 x.2.2 (y9 ops m)=true)
  {IL:List It} (am:∀i∈IL,∃Kan,ItOK h0 W M0 P n ops m pu e0 cs IL i Kan/\Kan i.av) (ai:HeadInv .any ops m listed) (M:Mid h0 W M0 P n ops m e0 cs listed IL γ a h)
  {it:It} {Kan:AV->Prop} (T:ItOK h0 W M0 P n ops m pu e0 cs IL it Kan) (hr:it.k∈Region.ready .any ops listed) {Kp:Act->World->Prop} (B:World) (d:Nat)
  (hK:∀av u γ' h' d',Kan av->(∀L':List It,L'.Perm ({ it with av:=av }::Jr listed IL)->SatA n (itE L'++e0) γ' (a.put it.dst u)/\Inv h0 W M0 (itC L'++cs) γ' h')->Gx (it.nb.map (·.1)) γ γ'->Kp (a.put it.dst u) (mk B d' h')):
  wpOp P ops Q it.k Kp a (mk B d h):=by
 obtain⟨o,e,ho,ah,O,ak,sp,an,ae,ac⟩:=zk5 aj al am ai M T hr
 have hw:=Zq O ak
 unfold wpOp
 rw[ho]
 simp only
 by_cases hv:valid (zx a) it.ch
 ·rw[if_pos (hw.2 hv)]
  left
  have hx:=sp.yes n γ h a (itC (Jr listed IL)) O M.inv ae hv
  refine(ExA.upon hx B d ?_)
  rintro v d' h' ⟨av,γ',g1,g2,g3,g4⟩
  rw[ah]
  exact hK av v γ' h' d' g1 (ac av v γ' h' g1 (λ_=>g2) (λaa=>absurd hv aa) g3 g4) g4
 ·rw[if_neg λhx=>hv (hw.1 hx)]
  obtain⟨af,av,Z⟩:=sp.no n γ a O hv
  rw[ah]
  have g4:Gx (it.nb.map (·.1)) γ γ:=by rw[af];exact Gx.refl _ _
  exact hK av undef γ h d Z (ac av undef γ h Z (λaa=>absurd aa hv) (λ_=>rfl) (by rw[af];exact M.inv) g4) g4
theorem zxn{e0:yl}{Q:Exit->Act->World->Prop}(ap:wy ops m=true)(aC:∀x∈e0,x.2.1=[]/\x.1∉y9 ops m/\Y2 x.2.2 (y9 ops m)=true)
  {IL:List It} (aF:∀i∈IL,∃Kan,ItOK h0 W M0 P n ops m pu e0 cs IL i Kan/\Kan i.av) (al:HeadInv .any ops m listed) (M:Mid h0 W M0 P n ops m e0 cs listed IL γ a h)
  {it:It} {Kan:AV->Prop} (T:ItOK h0 W M0 P n ops m pu e0 cs IL it Kan) (aa:Kan it.av) (hr:it.k∈Region.ready .any ops listed) (aE:memN pu it.k=true) (Z:Region.noSelect ops=true) (hQ:∀c a w,¬Q (.panic c) a w) (B:World) (d:Nat) {f:Nat}
  (hK:∀u,(∀L':List It,L'.Perm (it::Jr listed IL)->SatA n (itE L'++e0) γ (a.put it.dst u)/\Inv h0 W M0 (itC L'++cs) γ h)->Gx (it.nb.map (·.1)) γ γ->wpAny P .any ops Q f (listed.setIfInBounds it.k true) (a.put it.dst u) (mk B d h)):
  wpAny P .any ops Q (f+1) listed a (mk B d h):=by
 obtain⟨o,e,ho,ak,O,ax,sp,aj,aH,ah⟩:=zk5 ap aC aF al M T hr
 obtain⟨ac,aG,af,_⟩:=aj aE
 have hw:=Zq O ax
 have g4:Gx (it.nb.map (·.1)) γ γ:=by rw[ac];exact Gx.refl _ _
 have ai:∀j oj,ops[j]?=some oj->j≠it.k->listed.getD j true=false->(∀e∈oj.after,Region.binds .any e=true->e.on≠it.k)->o.apart ops oj=true:=by
  intro j oj hj au an ar
  have am:j<ops.size:=(Ac.1 hj).1
  refine zk4 af j oj am hj au ?_ ?_
  ·cases hb:Region.waitsFor .any ops j it.k with
   |false=>rfl
   |true=>
    obtain⟨aA,az,e',aB,ay,aD⟩:=Region.waitsFor_spec hb
    have:aA=oj:=Aw (az.symm.trans hj)
    subst this
    exact absurd aD (ar e' aB ay)
  ·cases hb:Region.waitsFor .any ops it.k j with
   |false=>rfl
   |true=>
    have:=Y3 hr hb
    rw[getD_both an]at this;cases this
 by_cases hv:valid (zx a) it.ch
 ·obtain⟨v,hd,hx⟩:=aG it.av aa n γ a O hv
  refine wpAny_first ho (Region.noSelect_spec Z) (λc a w hq=>absurd hq (hQ c _ w)) f listed a (mk B d h) ai hr (.inl ⟨hw.2 hv,hx⟩) ?_
  rw[ak]
  exact hK v (ah it.av v γ h aa (λ_=>hd) (λae=>absurd hv ae) (by rw[ac];exact M.inv) g4) g4
 ·refine wpAny_first ho (Region.noSelect_spec Z) (λc a w hq=>absurd hq (hQ c _ w)) f listed a (mk B d h) ai hr (.inr ⟨by simpa using λhx=>hv (hw.1 hx),rfl⟩) ?_
  rw[ak]
  exact hK undef (ah it.av undef γ h aa (λae=>absurd ae hv) (λ_=>rfl) (by rw[ac];exact M.inv) g4) g4
structure GInv (h0:zb) (W:Nat->Prop) (M0:Fr) (P:Program) (n:Nat) (ops:Array Oper) (m:Nat) (pu:List Nat) (e0:yl) (cs:CS) (listed pl:Array Bool) (IL:List It):Prop where
 size:pl.size=ops.size
 mem:∀k,pl.getD k false=true↔∃i∈IL,i.k=k
 dist:IL.Pairwise λi j=>i.k≠j.k
 items:∀i∈IL,∃Kan,ItOK h0 W M0 P n ops m pu e0 cs IL i Kan/\Kan i.av/\(listed.getD i.k false=false->Kan=(· = i.av))
 sub:∀k,listed.getD k false=true->pl.getD k false=true
def zgr(ops:Array Oper):List Nat->Bool
 |[]=>true
 |k::_=>match ops[k]? with
  |some o=>jb o
  |none=>false
theorem getD_lt{k:Nat}(h:k<pl.size):pl.getD k true=pl.getD k false:=by simp[h]
theorem zq2(an:Fr.le gl M0){e0:yl}{Kt:List It->Prop}{k:Nat}{IL:List It}(H:dW P gl tr n ops m pu e0 cs Kt (k::ord) pl IL):
  ∃o ch nb Kan,ops[k]?=some o/\zh4 ops m o k pl=true/\(∀av,ItOK h0 W M0 P n ops m pu e0 cs IL ⟨k,o.dst,ch,av,nb⟩ Kan)/\(∀av,Kan av->dW P gl tr n ops m pu e0 cs Kt ord (pl.setIfInBounds k true) (⟨k,o.dst,ch,av,nb⟩::IL))/\(jb o=false->∃av,Kan=(· = av)):=by
 unfold dW at H
 split at H
 ·exact H.elim
 ·rename_i o ho
  cases hst:zh4 ops m o k pl with
  |false=>rw[hst]at H;exact H.elim
  |true=>
   rw[hst]at H
   simp only[cond_true]at H
   split at H
   ·rename_i ch am
    cases hco:qbp ops o ch with
    |false=>rw[hco]at H;exact H.elim
    |true=>
     rw[hco]at H
     cases hok:yu n ch o.dst with
     |false=>rw[hok]at H;exact H.elim
     |true=>
      rw[hok]at H
      simp only[cond_true]at H
      cases hpo:zxm P ops pu o k (Xi (Qo ops o) (itE IL++e0)) ch with
      |false=>rw[hpo]at H;exact H.elim
      |true=>
      rw[hpo]at H
      simp only[cond_true]at H
      have Z:∃nb Kan,Spec h0 W M0 P o (Xi (Qo ops o) (itE IL++e0)) ch cs nb Kan/\(∀av,Kan av->(bif zsx (y9 ops m) av nb then dW P gl tr n ops m pu e0 cs Kt ord (pl.setIfInBounds k true) (⟨k,o.dst,ch,av,nb⟩::IL)else False))/\(jb o=false->∃av,Kan=(· = av)) /\
        (memN pu k=true->nb=none/\zdb P o (Xi (Qo ops o) (itE IL++e0)) ch Kan/\zq0 ops k o ops.size=true/\jb o=false):=by
       unfold zxm at hpo
       cases hmp:memN pu k with
       |false=>
        obtain⟨nb,Kan,h1,h2,h3⟩:=zqz (h0:=h0) (W:=W) (M0:=M0) an H
        exact⟨nb,Kan,h1,h2,h3,λhc=>by cases hc⟩
       |true=>
        rw[hmp]at hpo
        simp only[cond_true]at hpo
        cases hpb:zet P (Xi (Qo ops o) (itE IL++e0)) ch o with
        |false=>rw[hpb]at hpo;cases hpo
        |true=>
         rw[hpb]at hpo
         obtain⟨av,h1,h2,h3⟩:=zu4 (h0:=h0) (W:=W) (M0:=M0) H hpb
         exact⟨none,(· = av),h1,λaa e=>e ▸ h2,λ_=>⟨av,rfl⟩,λ_=>⟨rfl,h3,hpo,zo2 hpb⟩⟩
      obtain⟨nb,Kan,sp,hK,ae,ai⟩:=Z
      have ah:xm ops k (Qo ops o) m=true:=by
       unfold zh4 at hst
       cases h1:Nat.blt k m with
       |false=>rw[h1]at hst;cases hst
       |true=>
        rw[h1]at hst
        cases h2:xm ops k (Qo ops o) m with
        |false=>rw[h2]at hst;cases hst
        |true=>rfl
      have al:k<m:=by
       unfold zh4 at hst
       cases h1:Nat.blt k m with
       |false=>rw[h1]at hst;cases hst
       |true=>simpa[Cq]using h1
      have ac:∀av,Kan av->zsx (y9 ops m) av nb=true/\dW P gl tr n ops m pu e0 cs Kt ord (pl.setIfInBounds k true) (⟨k,o.dst,ch,av,nb⟩::IL):=by
       intro av O
       have:=hK av O
       cases hio:zsx (y9 ops m) av nb with
       |false=>rw[hio]at this;exact this.elim
       |true=>rw[hio]at this;exact⟨rfl,this⟩
      refine⟨o,ch,nb,Kan,ho,hst,λav=>⟨al,zdc ho,hok,?_,⟨o,_,ho,am,sp,λx hx=>?_,ai⟩,λaa O af=>?_⟩,λav O=>(ac av O).2,ae⟩
      ·-- the chain's slots
       intro x hx p hp hd
       refine qn ah p x.1 hp hd ?_
       unfold qbp at hco
       split at hco
       ·cases hx
       ·rename_i g q
        have ap:x=(g,q):=by simpa using hx
        subst ap
        split at hco
        ·rename_i j pp aj
         split at hco
         ·rename_i g' ak
          have e:=Ak hco
          unfold Qo
          rw[aj]
          simp only[ak]
          rw[e]
          exact Ap _ Aq
         ·cases hco
        ·cases hco
       ·cases hco
      ·obtain⟨h1,h2⟩:=Jq hx
       rcases Am.1 h1 with h1|h1
       ·exact .inr ⟨h1,λp hp hd=>qn ah p x.1 hp hd h2⟩
       ·exact .inl h1
      ·have:=(ac aa O).1
       simp only at af
       subst af
       exact this
   ·exact H.elim
theorem zxo{k:Nat}(h:zh4 ops m o k pl=true):k∈Region.ready .any ops pl/\(jb o=true->Region.ready .any ops pl=[k]):=by
 unfold zh4 at h
 cases h1:Nat.blt k m with
 |false=>rw[h1]at h;cases h
 |true=>
  rw[h1]at h
  cases h2:xm ops k (Qo ops o) m with
  |false=>rw[h2]at h;cases h
  |true=>
   rw[h2]at h
   simp only[cond_true]at h
   cases ha:jb o with
   |false=>rw[ha]at h;exact⟨zxj h,λhc=>by cases hc⟩
   |true=>
    rw[ha]at h
    simp only[cond_true]at h
    have:Region.ready .any ops pl=[k]:=by
     unfold z3w at h
     split at h
     ·rename_i x _ hx;rw[hx,Ak h]
     ·cases h
    exact⟨by rw[this];exact Aq,λ_=>this⟩
theorem zxp{P:Program}{gl:Fr}(ai:Fr.le gl M0){tr:TypeId}{n:Nat}{ops:Array Oper}{m:Nat}{pu:List Nat}{e0:yl}{cs:CS}{Kt:List It->Prop}{listed:Array Bool}:∀{ord:List Nat} {pl:Array Bool} {IL:List It},dW P gl tr n ops m pu e0 cs Kt ord pl IL->GInv h0 W M0 P n ops m pu e0 cs listed pl IL ->
  ∃O ac new,dW P gl tr n ops m pu e0 cs Kt O ac (new++IL)/\GInv h0 W M0 P n ops m pu e0 cs listed ac (new++IL)/\zgr ops O=true/\∀i∈new,listed.getD i.k false=false
 |[],pl,IL,H,G=>⟨[],pl,[],H,G,rfl,λi hi=>by cases hi⟩
 |k::ord,pl,IL,H,G=>by
  obtain⟨o,ch,nb,Kan,ho,al,an,hK,ah⟩:=zq2 (h0:=h0) (W:=W) (M0:=M0) ai H
  cases ha:jb o with
  |true=>exact⟨k::ord,pl,[],H,G,by simp[zgr,ho,ha],λi hi=>by cases hi⟩
  |false=>
   obtain⟨av,rfl⟩:=ah ha
   have ak:=(zxo al).1
   have af:pl.getD k true=false:=(mem_ready.1 ak).1
   have ae:k<pl.size:=by
    rcases AX k pl.size with h|h
    ·exact h
    ·simp[Array.getElem?_eq_none h]at af
   have Z:pl.getD k false=false:=by rw[<-getD_lt ae];exact af
   have aj:listed.getD k false=false:=by
    cases hb:listed.getD k false with
    |false=>rfl
    |true=>rw[G.sub k hb]at Z;cases Z
   have am:∀i∈IL,i.k≠k:=λi hi e=>by
    have:=(G.mem k).2 ⟨i,hi,e⟩
    rw[this]at Z;cases Z
   have G':GInv h0 W M0 P n ops m pu e0 cs listed (pl.setIfInBounds k true) (⟨k,o.dst,ch,av,nb⟩::IL):=by
    refine⟨by simp[G.size],λj=>?_,BD.2 ⟨λj hj=>(am j hj).symm,G.dist⟩,λi hi=>?_,λj hj=>?_⟩
    ·by_cases aa:k=j
     ·subst aa
      simp only[Ag,exists_eq_or_imp,true_or,iff_true]
      simp[ae]
     ·rw[getD_set_ne false aa,G.mem j]
      simp only[Ag,exists_eq_or_imp,aa,false_or]
    ·rcases Ag.1 hi with rfl|hi
     ·exact⟨(· = av),(an av).mono λi hi=>Ah _ hi,rfl,λ_=>rfl⟩
     ·obtain⟨Ki,h1,h2,h3⟩:=G.items i hi
      exact⟨Ki,h1.mono λi hi=>Ah _ hi,h2,h3⟩
    ·by_cases aa:k=j
     ·subst aa;simp[ae]
     ·rw[getD_set_ne false aa];exact G.sub j hj
   obtain⟨O,ac,new,h1,h2,h3,h4⟩:=zxp ai (hK av rfl) G'
   refine⟨O,ac,new++[⟨k,o.dst,ch,av,nb⟩],by simpa using h1,by simpa using h2,h3,λi hi=>?_⟩
   rcases Am.1 hi with hi|hi
   ·exact h4 i hi
   ·simp only[Cn]at hi;subst hi;exact aj
theorem zs0{listed:Array Bool}{it:It}(hk:it.k<listed.size)(O:listed.getD it.k false=false):∀{IL:List It},IL.Pairwise (λi j=>i.k≠j.k)->it∈IL->(Jr (listed.setIfInBounds it.k true) IL).Perm (it::Jr listed IL)
 |[],_,h=>by cases h
 |i::l,hd,h=>by
  rw[BD]at hd
  simp only[Jr]
  rcases Ag.1 h with rfl|h
  ·have e1:(listed.setIfInBounds it.k true).getD it.k false=true:=by simp[hk]
   have e2:Jr (listed.setIfInBounds it.k true) l=Jr listed l:=by
    have:∀{l:List It},(∀j∈l,it.k≠j.k)->Jr (listed.setIfInBounds it.k true) l=Jr listed l:=by
     intro l
     induction l with
     |nil=>intro _;rfl
     |cons j l ih=>
      intro hj
      simp only[Jr]
      rw[getD_set_ne false (hj j Aq),ih λx hx=>hj x (Ah _ hx)]
    exact this hd.1
   rw[e1,O,e2]
   exact .refl _
  ·have Z:i.k≠it.k:=hd.1 it h
   rw[getD_set_ne false (Ne.symm Z)]
   have ih:=zs0 hk O hd.2 h
   cases listed.getD i.k false with
   |true=>exact(ih.cons _).trans (.swap _ _ _)
   |false=>exact ih
theorem zxq{listed:Array Bool}{k:Nat}:∀{l:List It},(∀j∈l,k≠j.k)->Jr (listed.setIfInBounds k true) l=Jr listed l
 |[],_=>rfl
 |j::l,hj=>by
  simp only[Jr]
  rw[getD_set_ne false (hj j Aq),zxq λx hx=>hj x (Ah _ hx)]
theorem zmh{listed:Array Bool}{IL:List It}:∀{new:List It},(∀i∈new,listed.getD i.k false=false)->Jr listed (new++IL)=Jr listed IL
 |[],_=>rfl
 |i::l,h=>by
  simp only[Be,Jr]
  rw[h i Aq]
  exact zmh λx hx=>h x (Ah _ hx)
theorem zs1{listed:Array Bool}:∀{l:List It},(∀i∈l,listed.getD i.k false=true)->Jr listed l=l
 |[],_=>rfl
 |i::l,h=>by
  simp only[Jr]
  rw[h i Aq,zs1 λx hx=>h x (Ah _ hx)]
  rfl
theorem GInv.ready_pl{e0:yl}{IL:List It}(G:GInv h0 W M0 P n ops m pu e0 cs listed pl IL)(hi:i∈Region.ready .any ops listed)(hp:pl.getD i false=false):i∈Region.ready .any ops pl:=by
 obtain⟨_,o,ho,O⟩:=mem_ready.1 hi
 have Z:i<ops.size:=(Ac.1 ho).1
 exact mem_ready.2 ⟨by rw[getD_lt (by rw[G.size];exact Z)];exact hp,o,ho,λe he hb=>G.sub _ (O e he hb)⟩
theorem zu5(hm:m<=ops.size)(O:qo ops ops.size=true)(ac:listed.size=ops.size)(Z:∃k,k<m/\listed.getD k false=false):∃k,k<m/\k∈Region.ready .any ops listed:=by
 obtain⟨k,⟨h1,h2⟩,h3⟩:=exists_least Z
 refine⟨k,h1,mem_ready.2 ⟨by rw[getD_lt (by omega)];exact h2,ops[k],AP (by omega),λe he hb=>?_⟩⟩
 have aa:=qp O k ops[k] (by omega) (AP (by omega)) e he hb
 cases hb':listed.getD e.on false with
 |true=>rfl
 |false=>
  have:=h3 e.on ⟨by omega,hb'⟩
  omega
def Wi(N m:Nat):Array Bool:=((AZ N).map λk=>Nat.blt k m).toArray
theorem zq3(hm:m<=ops.size)(inv:HeadInv .any ops m listed)(O:∀k,k<m->listed.getD k false=true):listed=Wi ops.size m:=by
 refine Array.ext (by simp[Wi,inv.size]) λi h1 h2=>?_
 have hi:i<ops.size:=by rw[<-inv.size];exact h1
 have e:(Wi ops.size m)[i]=Nat.blt i m:=by simp[Wi]
 rw[e]
 rcases AX i m with h|h
 ·have:=O i h
  simp only[Array.getD,h1,dite_true]at this
  rw[show Nat.blt i m=true by simpa[Cq]using h]
  exact this
 ·have:=inv.tail i h hi
  simp only[Array.getD,h1,dite_true]at this
  have e2:Nat.blt i m=false:=by
   cases hb:Nat.blt i m with
   |false=>rfl
   |true=>have:=Cq.mp hb;omega
  rw[e2]
  exact this
def zxr(ops:Array Oper)(pu:List Nat)(m i:Nat):Nat->Bool
 |0=>false
 |j+1=>bif (bif Region.waitsFor .any ops j i then(bif Nat.beq j m then true else !(memN pu j))else false)then Nat.blt i j else zxr ops pu m i j
theorem zk6{ops:Array Oper}{pu:List Nat}{m i:Nat}:∀{n:Nat},zxr ops pu m i n=true->∃j,j<n/\i<j/\Region.waitsFor .any ops j i=true/\(j=m\/memN pu j=false)
 |0,h=>by cases h
 |n+1,h=>by
  simp only[zxr]at h
  cases hb:(bif Region.waitsFor .any ops n i then(bif Nat.beq n m then true else !(memN pu n))else false)with
  |false=>
   rw[hb]at h
   obtain⟨j,h1,h2⟩:=zk6 h
   exact⟨j,by omega,h2⟩
  |true=>
   rw[hb]at h
   refine⟨n,by omega,by simpa[Cq]using h,?_⟩
   cases hw:Region.waitsFor .any ops n i with
   |false=>rw[hw]at hb;cases hb
   |true=>
    rw[hw]at hb
    refine⟨rfl,?_⟩
    cases hm:Nat.beq n m with
    |true=>exact .inl (Ak hm)
    |false=>rw[hm]at hb;exact .inr (by simpa using hb)
def zu6(ops:Array Oper)(pu:List Nat)(m:Nat):Nat->Bool
 |0=>true
 |i+1=>bif (bif memN pu i then true else zxr ops pu m i (m+1))then zu6 ops pu m i else false
theorem zk7{ops:Array Oper}{pu:List Nat}{m:Nat}:∀{n:Nat},zu6 ops pu m n=true->∀i,i<n->memN pu i=false->∃j,j<=m/\i<j/\Region.waitsFor .any ops j i=true/\(j=m\/memN pu j=false)
 |0,_,i,hi,_=>by omega
 |n+1,h,i,hi,hp=>by
  simp only[zu6]at h
  cases hb:(bif memN pu n then true else zxr ops pu m n (m+1))with
  |false=>rw[hb]at h;cases h
  |true=>
   rw[hb]at h
   rcases AX i n with h1|h1
   ·exact zk7 h i h1 hp
   ·have:i=n:=by omega
    subst this
    rw[hp]at hb
    obtain⟨j,a1,a2⟩:=zk6 hb
    exact⟨j,by omega,a2⟩
def zu7(ops:Array Oper)(pu:List Nat)(m:Nat):Bool:=bif Nat.beq m ops.size then true else bif zu6 ops pu m m then Region.chainB .any ops m else false
theorem zq4(hm:m<ops.size)(hs:zu6 ops pu m m=true)(hc:Region.chainB .any ops m=true)(inv:HeadInv .any ops m listed):
  ∀(d i:Nat),m-i=d->i<m->listed.getD i false=false->memN pu i=false->∀t,m<=t->t∉Region.ready .any ops listed:=by
 intro d
 induction d using Nat.strongRecOn with
 |_ d ih=>
  intro i hd hi O aj t ht hr
  obtain⟨_,ot,ah,ak⟩:=mem_ready.1 hr
  have aa:t<ops.size:=(Ac.1 ah).1
  by_cases af:t=m
  ·subst af
   obtain⟨j,h1,h2,h3,h4⟩:=zk7 hs i hi aj
   by_cases Z:j=t
   ·subst Z
    rw[Y3 hr h3]at O;cases O
   ·have ac:memN pu j=false:=h4.resolve_left Z
    cases hl:listed.getD j false with
    |true=>
     obtain⟨oj,ae,e,he,hb,ai⟩:=Region.waitsFor_spec h3
     have:=inv.closed j oj ae hl e he hb
     rw[ai,O]at this
     cases this
    |false=>exact ih (t-j) (by omega) j rfl (by omega) hl ac t (Ae _) hr
  ·have h1:=AU.1 hc t (BO.2 aa)
   simp only[Cw,decide_eq_true_eq]at h1
   rcases h1 with h1|h1
   ·omega
   ·have:=Y3 hr h1
    rw[getD_both (inv.tail (t-1) (by omega) (by omega))]at this
    cases this
theorem z1j(hm:m<=ops.size)(he:zu7 ops pu m=true)(inv:HeadInv .any ops m listed)(O:∃k,k<m/\k∈Region.ready .any ops listed/\memN pu k=false):∀i∈Region.ready .any ops listed,i<m:=by
 intro i hi
 obtain⟨_,o,ho,_⟩:=mem_ready.1 hi
 have Z:i<ops.size:=(Ac.1 ho).1
 rcases AX i m with h|h
 ·exact h
 ·exfalso
  unfold zu7 at he
  cases hb:Nat.beq m ops.size with
  |true=>have:=Ak hb;omega
  |false=>
   rw[hb]at he
   simp only[cond_false]at he
   cases hs:zu6 ops pu m m with
   |false=>rw[hs]at he;cases he
   |true=>
    rw[hs]at he
    obtain⟨k,h1,h2,h3⟩:=O
    exact zq4 (by omega) hs he inv _ k rfl h1 (getD_both (mem_ready.1 h2).1) h3 i h hi
theorem qbq(hgl:Fr.le gl M0){e0:yl}{Kt:List It->Prop}{Q:Exit->Act->World->Prop}(hm:m<=ops.size)(hnd:wy ops m=true)(hback:qo ops ops.size=true)(hends:zu7 ops pu m=true)(hsel:Region.noSelect ops=true)(hQp:∀c a w,¬Q (.panic c) a w)
    (he0:∀x∈e0,x.2.1=[]/\x.1∉y9 ops m/\Y2 x.2.2 (y9 ops m)=true) (B:World) {g:Nat} {a0:Act} {γ0:Gh}
    (hQ:∀IL γ a d h,SatA n (itE IL++e0) γ a->Inv h0 W M0 (itC IL++cs) γ h->Same (y9 ops m) a0 a->GxS (y9 ops m) γ0 γ->Kt IL->wpAny P .any ops Q g (Wi ops.size m) a (mk B d h)):
    ∀(N:Nat) (U:List Nat) (listed:Array Bool) (ord:List Nat) (pl:Array Bool) (IL:List It) (γ:Gh) (a:Act) (d:Nat) (h:zb),U.length=N->U.Nodup->(∀k,k∈U↔k<m/\listed.getD k false=false)->HeadInv .any ops m listed ->
      dW P gl tr n ops m pu e0 cs Kt ord pl IL->zgr ops ord=true->GInv h0 W M0 P n ops m pu e0 cs listed pl IL->Mid h0 W M0 P n ops m e0 cs listed IL γ a h->Same (y9 ops m) a0 a->GxS (y9 ops m) γ0 γ ->
      wpAny P .any ops Q (N+g) listed a (mk B d h):=by
  intro N
  induction N with
  |zero=>
    intro U listed ord pl IL γ a d h hU _ hmem inv H hanch G M hsame hgx
    have hUn:U=[]:=B6.1 hU
    subst hUn
    have hall:∀k,k<m->listed.getD k false=true:=λk hk=>by
      cases hb:listed.getD k false with
      |true=>rfl
      |false=>exact absurd ((hmem k).2 ⟨hk,hb⟩) (by simp)
    have hKt:Kt IL:=by
      cases ord with
      |nil=>
        unfold dW at H
        cases hb:zu3 pl m with
        |true=>rw[hb]at H;exact H
        |false=>rw[hb]at H;exact H.elim
      |cons k ord=>
        exfalso
        obtain⟨o,ch,nb,Kan,ho,hst,hit,_,_⟩:=zq2 (h0:=h0) (W:=W) (M0:=M0) hgl H
        have hk:k<m:=(hit (.g (.a (.v undef)))).lt
        have h1:=(mem_ready.1 (zxo hst).1).1
        rw[getD_lt (by rw[G.size];omega),G.sub k (hall k hk)]at h1
        cases h1
    have hact:Jr listed IL=IL:=zs1 λi hi=>by
      obtain⟨Ki,Ti,_⟩:=G.items i hi
      exact hall _ Ti.lt
    have h1:=M.sat
    have h2:=M.inv
    rw[hact]at h1 h2
    rw[AD,zq3 hm inv hall]
    exact hQ IL γ a d h h1 h2 hsame hgx hKt
  |succ N ih=>
    intro U listed ord pl IL γ a d h hU hdup hmem inv H hanch G M hsame hgx
    have hex:∃k,k<m/\listed.getD k false=false:=by
      cases U with
      |nil=>cases hU
      |cons k U=>exact⟨k,(hmem k).1 Aq⟩
    obtain⟨k0,hk0m,hk0⟩:=zu5 hm hback inv.size hex
    rw[show N+1+g=(N+g)+1 by omega]
    have gen:∀i,i∈Region.ready .any ops listed->i<m->(memN pu i=true->wpAny P .any ops Q (N+g+1) listed a (mk B d h))/\wpOp P ops Q i (wpAny P .any ops Q (N+g) (listed.setIfInBounds i true)) a (mk B d h):=by
      intro i hi him
      have hun:listed.getD i false=false:=getD_both (mem_ready.1 hi).1
      have hils:i<listed.size:=by rw[inv.size];omega
      have hU':(U.erase i).length=N:=by rw[CF ((hmem i).2 ⟨him,hun⟩),hU];rfl
      have hdup':(U.erase i).Nodup:=hdup.erase i
      have hmem':∀k,k∈U.erase i↔k<m/\(listed.setIfInBounds i true).getD k false=false:=λk=>by
        rw[hdup.mem_erase_iff,hmem k]
        by_cases hk:i=k
        · subst hk;simp[hils]
        · rw[getD_set_ne false hk];exact⟨λhx=>hx.2,λhx=>⟨λe=>hk e.symm,hx⟩⟩
      have inv':=inv.set hi him
      have toS:∀{it:It} {Kan:AV->Prop},ItOK h0 W M0 P n ops m pu e0 cs IL it Kan->∀{γ':Gh},Gx (it.nb.map (·.1)) γ γ'->GxS (y9 ops m) γ γ':=by
        intro it Kan T γ' gx
        refine⟨gx.1,λj hj=>?_⟩
        refine gx.2 j λhc=>hj ?_
        obtain⟨o,e,ho,_,sp,_,_⟩:=T.ex
        cases hnb:it.nb with
        |none=>rw[hnb]at hc;cases hc
        |some b=>
          rw[hnb]at hc
          have:b.1=j:=by simpa using hc
          subst this
          obtain⟨_,h2,_⟩:=sp.box b hnb
          exact zeu T.lt (by rw[zdc ho];exact h2)
      have toSame:∀{it:It} {Kan:AV->Prop},ItOK h0 W M0 P n ops m pu e0 cs IL it Kan->∀u,Same (y9 ops m) a (a.put it.dst u):=λ {it} {Kan} T u=>
        Same.put a it.dst u λj hj=>zeu T.lt (by rw[T.dst];exact hj)
      have hILk:∀x∈IL,∃Kan,ItOK h0 W M0 P n ops m pu e0 cs IL x Kan/\Kan x.av:=λx hx=>by
        obtain⟨Kx,h1,h2,_⟩:=G.items x hx
        exact⟨Kx,h1,h2⟩
      cases hpl:pl.getD i false with
      |true=>
        obtain⟨it,hit,hik⟩:=(G.mem i).1 hpl
        subst hik
        obtain⟨Kan,T,_,hdet⟩:=G.items it hit
        have fwd:∀u γ' h' d',(∀L':List It,L'.Perm (it::Jr listed IL)->SatA n (itE L'++e0) γ' (a.put it.dst u)/\Inv h0 W M0 (itC L'++cs) γ' h')->Gx (it.nb.map (·.1)) γ γ'->wpAny P .any ops Q (N+g) (listed.setIfInBounds it.k true) (a.put it.dst u) (mk B d' h'):=by
         intro u γ' h' d' hst hgx'
         obtain⟨s1,s2⟩:=hst _ (zs0 hils hun G.dist hit)
         refine ih _ _ ord pl IL γ' _ d' h' hU' hdup' hmem' inv' H hanch ⟨G.size,G.mem,G.dist,λx hx=>?_,λk hk=>?_⟩ ⟨s1,s2⟩ (hsame.trans (toSame T u)) (hgx.trans (toS T hgx'))
         · obtain⟨Kx,h1,h2,h3⟩:=G.items x hx
           refine⟨Kx,h1,h2,λhf=>h3 ?_⟩
           by_cases hk:it.k=x.k
           · rw[<-hk];exact hun
           · rw[getD_set_ne false hk]at hf;exact hf
         · by_cases hk':it.k=k
           · subst hk';exact hpl
           · rw[getD_set_ne false hk']at hk;exact G.sub k hk
        have hK0:Kan it.av:=by rw[hdet hun]
        refine⟨λhp=>zxn hnd he0 hILk inv M T hK0 hi hp hsel hQp B d λu hst hgx'=>fwd u γ h d hst hgx',zo3 hnd he0 hILk inv M T hi B d λav u γ' h' d' hav hst hgx'=>?_⟩
        have hav':av=it.av:=by rw[hdet hun]at hav;exact hav
        subst hav'
        exact fwd u γ' h' d' hst hgx'
      |false=>
        have hrp:=G.ready_pl hi hpl
        cases ord with
        |nil=>
          exfalso
          unfold dW at H
          cases hb:zu3 pl m with
          |true=>rw[zk3 hb i him]at hpl;cases hpl
          |false=>rw[hb]at H;exact H
        |cons k ord=>
          obtain⟨o,ch,nb,Kan,ho,hst,hit,hK,_⟩:=zq2 (h0:=h0) (W:=W) (M0:=M0) hgl H
          have hanc:jb o=true:=by simpa[zgr,ho]using hanch
          have hrk:=(zxo hst).2 hanc
          rw[hrk]at hrp
          have hik:i=k:=by simpa using hrp
          subst hik
          refine⟨λhp=>?_,zo3 hnd he0 hILk inv M (hit (.g (.a (.v undef)))) hi B d λav u γ' h' d' hav hst' hgx'=>?_⟩
          · obtain⟨o',_,ho',_,_,_,hpp⟩:=(hit (.g (.a (.v undef)))).ex
            have:=(hpp hp).2.2.2
            have e':o'=o:=Aw (ho'.symm.trans ho)
            rw[e',hanc]at this;cases this
          have hne:∀j∈IL,i≠j.k:=λj hj e=>by
            have:=(G.mem i).2 ⟨j,hj,e.symm⟩
            rw[hpl]at this;cases this
          have hips:i<pl.size:=by rw[G.size,<-inv.size];exact hils
          have G':GInv h0 W M0 P n ops m pu e0 cs (listed.setIfInBounds i true) (pl.setIfInBounds i true) (⟨i,o.dst,ch,av,nb⟩::IL):=by
            refine⟨by simp[G.size],λj=>?_,BD.2 ⟨λj hj=>hne j hj,G.dist⟩,λx hx=>?_,λj hj=>?_⟩
            · by_cases hjk:i=j
              · subst hjk
                simp only[Ag,exists_eq_or_imp,true_or,iff_true]
                simp[hips]
              · rw[getD_set_ne false hjk,G.mem j]
                simp only[Ag,exists_eq_or_imp,hjk,false_or]
            · rcases Ag.1 hx with rfl|hx
              · exact⟨Kan,(hit av).mono λx hx=>Ah _ hx,hav,λhf=>by simp[hils]at hf⟩
              · obtain⟨Kx,h1,h2,h3⟩:=G.items x hx
                refine⟨Kx,h1.mono λx hx=>Ah _ hx,h2,λhf=>h3 ?_⟩
                rw[getD_set_ne false (hne x hx)]at hf;exact hf
            · by_cases hjk:i=j
              · subst hjk;simp[hips]
              · rw[getD_set_ne false hjk]at hj ⊢;exact G.sub j hj
          obtain⟨ord',pl',new,h1,h2,h3,h4⟩:=zxp hgl (hK av hav) G'
          have hact:Jr (listed.setIfInBounds i true) (new++⟨i,o.dst,ch,av,nb⟩::IL)=⟨i,o.dst,ch,av,nb⟩::Jr listed IL:=by
            rw[zmh h4]
            simp only[Jr]
            rw[show(listed.setIfInBounds i true).getD i false=true by simp[hils],zxq hne]
            rfl
          obtain⟨s1,s2⟩:=hst' (⟨i,o.dst,ch,av,nb⟩::Jr listed IL) (.refl _)
          exact ih _ _ ord' pl' _ γ' _ d' h' hU' hdup' hmem' inv' h1 h3 h2 ⟨by rw[hact];exact s1,by rw[hact];exact s2⟩ (hsame.trans (toSame (hit av) u)) (hgx.trans (toS (hit av) hgx'))
    by_cases hpe:∃i,i∈Region.ready .any ops listed/\i<m/\memN pu i=true
    · obtain⟨i,hi,him,hp⟩:=hpe
      exact(gen i hi him).1 hp
    · refine⟨λhc=>(by rw[hc]at hk0;cases hk0),λi hi=>(gen i hi (z1j hm hends inv ⟨k0,hk0m,hk0,?_⟩ i hi)).2⟩
      cases hb:memN pu k0 with
      |false=>rfl
      |true=>exact absurd ⟨k0,hk0,hk0m,hb⟩ hpe
def z5p(ops:Array Oper)(m:Nat)(pu:List Nat):Bool:=
 bif Nat.ble m ops.size then(bif wy ops m then(bif qo ops ops.size then(bif zu7 ops pu m then(bif Region.noSelect ops then Region.seqB .any ops (ops.size-m) m (Wi ops.size m)else false)else false)else false)else false)else false
def z5q(P:Program)(gl:Fr)(tr:TypeId)(n:Nat)(ops:Array Oper)(m:Nat)(ord pu:List Nat)(R:CS)(K:yl->CS->Prop)(e:yl)(C:CS):Prop:=
 bif z5p ops m pu then dW P gl tr n ops m pu (zf5 (y9 ops m) e) (C++R) (λIL=>wRA P gl tr n ops R K (ops.toList.drop m) (itE IL++zf5 (y9 ops m) e) (itC IL++C)) ord (Bn ops.size false) []else False
theorem zq5(hm:P.follows .mixedOrders=true)(af:Fr.le gl M0){K:yl->CS->Prop}{e:yl}
  (H:z5q P gl tr n ops m ord pu R K e C) (B:World) (d:Nat) (hs:SatA n e γ a) (I:Inv h0 W M0 (C++R) γ h) {Q:Exit->Act->World->Prop}
  (hQ:∀e' C' γ' a' d' h',SatA n e' γ' a'->Inv h0 W M0 (C'++R) γ' h'->Same (jj ops.toList) a a'->GxS (jj ops.toList) γ γ'->K e' C'->Q .normal a' (mk B d' h')):(C4 id ops true).wp P Q a (mk B d h):=by
 unfold z5q at H
 cases hB:z5p ops m pu with
 |false=>rw[hB]at H;exact H.elim
 |true=>
  rw[hB]at H
  simp only[cond_true]at H
  have ay:m<=ops.size/\wy ops m=true/\qo ops ops.size=true/\zu7 ops pu m=true/\Region.noSelect ops=true/\Region.seqB .any ops (ops.size-m) m (Wi ops.size m)=true:=by
   unfold z5p at hB
   cases h1:Nat.ble m ops.size with
   |false=>rw[h1]at hB;cases hB
   |true=>
    rw[h1]at hB
    cases h2:wy ops m with
    |false=>rw[h2]at hB;cases hB
    |true=>
     rw[h2]at hB
     cases h3:qo ops ops.size with
     |false=>rw[h3]at hB;cases hB
     |true=>
      rw[h3]at hB
      cases h4:zu7 ops pu m with
      |false=>rw[h4]at hB;cases hB
      |true=>
       rw[h4]at hB
       cases h5:Region.noSelect ops with
       |false=>rw[h5]at hB;cases hB
       |true=>
        rw[h5]at hB
        exact⟨BE h1,rfl,rfl,rfl,rfl,hB⟩
  obtain⟨ax,an,ae,ac,al,ah⟩:=ay
  have O:jj ops.toList=jj (ops.toList.take m)++jj (ops.toList.drop m):=by rw[<-Z2,Bp]
  have aA:∀x∈zf5 (y9 ops m) e,x.2.1=[]/\x.1∉y9 ops m/\Y2 x.2.2 (y9 ops m)=true:=λx hx=>(xo hx).2
  have ak:HeadInv .any ops m (Bn ops.size false):=
   ⟨by simp,λj oj _ hl=>(by rw[getD_replicate_false]at hl;cases hl),λt _ ht=>getD_in (by simpa using ht) (getD_replicate_false _ _)⟩
  have G0:GInv h0 W M0 P n ops m pu (zf5 (y9 ops m) e) (C++R) (Bn ops.size false) (Bn ops.size false) []:=
   ⟨by simp,λk=>by rw[getD_replicate_false];simp,List.Pairwise.nil,λi hi=>(by cases hi),λk hk=>hk⟩
  obtain⟨ai,aB,new,h1,h2,h3,h4⟩:=zxp af H G0
  have Z:Jr (Bn ops.size false) (new++[])=[]:=by rw[zmh h4];rfl
  have aj:SatA n (zf5 (y9 ops m) e) γ a:=hs.sub λx hx=>(xo hx).1
  let Qn:Exit->Act->World->Prop:=λx a w=>x=.normal/\Q .normal a w
  refine wp_mono (Q':=Q) (Q:=Qn) ?_ (λx a w hq=>by obtain⟨rfl,h⟩:=hq;exact h)
  refine wp_region_any hm ?_
  have ar:ops.size=m+(ops.size-m):=by omega
  have key:=qbq (n:=n) (Q:=Qn) (pu:=pu) af ax an ae ac al (λc a w hq=>by cases hq.1) aA B (g:=ops.size-m) (a0:=a) (γ0:=γ) (Kt:=λIL=>wRA P gl tr n ops R K (ops.toList.drop m) (itE IL++zf5 (y9 ops m) e) (itC IL++C)) (λIL γ' a' d' h' s1 s2 s3 s4 s5=>?_) m (AZ m) (Bn ops.size false) ai aB (new++[]) γ a (d+1) h DG Dh (λk=>by rw[BO,getD_replicate_false];simp) ak h1 h3 h2 ⟨by rw[Z];exact aj,by rw[Z];exact I⟩ (Same.refl _ _) (GxS.refl _ _)
  ·rw[<-ar]at key
   exact key
  ·have aa:(ops.toList.drop m).length=ops.size-m:=by simp
   rw[<-aa]
   refine wpAny_of_seq (md:=.any) (ops.toList.drop m) m _ a' _ (λj=>by simp[AH]) (by rw[aa];exact ah) ?_
   refine zc8 af B _ _ _ _ _ _ d' s5 s1 (by rw[AY];exact s2) λaD ap au am az aC q4 q5 q6 q7 q8=>⟨rfl,hQ aD ap au am az aC q4 q5 ?_ ?_ q8⟩
   ·rw[O]
    exact(s3.mono λx hx=>Ap _ hx).trans (q6.mono λx hx=>Ay _ hx)
   ·rw[O]
    exact(s4.mono λx hx=>Ap _ hx).trans (q7.mono λx hx=>Ay _ hx)
abbrev z1k:=List (Nat×Nat×List Nat×List Nat×List Nat)
def z3x:z1k->Nat->Option (Nat×List Nat×List Nat×List Nat)
 |[],_=>none
 |(j,x)::l,i=>bif Nat.beq i j then some x else z3x l i
def zq6(P:Program)(gl:Fr)(tr:TypeId)(n:Nat)(tl:zxg)(dl:z1k)(id:Nat)(ops:Array Oper)(O:Bool)(R:CS)(K:yl->CS->Prop)(e:yl)(C:CS):Prop:=
 match z3x dl id with
 |none=>zqy P gl tr n tl id ops O R K e C
 |some (m,fz,ord,pu)=>bif O then z5q P gl tr n ops m ord pu R K e (frzL fz C)else False
theorem zmi(hm:P.follows .mixedOrders=true)(Z:Fr.le gl M0){tl:zxg}{dl:z1k}{O:Bool}{K:yl->CS->Prop}{e:yl}
  (H:zq6 P gl tr n tl dl id ops O R K e C) (B:World) (d:Nat) (hs:SatA n e γ a) (I:Inv h0 W M0 (C++R) γ h) {Q:Exit->Act->World->Prop}
  (hQ:∀e' C' γ' a' d' h',SatA n e' γ' a'->Inv h0 W M0 (C'++R) γ' h'->Same (jj ops.toList) a a'->GxS (jj ops.toList) γ γ'->K e' C'->Q .normal a' (mk B d' h')):(C4 id ops O).wp P Q a (mk B d h):=by
 unfold zq6 at H
 split at H
 ·exact zmg hm Z H B d hs I hQ
 ·rename_i m fz ord pu _
  cases O with
  |false=>exact H.elim
  |true=>
   obtain⟨γ1,I1,g1⟩:=Inv.frzL (C:=C) (γ:=γ) fz I
   refine zq5 hm Z H B d (hs.gx g1) I1 λe' C' γ' a' d' h' q1 q2 q3 q4 q5=>hQ e' C' γ' a' d' h' q1 q2 q3 (GxS.trans ⟨g1.1,λi _=>g1.2 i (by simp)⟩ q4) q5
end
section
variable {S:List Nat} {γ γ':Gh} {u:Value} {C R:CS} {h:zb} {n:Nat} {a:Act} {P:Program} {f:FuncId}
variable {h0 : zb} {W : Nat -> Prop} {M0 : Fr}
structure PlanA where
 tails:zxg
 draws:z1k
 loops:List (Nat×AnnA)
 joins:List (Nat×AnnA)
def z9p:List (Nat×AnnA)->Option Nat->Option AnnA
 |[],_=>none
 |(j,m)::l,some i=>bif Nat.beq i j then some m else z9p l (some i)
 |_,none=>none
def z8o:AA->List Nat
 |.box j _=>[j]
 |.own j=>[j]
 |.oelt j _ _ _=>[j]
 |_=>[]
def zxs(S:List Nat):List AA->Bool
 |[]=>true
 |x::l=>bif (match z8o x with
  |[]=>true
  |j::_=>!(memN S j))then zxs S l else false
def z1l(S:List Nat):AG->Bool
 |.a x=>zxs S [x]
 |.agg l=>zxs S l
def zs2(S:List Nat):List AG->Bool
 |[]=>true
 |x::l=>bif z1l S x then zs2 S l else false
def z5r(S:List Nat):AV->Bool
 |.g x=>z1l S x
 |.tup l=>zs2 S l
 |.nx _ _ _=>true
theorem DenA.gxS(g:GxS S γ γ'){x:AA}(hm:(match z8o x with
  |[]=>true
  |j::_=>!(memN S j))=true)(h:DenA γ x u):DenA γ' x u:=by
 have key:∀j,memN S j=false->γ'.β j=γ.β j/\γ'.σ j=γ.σ j:=λj hj=>g.2 j (Zc hj)
 cases x with
 |v y=>exact h
 |d t y=>exact Rd.mono g.1 h
 |box j o=>rw[show u=_ from h];simp only[DenA,(key j (by simpa[z8o]using hm)).1]
 |own j=>rw[show u=_ from h];simp only[DenA,(key j (by simpa[z8o]using hm)).2]
 |oelt j z i o=>obtain⟨b,e1,e2⟩:=h;exact⟨b,by rw[(key j (by simpa[z8o]using hm)).2];exact e1,e2⟩
 |elt t y o=>obtain⟨b,f,cs,e,h1,h2⟩:=h;exact⟨b,f,cs,e,g.1 _ _ h1,Rd.mono g.1 h2⟩
 |dc t xs=>obtain⟨s,e1,e2,h⟩:=h;exact⟨s,e1,e2,Rd.mono g.1 h⟩
theorem DenL.gxS{S:List Nat}{γ γ':Gh}(g:GxS S γ γ'):∀{l:List AA} {us:List Value},zxs S l=true->All2 (DenA γ) l us->All2 (DenA γ') l us
 |[],[],_,_=>trivial
 |[],_::_,_,h=>h.elim
 |_::_,[],_,h=>h.elim
 |x::l,u::us,hm,h=>by
  simp only[zxs]at hm
  cases hx:(match z8o x with
   |[]=>true
   |j::_=>!(memN S j))with
  |false=>rw[hx]at hm;cases hm
  |true=>rw[hx]at hm;exact⟨DenA.gxS g hx h.1,DenL.gxS g hm h.2⟩
theorem DenG.gxS(g:GxS S γ γ'){x:AG}(hm:z1l S x=true)(h:DenG γ x u):DenG γ' x u:=by
 cases x with
 |a x=>
  have:All2 (DenA γ') [x] [u]:=DenL.gxS g hm (show All2 (DenA γ) [x] [u]from⟨h,trivial⟩)
  exact this.1
 |agg l=>obtain⟨us,e,h⟩:=h;exact⟨us,e,DenL.gxS g hm h⟩
theorem DenV.gxS(g:GxS S γ γ'){x:AV}(hm:z5r S x=true)(h:DenV γ x u):DenV γ' x u:=by
 cases x with
 |g x=>exact DenG.gxS g hm h
 |tup l=>
  obtain⟨us,e,h⟩:=h
  refine⟨us,e,?_⟩
  have:∀{l:List AG} {us:List Value},zs2 S l=true->All2 (DenG γ) l us->All2 (DenG γ') l us:=by
   intro l
   induction l with
   |nil=>intro us _ h;cases us with
    |nil=>trivial
    |cons _ _=>exact h.elim
   |cons x l ih=>
    intro us hm h
    cases us with
    |nil=>exact h.elim
    |cons u us=>
     simp only[zs2]at hm
     cases hx:z1l S x with
     |false=>rw[hx]at hm;cases hm
     |true=>rw[hx]at hm;exact⟨DenG.gxS g hx h.1,ih hm h.2⟩
  exact this hm h
 |nx b p c=>exact h
def zh5(ms S:List Nat):yl->yl
 |[]=>[]
 |(i,[],v)::e=>bif memN ms i then zh5 ms S e else(bif z5r S v then(i,[],v)::zh5 ms S e else zh5 ms S e)
 |(_,_::_,_)::e=>zh5 ms S e
theorem Wj{ms S:List Nat}{γ γ1:Gh}{a a1:Act}(g:GxS S γ γ1)(O:Same ms a a1):∀{e:yl},(∀x∈e,zl7 γ (zx a) x)->∀x∈zh5 ms S e,zl7 γ1 (zx a1) x
 |[],_,x,hx=>by cases hx
 |(i,[],v)::e,h,x,hx=>by
  have ih:=Wj g O (e:=e) λx hx=>h x (Ah _ hx)
  simp only[zh5]at hx
  cases hm:memN ms i with
  |true=>rw[hm]at hx;exact ih x hx
  |false=>
   rw[hm]at hx
   simp only[cond_false]at hx
   cases hn:z5r S v with
   |false=>rw[hn]at hx;exact ih x hx
   |true=>
    rw[hn]at hx
    rcases Ag.1 hx with rfl|hx
    ·refine⟨λ_=>?_,λZ=>absurd trivial Z⟩
     have:=(h _ Aq).1 trivial
     simp only at this ⊢
     rw[O _ (Zc hm)]
     exact this.gxS g hn
    ·exact ih x hx
 |(_,_::_,_)::e,h,x,hx=>Wj g O (e:=e) (λx hx=>h x (Ah _ hx)) x hx
def inC(ro:List Nat):CS->CS
 |[]=>[]
 |(c,k)::l=>bif memN ro c then(c,k)::inC ro l else inC ro l
def z5s(ro:List Nat):CS->CS
 |[]=>[]
 |(c,k)::l=>bif memN ro c then z5s ro l else(c,k)::z5s ro l
theorem zk8(ro:List Nat):∀C:CS,(z5s ro C++inC ro C).Perm C
 |[]=>.nil
 |(c,k)::l=>by
  have ih:=zk8 ro l
  simp only[inC,z5s]
  cases memN ro c with
  |true=>exact List.perm_middle.trans (ih.cons _)
  |false=>exact ih.cons _
theorem Inv.part(I:Inv h0 W M0 (C++R) γ h)(ro:List Nat):Inv h0 W M0 (z5s ro C++(inC ro C++R)) γ h:=by
 rw[<-AY]
 exact I.perm ((zk8 ro C).symm.append_right R)
abbrev zaw:=Exit->yl->CS->Prop
def z9q(K:yl->CS->Prop)(Q:zaw):zaw
 |.normal,e,C=>K e C
 |x,e,C=>Q x e C
def zxt(id:Nat)(Q:zaw):zaw
 |.exit i,e,C=>bif Nat.beq i id then Q .normal e C else Q (.exit i) e C
 |x,e,C=>Q x e C
def z3y(m:CS)(K:yl->CS->Prop)(Q:zaw):zaw
 |.normal,e,C=>K e C
 |x,e,C=>Q x e (C++m)
def zef(pl:PlanA):Code->List Nat
 |.region _ ops _=>jj ops.toList
 |.seq a b=>zef pl a++(zef pl b++(match z9p pl.joins (wq b)with
  |some J=>J.ids
  |none=>[]))
 |.cond _ a b=>zef pl a++zef pl b
 |.block _ b=>zef pl b
 |.loop b=>zef pl b++(match z9p pl.loops (wq b)with
  |some J=>J.ids
  |none=>[])
 |_=>[]
def atA{X:Type}(J:AnnA)(R:CS)(F:zuv (zbl J) X)(e:yl)(C:CS)(k:X->Prop):Prop:=
 match xtr J R e C with
 |some ds=>match zf4 (zbl J) ds F with
  |some q=>k q
  |none=>False
 |none=>False
theorem zq7{X:Type}{J:AnnA}{F:zuv (zbl J) X}{e:yl}{k:X->Prop}(h:atA J R F e C k):∃ds q,xtr J R e C=some ds/\zf4 (zbl J) ds F=some q/\k q:=by
 unfold atA at h
 split at h
 ·rename_i ds hd
  split at h
  ·rename_i q hq;exact⟨ds,q,hd,hq,h⟩
  ·exact h.elim
 ·exact h.elim
def WA(P:Program)(gl:Fr)(tr:TypeId)(n:Nat)(pl:PlanA):Code->CS->zaw->yl->CS->Prop
 |.skip,_,Q,e,C=>Q .normal e C
 |.ret,_,Q,e,C=>Q .ret e C
 |.exit id,_,Q,e,C=>Q (.exit id) e C
 |.label _,_,Q,e,C=>Q .normal e C
 |.goto l,_,Q,e,C=>Q (.goto l) e C
 |.region id ops draw,R,Q,e,C=>zq6 P gl tr n pl.tails pl.draws id ops draw R (λe C=>Q .normal e C) e C
 |.seq x y,R,Q,e,C=>match z9p pl.joins (wq y)with
  |none=>WA P gl tr n pl x R (z9q (λe C=>WA P gl tr n pl y R Q e C) Q) e C
  |some J=>∀K:zuv (zbl J) Prop,zxd (zbl J) K (λds q=>WA P gl tr n pl y R Q (z3v J ds++zh5 (Qw x) (J.ids++zef pl x) e) (chJ J ds++inC J.ro C)->q) ->
    WA P gl tr n pl x (inC J.ro C++R) (z3y (inC J.ro C) (λe1 C1=>atA J (inC J.ro C++R) K e1 C1 λq=>q) Q) e (z5s J.ro C)
 |.cond c x y,R,Q,e,C=>match zho e [] c with
  |some v=>match zuo v with
   |some b=>(b=true->WA P gl tr n pl x R Q e C)/\(b=false->WA P gl tr n pl y R Q e C)
   |none=>False
  |none=>False
 |.block id x,R,Q,e,C=>WA P gl tr n pl x R (zxt id Q) e C
 |.loop x,R,Q,e,C=>match z9p pl.loops (wq x)with
  |some J=>∃(I:zuv (zbl J) Prop) (μ:zuv (zbl J) Nat),atA J (inC J.ro C++R) (zov (zbl J) I μ) e (z5s J.ro C) (λp=>p.1) /\
    zxd (zbl J) (zov (zbl J) I μ) λds p=>p.1->WA P gl tr n pl x (inC J.ro C++R) (z3y (inC J.ro C) (λe1 C1=>atA J (inC J.ro C++R) (zov (zbl J) I μ) e1 C1 λq=>q.1/\q.2<p.2) Q)
     (z3v J ds++zh5 (Qw x) (J.ids++zef pl x) e) (chJ J ds)
  |none=>False
 |_,_,_,_,_=>False
def z9r(h0:zb)(W:Nat->Prop)(M0:Fr)(n:Nat)(B:World)(ms S:List Nat)(a0:Act)(γ0:Gh)(R:CS)(Q:zaw):Exit->Act->World->Prop:=
 λx a w=>∃e C γ d h,w=mk B d h/\SatA n e γ a/\Inv h0 W M0 (C++R) γ h/\Same ms a0 a/\GxS S γ0 γ/\Q x e C
theorem zu8{e:yl}{γ0 γ γ1:Gh}{a a1:Act}(hs:SatA n e γ0 a){ms S ids:List Nat}(hd:a1.defers=[])(hz:a1.tmps.size=n)(O:Same ms a a1)(g:GxS S γ0 γ)(g1:GxS ids γ γ1){J:AnnA}{ds:List Dy}
  (hf:∀x∈z3v J ds,zl7 γ1 (zx a1) x):SatA n (z3v J ds++zh5 ms (ids++S) e) γ1 a1:=by
 refine⟨hd,hz,λx hx=>?_⟩
 rcases Am.1 hx with hx|hx
 ·exact hf x hx
 ·exact Wj ((g.mono λx hx=>Ay _ hx).trans (g1.mono λx hx=>Ap _ hx)) O hs.all x hx
theorem z1m(hm:P.follows .mixedOrders=true){gl:Fr}(aB:Fr.le gl M0){tr:TypeId}{pl:PlanA}:∀(c:Code) (R:CS) (Q:zaw) (e:yl) (C:CS),WA P gl tr n pl c R Q e C ->
  ∀(γ:Gh) (h:zb) (B:World) (d:Nat) (a:Act),SatA n e γ a->Inv h0 W M0 (C++R) γ h->c.wp P (z9r h0 W M0 n B (Qw c) (zef pl c) a γ R Q) a (mk B d h):=by
 intro c
 induction c with
 |skip=>exact λR Q e C H γ h B d a hs I=>wp_skip ⟨e,C,γ,d,h,rfl,hs,I,Same.refl _ _,GxS.refl _ _,H⟩
 |ret=>exact λR Q e C H γ h B d a hs I=>wp_ret ⟨e,C,γ,d,h,rfl,hs,I,Same.refl _ _,GxS.refl _ _,H⟩
 |exit id=>exact λR Q e C H γ h B d a hs I=>wp_exit ⟨e,C,γ,d,h,rfl,hs,I,Same.refl _ _,GxS.refl _ _,H⟩
 |label l=>exact λR Q e C H γ h B d a hs I=>wp_label ⟨e,C,γ,d,h,rfl,hs,I,Same.refl _ _,GxS.refl _ _,H⟩
 |goto l=>exact λR Q e C H γ h B d a hs I=>wp_goto ⟨e,C,γ,d,h,rfl,hs,I,Same.refl _ _,GxS.refl _ _,H⟩
 |region id ops aF=>
  exact λR Q e C H γ h B d a hs I=>zmi hm aB H B d hs I λe' C' γ' a' d' h' q1 q2 q3 q4 q5=>⟨e',C',γ',d',h',rfl,q1,q2,q3,q4,q5⟩
 |seq x y aa Z=>
  intro R Q e C H γ h B d a hs I
  simp only[WA]at H
  have hl:∀i∈Qw x,i∈Qw (x.seq y):=λi hi=>Ap _ hi
  have hr:∀i∈Qw y,i∈Qw (x.seq y):=λi hi=>Ay _ hi
  have kl:∀i∈zef pl x,i∈zef pl (x.seq y):=λi hi=>Ap _ hi
  have kr:∀i∈zef pl y,i∈zef pl (x.seq y):=λi hi=>Ay _ (Ap _ hi)
  split at H
  ·refine wp_seq (wp_mono (aa _ _ _ _ H γ h B d a hs I) ?_)
   rintro ex a1 w1 ⟨e1,C1,γ1,d1,h1,rfl,s1,I1,m1,g1,q1⟩
   cases ex with
   |normal=>
    refine wp_mono (Z _ _ _ _ q1 γ1 h1 B d1 a1 s1 I1) ?_
    rintro ex a2 w2 ⟨e2,C2,γ2,d2,h2,rfl,s2,I2,m2,g2,q2⟩
    exact⟨e2,C2,γ2,d2,h2,rfl,s2,I2,(m1.mono hl).trans (m2.mono hr),(g1.mono kl).trans (g2.mono kr),q2⟩
   |_=>exact⟨e1,C1,γ1,d1,h1,rfl,s1,I1,m1.mono hl,g1.mono kl,q1⟩
  ·rename_i J hJ
   have kJ:∀i∈J.ids,i∈zef pl (x.seq y):=λi hi=>by
    simp only[zef,hJ]
    exact Ay _ (Ay _ hi)
   have H':=H (z9l (zbl J) λds=>WA P gl tr n pl y R Q (z3v J ds++zh5 (Qw x) (J.ids++zef pl x) e) (chJ J ds++inC J.ro C)) (zox λds hq=>hq)
   refine wp_seq (wp_mono (aa _ _ _ _ H' γ h B d a hs (I.part J.ro)) ?_)
   rintro ex a1 w1 ⟨e1,C1,γ1,d1,h1,rfl,s1,I1,m1,g1,q1⟩
   cases ex with
   |normal=>
    obtain⟨ds,q,hv,hq,hk⟩:=zq7 q1
    have an:=zow hq
    subst an
    obtain⟨az,af,ae,f1⟩:=zh1 hv s1 I1
    have aC:=zu8 hs s1.defers s1.size m1 g1 ae f1
    rw[<-AY]at af
    refine wp_mono (Z _ _ _ _ hk az h1 B d1 a1 aC af) ?_
    rintro ex a2 w2 ⟨e2,C2,γ2,d2,h2,rfl,s2,I2,m2,g2,q2⟩
    exact⟨e2,C2,γ2,d2,h2,rfl,s2,I2,(m1.mono hl).trans (m2.mono hr),((g1.mono kl).trans (ae.mono kJ)).trans (g2.mono kr),q2⟩
   |_=>exact⟨e1,C1++inC J.ro C,γ1,d1,h1,rfl,s1,by rw[AY];exact I1,m1.mono hl,g1.mono kl,q1⟩
 |cond c x y aa Z=>
  intro R Q e C H γ h B d a hs I
  simp only[WA]at H
  have hl:∀i∈Qw x,i∈Qw (Ej c x y):=λi hi=>Ap _ hi
  have hr:∀i∈Qw y,i∈Qw (Ej c x y):=λi hi=>Ay _ hi
  have kl:∀i∈zef pl x,i∈zef pl (Ej c x y):=λi hi=>Ap _ hi
  have kr:∀i∈zef pl y,i∈zef pl (Ej c x y):=λi hi=>Ay _ hi
  split at H
  ·rename_i v hv
   split at H
   ·rename_i b hb
    refine wp_cond_split (zhp hb (qe hs (c:=[]) trivial hv)) (λai=>?_) (λak=>?_)
    ·refine wp_mono (aa _ _ _ _ (H.1 ai) γ h B d a hs I) ?_
     rintro ex a2 w2 ⟨e2,C2,γ2,d2,h2,rfl,s2,I2,m2,g2,q2⟩
     exact⟨e2,C2,γ2,d2,h2,rfl,s2,I2,m2.mono hl,g2.mono kl,q2⟩
    ·refine wp_mono (Z _ _ _ _ (H.2 ak) γ h B d a hs I) ?_
     rintro ex a2 w2 ⟨e2,C2,γ2,d2,h2,rfl,s2,I2,m2,g2,q2⟩
     exact⟨e2,C2,γ2,d2,h2,rfl,s2,I2,m2.mono hr,g2.mono kr,q2⟩
   ·exact H.elim
  ·exact H.elim
 |block id x ih=>
  intro R Q e C H γ h B d a hs I
  refine wp_block (wp_mono (ih _ _ _ _ H γ h B d a hs I) ?_)
  rintro ex a1 w1 ⟨e1,C1,γ1,d1,h1,rfl,s1,I1,m1,g1,q1⟩
  cases ex with
  |exit i=>
   simp only[zxt]at q1
   simp only[Exit.inBlock]
   by_cases hb:Nat.beq i id=true
   ·rw[if_pos (Ak hb)]
    simp only[hb,cond_true]at q1
    exact⟨e1,C1,γ1,d1,h1,rfl,s1,I1,m1,g1,q1⟩
   ·rw[if_neg (λhe=>hb (by rw[he];simp))]
    simp only[hb,cond_false]at q1
    exact⟨e1,C1,γ1,d1,h1,rfl,s1,I1,m1,g1,q1⟩
  |_=>exact⟨e1,C1,γ1,d1,h1,rfl,s1,I1,m1,g1,q1⟩
 |loop x ih=>
  intro R Q e C H γ h B d a hs I
  simp only[WA]at H
  split at H
  ·rename_i J hJ
   have kx:∀i∈zef pl x,i∈zef pl (Code.loop x):=λi hi=>Ap _ hi
   have kJ:∀i∈J.ids,i∈zef pl (Code.loop x):=λi hi=>by
    simp only[zef,hJ]
    exact Ay _ hi
   have kS:∀i∈J.ids++zef pl x,i∈zef pl (Code.loop x):=λi hi=>by
    rcases Am.1 hi with hi|hi
    ·exact kJ i hi
    ·exact kx i hi
   obtain⟨Iv,μ,ax,ac⟩:=H
   obtain⟨ap,p0,au,ar,aA⟩:=zq7 ax
   obtain⟨γ0,I0,g0,f0⟩:=zh1 au hs (I.part J.ro)
   refine wp_loop_ghost (λm a1 w1=>∃d1 h1 γ1 ds p,w1=mk B d1 h1/\a1.defers=[]/\a1.tmps.size=n/\Same (Qw x) a a1/\GxS (J.ids++zef pl x) γ γ1/\Inv h0 W M0 (chJ J ds++(inC J.ro C++R)) γ1 h1/\(∀y∈z3v J ds,zl7 γ1 (zx a1) y) /\
     zf4 (zbl J) ds (zov (zbl J) Iv μ)=some p/\p.1/\p.2=m) p0.2 ⟨d,h,γ0,ap,p0,rfl,hs.defers,hs.size,Same.refl _ _,g0.mono λi hi=>Ap _ hi,I0,f0,ar,aA,rfl⟩ ?_
   rintro m a1 w1 ⟨d1,h1,γ1,ds,p,rfl,al,aj,O,g1,I1,f1,hp,aE,rfl⟩
   have s1:SatA n (z3v J ds++zh5 (Qw x) (J.ids++zef pl x) e) γ1 a1:=⟨al,aj,λy hy=>by
    rcases Am.1 hy with hy|hy
    ·exact f1 y hy
    ·exact Wj g1 O hs.all y hy⟩
   have hb:=zky hp ac aE
   refine wp_mono (ih _ _ _ _ hb γ1 h1 B d1 a1 s1 I1) ?_
   rintro ex a2 w2 ⟨e2,C2,γ2,d2,h2,rfl,s2,I2,m2,g2,q2⟩
   cases ex with
   |normal=>
    obtain⟨am,q,aD,hq,ah,ay⟩:=zq7 q2
    obtain⟨γ3,I3,g3,f3⟩:=zh1 aD s2 I2
    exact⟨q.2,ay,d2,h2,γ3,am,q,rfl,s2.defers,s2.size,O.trans m2,(g1.trans (g2.mono λi hi=>Ay _ hi)).trans (g3.mono λi hi=>Ap _ hi),I3,f3,hq,ah,rfl⟩
   |_=>exact⟨e2,C2++inC J.ro C,γ2,d2,h2,rfl,s2,by rw[AY];exact I2,O.trans m2,(g1.mono kS).trans (g2.mono kx),q2⟩
  ·exact H.elim
 |_=>exact λR Q e C H=>H.elim
def zq8:Nat->List Arg->yl
 |_,[]=>[]
 |i,a::l=>(i,[],.g (gOf a.t a.x))::zq8 (i+1) l
def zs3(e:yl)(i:Nat):Option AV:=match zl6 e i with
 |some ([],v)=>some v
 |_=>none
def z1n(P:Program)(cs:CS)(e:yl):List ResultVar->(List AV->Prop)->Prop
 |[],K=>K []
 |.tmp t::l,K=>match zs3 e t with
  |some v=>z1n P cs e l λvs=>K (v::vs)
  |none=>False
 |.cell a t::l,K=>match zs3 e a with
  |some (.g (.a aa))=>zup P cs t aa none λv=>z1n P cs e l λvs=>K (v::vs)
  |_=>False
def js(cs:CS):(l:List Ty)->List AV->Option (Els l)
 |[],[]=>some ()
 |[t],[v]=>zc3 cs t v
 |t::t'::l,v::vs=>match zc3 cs t v,js cs (t'::l) vs with
  |some x,some y=>some (x,y)
  |_,_=>none
 |_,_=>none
theorem zdd{γ:Gh}{cs:CS}(hf:z0m γ cs):∀{l:List Ty} {vs:List AV} {r:Els l} {us:List Value},js cs l vs=some r->All2 (DenV γ) vs us->RdL γ.M l r us
 |[],[],r,[],_,_=>rfl
 |[],[],_,_::_,_,h=>h.elim
 |[t],[v],r,[u],h,hd=>⟨u,rfl,zbf hf (by simpa[js]using h) hd.1⟩
 |[t],[v],_,[],_,h=>h.elim
 |[t],[v],_,_::_::_,_,h=>h.2.elim
 |t::t'::l,v::vs,r,[],_,h=>h.elim
 |t::t'::l,v::vs,r,u::us,h,hd=>by
  simp only[js]at h
  split at h
  ·rename_i x y h1 h2
   simp only[Ab]at h
   subst h
   exact⟨u,us,rfl,zbf hf h1 hd.1,zdd hf h2 hd.2⟩
  ·cases h
 |[],_::_,_,_,h,_=>by simp[js]at h
 |[t],[],_,_,h,_=>by simp[js]at h
 |[t],_::_::_,_,_,h,_=>by simp[js]at h
 |t::t'::l,[],_,_,h,_=>by simp[js]at h
def qbr(P:Program)(rs:List ResultVar)(rt:List Ty)(R:Els rt->Prop):zaw:=λx e C=>match x with
 |.normal=>z1n P C e rs λvs=>match js (frzL (Xf vs) C) rt vs with
  |some r=>R r
  |none=>False
 |.ret=>z1n P C e rs λvs=>match js (frzL (Xf vs) C) rt vs with
  |some r=>R r
  |none=>False
 |_=>False
theorem zev{P:Program}{n:Nat}{C:CS}{e:yl}{γ:Gh}{a:Act}{h:zb}(hs:SatA n e γ a)(I:Inv h0 W M0 C γ h):∀{l:List ResultVar} {K:List AV->Prop},z1n P C e l K->∃vs us,K vs/\All2 (DenV γ) vs us/\us.length=l.length/\QExec P (l.mapM (zhl a.tmps)) h us
 |[],K,H=>⟨[],[],H,trivial,rfl,λ_ _=>by simp⟩
 |.tmp t::l,K,H=>by
  simp only[z1n]at H
  split at H
  ·rename_i v hv
   obtain⟨vs,us,h1,h2,h3,h4⟩:=zev hs I H
   have hd:DenV γ v (zx a t):=by
    unfold zs3 at hv
    split at hv
    ·rename_i u hl
     simp only[Ab]at hv
     subst hv
     exact(hs.all _ (Qb hl)).1 trivial
    ·cases hv
   refine⟨v::vs,zx a t::us,h1,⟨hd,h2⟩,by simp[h3],?_⟩
   rw[Ec]
   exact QExec.bind (x:=zx a t) (QExec.pure _) (h4.bind (QExec.pure _))
  ·exact H.elim
 |.cell x t::l,K,H=>by
  simp only[z1n]at H
  split at H
  ·rename_i aa hp
   obtain⟨v,hK,hq⟩:=zhr (h0:=h0) (W:=W) (M0:=M0) H
   obtain⟨vs,us,h1,h2,h3,h4⟩:=zev hs I hK
   have hd:DenA γ aa (zx a x):=by
    unfold zs3 at hp
    split at hp
    ·rename_i u hl
     simp only[Ab]at hp
     subst hp
     exact(hs.all _ (Qb hl)).1 trivial
    ·cases hp
   obtain⟨u,hu,O⟩:=hq trivial γ h _ I hd
   refine⟨v::vs,u::us,h1,⟨hu,h2⟩,by simp[h3],?_⟩
   rw[Ec]
   refine QExec.bind (x:=u) ?_ (h4.bind (QExec.pure _))
   have ae:∃p,zx a x=.pointer (some p):=by
    have no:∀aa,(∀k,z08 C k aa=none)->(∀c z i o,aa≠.oelt c z i o)->DenA γ aa (zx a x)->zup P C t aa none (λv=>z1n P C e l λvs=>K (v::vs))->False:=by
     intro aa hn ac _ hl
     unfold zup at hl
     split at hl
     ·split at hl
      ·exact ac _ _ _ _ rfl
      ·rw[hn]at hl;exact hl
     ·exact hl
    cases aa with
    |box c o=>exact⟨_,hd⟩
    |oelt c z i o=>obtain⟨g,_,e⟩:=hd;exact⟨_,e⟩
    |elt t y o=>obtain⟨b,f,cs,e,_⟩:=hd;exact⟨_,e⟩
    |v y=>exact(no _ (λ_=>rfl) (by simp) hd H).elim
    |d t y=>exact(no _ (λ_=>rfl) (by simp) hd H).elim
    |own c=>exact(no _ (λ_=>rfl) (by simp) hd H).elim
    |dc t y=>exact(no _ (λ_=>rfl) (by simp) hd H).elim
   obtain⟨p,Z⟩:=ae
   rw[Z]at O
   have e3:a.tmps.getD x undef=.pointer (some p):=Z
   simp only[zhl,e3]
   exact O
  ·exact H.elim
theorem zo4{fn:Func}{rs:List ResultVar}(hr:fn.results.toList=rs){us:List Value}(hl:us.length=rs.length)(hq:QExec P (rs.mapM (zhl a.tmps)) h us):QExec P (results fn a.tmps) h (zjo us):=by
 intro B d
 have e0:results fn a.tmps=(fn.results.mapM (zhl a.tmps) >>= λvs=>Dg (if h:vs.size=1 then vs[0]else .tuple vs)):=by
  unfold results
  congr 1
 rw[e0,Array.mapM_eq_mapM_toList,hr,Sem.run_bind,Sem.run_map,hq B d]
 simp only[Result.andThen_ok,Sem.run_pure]
 match us,hl with
 |[],_=>rfl
 |[v],_=>rfl
 |v::u::vs,_=>simp[zjo]
theorem zh6{γ:Gh}{σ:Nat->Value}:∀{l:List Arg} {i:Nat} {us:List Value},Xe γ.M l us->(∀j v,us[j]?=some v->σ (i+j)=v)->∀x∈zq8 i l,zl7 γ σ x
 |[],_,_,_,_,x,hx=>by cases hx
 |a::l,i,[],h,_,x,hx=>h.elim
 |a::l,i,u::us,h,hσ,x,hx=>by
  simp only[zq8,Ag]at hx
  rcases hx with rfl|hx
  ·refine⟨λ_=>?_,λhn=>absurd trivial hn⟩
   have:=hσ 0 u rfl
   simp only at this ⊢
   rw[show σ i=u from this]
   exact zqu h.1
  ·exact zh6 h.2 (λj v hj=>by have:=hσ (j+1) v (by simpa using hj);rwa[show i+(j+1)=i+1+j by omega]at this) x hx
theorem zu9(hm:P.follows .mixedOrders=true)(gl:Fr)(tr:TypeId)(pl:PlanA)(args:List Arg){fn:Func}{rs:List ResultVar}{rt:List Ty}(hf:P.funcs[f]?=some fn)(hb:J8 fn=true)(hr:fn.results.toList=rs)(hn:fn.ntmps=n)
  (hz:Nat.ble args.length n=true) {R:Els rt->Prop} (H:WA P gl tr n pl (codeOf fn) [] (qbr P rs rt R) (zq8 0 args) []):PC P gl f args rt R:=by
 intro h M vs ai ah O B d
 subst hn
 have ae:fn.body=some (codeOf fn):=by
  unfold J8 at hb
  unfold codeOf
  split at hb
  ·rename_i c hc;rw[hc]
  ·cases hb
 refine calls_of_wp hf ae ?_
 have aa:vs.length=args.length:=(All2.length O).symm
 have aj:vs.length<=fn.ntmps:=by rw[aa];exact BE hz
 let γ:Gh:=⟨M,λ_=>0,λ_=>⟨none,0,0⟩⟩
 have I:Inv h (λ_=>False) M ([]++[]) γ h:={ ag:=ah,frame:=λ_ _ _=>rfl,size:=Ae _,old:=λ_ _=>rfl,le:=Fr.le.refl _,den:=λx hx=>(by cases hx),sep:=λx hx=>(by cases hx),apart:=List.Pairwise.nil }
 have hs:SatA fn.ntmps (zq8 0 args) γ { tmps:=vs.toArray++Bn (fn.ntmps-vs.toArray.size) undef,defers:=[] }:=by
  refine⟨rfl,by simp;omega,zh6 O λj v hj=>?_⟩
  have af:j<vs.length:=(Ax.1 hj).1
  simp only[AD,zx,Bo]
  rw[Cs (by simpa using af)]
  simp[hj]
 have Z:∀(e:yl) (C:CS) (γ':Gh) (h':zb) (a:Act),SatA fn.ntmps e γ' a->Inv h (λ_=>False) M (C++[]) γ' h'->(z1n P C e rs λvs=>match js (frzL (Xf vs) C) rt vs with|some r=>R r|none=>False) ->
   ∃v,QExec P (results fn a.tmps) h' v/\Keep h.size h h'/\∃M' r,Fr.le M M'/\(∀b,b<h.size->M' b=M b)/\AgM M' h'/\zht M' rt r v/\R r:=by
  intro e C γ' h' a s1 I1 q
  rw[Bc]at I1
  obtain⟨ac,us,hK,hd,hl,hq⟩:=zev s1 I1 q
  split at hK
  ·rename_i r hc
   obtain⟨γ2,I2,g2⟩:=Inv.frzL (C:=C) (R:=[]) (γ:=γ') (Xf ac) (by simpa using I1)
   rw[Bc]at I2
   refine⟨zjo us,zo4 hr hl hq,⟨I2.size,λi hi=>I2.frame i hi (λh=>h)⟩,γ2.M,r,I2.le,I2.old,I2.ag,⟨us,zdd I2.fz hc (hd.imp λv _ u hu=>hu.gx g2 rfl),rfl⟩,hK⟩
  ·exact hK.elim
 refine wp_mono (z1m hm ai _ _ _ _ _ H γ h B d _ hs I) ?_
 rintro ex a w ⟨e1,C1,γ1,d1,h1,rfl,s1,I1,m1,g1,q1⟩
 cases ex with
 |normal=>
  obtain⟨v,hq,k,rest⟩:=Z e1 C1 γ1 h1 a s1 I1 q1
  exact⟨s1.defers,v,hq B d1,v,d1,h1,rfl,rfl,k,rest⟩
 |ret=>
  obtain⟨v,hq,k,rest⟩:=Z e1 C1 γ1 h1 a s1 I1 q1
  exact⟨s1.defers,v,hq B d1,v,d1,h1,rfl,rfl,k,rest⟩
 |_=>exact q1.elim
theorem zva(hm:P.follows .mixedOrders=true)(gl:Fr)(tr:TypeId)(pl:PlanA)(args:List Arg){fn:Func}{rs:List ResultVar}{rt:List Ty}(hf:P.funcs[f]?=some fn)(hb:J8 fn=true)(hr:fn.results.toList=rs)(hn:fn.ntmps=n)
  (hz:Nat.ble args.length n=true) {R:Els rt->Prop} {F:Prop} (H:F) (e:F=WA P gl tr n pl (codeOf fn) [] (qbr P rs rt R) (zq8 0 args) []):PC P gl f args rt R:=
 zu9 hm gl tr pl args hf hb hr hn hz (e ▸ H)
end
end Go.X
end
section
namespace Go.X
open Go Go.RowKit
section
variable {P:Program} {f:FuncId} {h:zb} {M gl:Fr} {v:Value} {us:List Value}
theorem XC.of_calls{args:Array Value}{R:Value->zb->Prop}
  (H:∀B d,Calls P f args (mk B d h) λe w'=>∃v,e=.returned v/\w'.os=B.os/\w'.tape=B.tape/\w'.output=B.output/\R v w'.heap):XC P f args h R:=by
 intro B d
 refine(H B d).mono ?_
 rintro e w' ⟨v,rfl,h1,h2,h3,h4⟩
 refine⟨v,w'.drawn,w'.heap,rfl,?_,h4⟩
 cases w';simp only[mk]at *;subst h1;subst h2;subst h3;rfl
theorem AgM.keep{h h':zb}(ag:AgM M h)(k:Keep h.size h h'):AgM M h':=λb c e=>by
 obtain⟨T,m,e'⟩:=ag b c e
 exact⟨T,m,by rw[k.get b (ag.lt e)];exact e'⟩
def zvb:Arg->Option Value
 |⟨.int k,x⟩=>some (.int k x)
 |⟨.bool,x⟩=>some (.bool x)
 |⟨.str,x⟩=>some (.string x)
 |_=>none
def zft:List Arg->Option (List Value)
 |[]=>some []
 |a::l=>match zvb a,zft l with
  |some v,some vs=>some (v::vs)
  |_,_=>none
theorem z1o{a:Arg}{v u:Value}(h:zvb a=some v)(hd:RdV M a.t a.x u):u=v:=by
 obtain⟨t,x⟩:=a
 cases t with
 |int k=>simp only[zvb,Ab]at h;subst h;simpa[RdV,Rd,zcl]using hd
 |bool=>simp only[zvb,Ab]at h;subst h;simpa[RdV,Rd,zcl]using hd
 |str=>simp only[zvb,Ab]at h;subst h;simpa[RdV,Rd,zcl]using hd
 |_=>simp[zvb]at h
theorem zde{M:Fr}:∀{l:List Arg} {vs us:List Value},zft l=some vs->Xe M l us->us=vs
 |[],vs,us,h,hd=>by
  simp only[zft,Ab]at h;subst h
  cases us with
  |nil=>rfl
  |cons _ _=>exact hd.elim
 |a::l,vs,us,h,hd=>by
  simp only[zft]at h
  split at h
  ·rename_i v O h1 h2
   simp only[Ab]at h;subst h
   cases us with
   |nil=>exact hd.elim
   |cons u us=>rw[z1o h1 hd.1,zde h2 hd.2]
  ·cases h
theorem PC.of_scal{args:List Arg}{rt:List Ty}{R:Els rt->Prop}(Z:zft args=some us){r:Els rt}(hv:∀M,zht M rt r v)(hR:R r)
  (H:∀w:World,AgM gl w.heap->Calls P f us.toArray w λe w'=>e=.returned v/\Below w.heap.size w w'):PC P gl f args rt R:=by
 intro h M vs hM ag ha
 rw[zde Z ha]
 refine XC.of_calls λB d=>(H (mk B d h) λb c e=>ag b c (hM b c e)).mono ?_
 rintro e w' ⟨rfl,O⟩
 have k:Keep h.size h w'.heap:=⟨O.size,O.block⟩
 exact⟨v,rfl,O.os,O.tape,O.output,k,M,r,Fr.le.refl _,λ_ _=>rfl,ag.keep k,hv M,hR⟩
theorem PC.of_same{args:List Arg}{rt:List Ty}{R:Els rt->Prop}(O:zft args=some us){r:Els rt}(hv:∀M,zht M rt r v)(hR:R r)
  (H:∀w:World,AgM gl w.heap->Calls P f us.toArray w λe w'=>e=.returned v/\w'=w):PC P gl f args rt R:=
 PC.of_scal O hv hR λw hw=>(H w hw).mono λe w' ⟨h1,h2⟩=>⟨h1,h2 ▸ Below.refl _ _⟩
theorem zq9(k:IntKind)(i:Int):zht M [.int k] i (.int k i):=⟨[_],⟨_,rfl,rfl⟩,rfl⟩
theorem z1p(b:Bool):zht M [.bool] b (.bool b):=⟨[_],⟨_,rfl,rfl⟩,rfl⟩
theorem zh7(s:Bt):zht M [.str] s (.string s):=⟨[_],⟨_,rfl,rfl⟩,rfl⟩
theorem AgM.glob{w:World}(ag:AgM gl w.heap){b o:Nat}{cs:Array Value}(hb:gl b=some cs)(ho:cs[o]?=some v):w.cell? ⟨b,o,Option.none⟩=some v:=by
 obtain⟨T,m,e⟩:=ag b cs hb
 simp[World.cell?,e,ho]
theorem zfu{xs:List Bt}{cells:List Value}(H:RowC M .str xs cells):cells=xs.map A5:=by
 obtain⟨h1,h2⟩:=H
 simp only[sz,Cf]at h1 h2
 refine List.ext_getElem (by simp[h1]) λi hi hj=>?_
 have hx:i<xs.length:=by omega
 have:=h2 i hx
 have e:(cells.drop i).take 1=[cells[i]]:=by rw[AC hi];rfl
 rw[e]at this
 have:=show[cells[i]]=[A5 xs[i]]from this
 simpa using this
theorem PC.of_ex{args:List Arg}{rt:List Ty}{R:Els rt->Prop}(Z:zft args=some us)
  (H:∀w:World,AgM gl w.heap->Calls P f us.toArray w λe w'=>∃v r,e=.returned v/\(∀M,zht M rt r v)/\R r/\Below w.heap.size w w'):PC P gl f args rt R:=by
 intro h M vs hM ag ha
 rw[zde Z ha]
 refine XC.of_calls λB d=>(H (mk B d h) λb c e=>ag b c (hM b c e)).mono ?_
 rintro e w' ⟨v,r,rfl,hv,hR,O⟩
 have k:Keep h.size h w'.heap:=⟨O.size,O.block⟩
 exact⟨v,rfl,O.os,O.tape,O.output,k,M,r,Fr.le.refl _,λ_ _=>rfl,ag.keep k,hv M,hR⟩
end
section
variable {P:Program} {gl M:Fr} {f:FuncId} {h h':zb} {vs cs:List Value} {K:Value -> zb -> Prop} {t:Ty} {u v:Value} {i:Int} {k:Nat} {T:TypeId}
def PX(P:Program)(f:FuncId)(vs:Array Value)(h:zb)(M:Fr)(rt:List Ty)(R:Els rt->Prop):Prop:=
 XC P f vs h λv h'=>Keep h.size h h'/\∃M' r,Fr.le M M'/\(∀b,b<h.size->M' b=M b)/\AgM M' h'/\zht M' rt r v/\R r
theorem PC.px{args:List Arg}{rt:List Ty}{R:Els rt->Prop}(H:PC P gl f args rt R)(hM:Fr.le gl M)(ag:AgM M h)(ha:Xe M args vs):PX P f vs.toArray h M rt R:=H h M vs hM ag ha
structure Later (h:zb) (M:Fr) (h':zb) (M':Fr):Prop where
 keep:Keep h.size h h'
 le:Fr.le M M'
 old:∀b,b<h.size->M' b=M b
 ag:AgM M' h'
theorem Later.refl(ag:AgM M h):Later h M h M:=⟨Keep.refl _ _,Fr.le.refl _,λ_ _=>rfl,ag⟩
theorem Later.trans{h h' O:zb}{M M' M'':Fr}(a:Later h M h' M')(b:Later h' M' O M''):Later h M O M'':=
 ⟨a.keep.trans b.keep a.keep.size,a.le.trans b.le,λx hx=>(b.old x (by have:=a.keep.size;omega)).trans (a.old x hx),b.ag⟩
theorem Later.same(ag:AgM M h)(k:Keep h.size h h'):Later h M h' M:=⟨k,Fr.le.refl _,λ_ _=>rfl,ag.keep k⟩
theorem Later.push(ag:AgM M h)(o:Obj):Later h M (h.push o) M:=Later.same ag (Keep.push _ _ (Ae _))
theorem PX.go{vs:Array Value}{rt:List Ty}{R:Els rt->Prop}(H:PX P f vs h M rt R)(hK:∀v h' M' r,Later h M h' M'->zht M' rt r v->R r->K v h'):XC P f vs h K:=
 XC.mono H λv h' ⟨k,M',r,e1,e2,e3,e4,e5⟩=>hK v h' M' r ⟨k,e1,e2,e3⟩ e4 e5
theorem PX.of{vs:Array Value}{rt:List Ty}{R:Els rt->Prop}(H:XC P f vs h λv h'=>∃M' r,Later h M h' M'/\zht M' rt r v/\R r):PX P f vs h M rt R:=
 XC.mono H λv h' ⟨M',r,l,e4,e5⟩=>⟨l.keep,M',r,l.le,l.old,l.ag,e4,e5⟩
theorem PC.go{args:List Arg}{rt:List Ty}{R:Els rt->Prop}(H:PC P gl f args rt R)(hM:Fr.le gl M)(ag:AgM M h)(ha:Xe M args vs)
  (hK:∀v h' M' r,Later h M h' M'->zht M' rt r v->R r->K v h'):XC P f vs.toArray h K:=(H.px hM ag ha).go hK
theorem zjj{x:El t}(ht:zcl t=false):RdV M t x u↔Rd M t x [u]:=by unfold RdV;rw[ht];simp
theorem zax{x:El t}:zht M [t] x v↔RdV M t x v:=by
 constructor
 ·rintro⟨us,⟨u,rfl,h⟩,rfl⟩;exact h
 ·intro h;exact⟨[v],⟨v,rfl,h⟩,rfl⟩
theorem zay{b:Bool}(h:zht M [.bool] b v):v=.bool b:=by
 have:=zax.1 h
 rw[zjj rfl]at this
 simpa[Rd]using this
theorem z9s{k:IntKind}(h:zht M [.int k] i v):v=.int k i:=by
 have:=zax.1 h
 rw[zjj rfl]at this
 simpa[Rd]using this
theorem ww:Xe M [] []:=trivial
theorem yo{a:Arg}{l:List Arg}{us:List Value}(h:RdV M a.t a.x u)(hl:Xe M l us):Xe M (a::l) (u::us):=⟨h,hl⟩
theorem rdStr(s:Bt):RdV M .str s (.string s):=by rw[zjj rfl];rfl
theorem zxu(k:IntKind)(i:Int):RdV M (.int k) i (.int k i):=by rw[zjj rfl];rfl
theorem rdBool(b:Bool):RdV M .bool b (.bool b):=by rw[zjj rfl];rfl
theorem z1q{s:Bt}(h:RdV M .str s u):u=.string s:=by rw[zjj rfl]at h;simpa[Rd]using h
theorem zdf{k:IntKind}(h:RdV M (.int k) i u):u=.int k i:=by rw[zjj rfl]at h;simpa[Rd]using h
theorem yp{v:Tr}(h:RdV M .tree v u):∃sk si:Sl,u=.agg #[.int .i64 v.kind,.string v.text,slV sk,slV si]/\Rd M (.row .str) v.keys [slV sk]/\Rd M (.row .tree) v.items [slV si]:=by
 unfold RdV at h
 simp only[zcl,if_true]at h
 obtain⟨cs,rfl,hr⟩:=h
 obtain⟨vk,vi,rfl,h1,h2⟩:=TrRd.keys hr
 have Z:=h1;have O:=h2
 obtain⟨w1,e1,a1,c1,q1,_⟩:=Z
 obtain⟨w2,e2,a2,c2,q2,_⟩:=O
 simp only[Br,and_true]at e1 e2
 subst e1;subst e2;subst q1;subst q2
 exact⟨⟨a1,v.keys.length,c1⟩,⟨a2,v.items.length,c2⟩,rfl,h1,h2⟩
theorem yd{v:Tr}{sk si:Sl}(h1:Rd M (.row .str) v.keys [slV sk])(h2:Rd M (.row .tree) v.items [slV si]):RdV M .tree v (.agg #[.int .i64 v.kind,.string v.text,slV sk,slV si]):=by
 unfold RdV
 simp only[zcl,if_true]
 exact⟨[.int .i64 v.kind,.string v.text,slV sk,slV si],rfl,by cases v;exact TrRd.of h1 h2⟩
theorem zdg{xs:List (El t)}(h:RdV M (.row t) xs u):∃s:Sl,u=slV s/\Rd M (.row t) xs [slV s]:=by
 rw[zjj rfl]at h
 have h':=h
 obtain⟨w,e,a,c,q,_⟩:=h'
 simp only[Br,and_true]at e
 subst e;subst q
 exact⟨⟨a,xs.length,c⟩,rfl,h⟩
theorem rowLen{xs:List (El t)}{s:Sl}(h:Rd M (.row t) xs [slV s]):s.len=xs.length/\xs.length<=140737488355328/\xs.length<=s.cap:=by
 obtain⟨w,e,a,c,q,hn,_⟩:=h
 simp only[Br,and_true]at e
 subst e
 simp only[slV,AJ]at q
 obtain⟨_,h2,h3⟩:=q
 exact⟨h2,hn.1,by rw[h3];exact hn.2⟩
theorem rowAt{xs:List (El t)}{s:Sl}(h:Rd M (.row t) xs [slV s])(hk:k<xs.length):∃b o cs,s.a=some ⟨b,o,none⟩/\M b=some cs/\Rd M t xs[k] (cut cs (o+k*sz t) (sz t)):=by
 obtain⟨w,e,a,c,q,hn,hx⟩:=h
 simp only[Br,and_true]at e
 subst e
 simp only[slV,AJ]at q
 obtain⟨h1,h2,h3⟩:=q
 rcases hx with rfl|⟨b,o,cs,e1,e2,e3⟩
 ·simp at hk
 ·exact⟨b,o,cs,by rw[h1,e1],e2,e3 k hk⟩
theorem zxv{M:Fr}{h:zb}(ag:AgM M h){b:Nat}{cs:Array Value}(hM:M b=some cs):∀{vs:List Value} {o i:Nat},cut cs (o+i) vs.length=vs->ze h ⟨b,o,none⟩ i vs
 |[],_,_,_=>trivial
 |v::vs,o,i,e=>by
  unfold cut at e
  have O:o+i<cs.toList.length:=by
   rcases AX (o+i) cs.toList.length with hh|hh
   ·exact hh
   ·rw[A6 hh]at e;simp at e
  rw[AC O,AR,B4]at e
  injection e with e1 e2
  refine⟨?_,zxv ag hM (i:=i+1) e2⟩
  rw[zo]
  refine ag.cell hM ?_
  rw[AP (by simpa using O),<-e1];simp
theorem zxw(ag:AgM M h){b:Nat}{cs:Array Value}(hM:M b=some cs){o:Nat}(e:cut cs o 1=[v]):zm h ⟨b,o,none⟩=some v:=by
 have:=zxv (vs:=[v]) (o:=o) (i:=0) ag hM (by simpa using e)
 exact this.1
theorem z0q(b o n:Nat):(⟨b,o,none⟩:Addr).add n=⟨b,o+n,none⟩:=zo b o n
theorem zbo(ag:AgM M h){xs:List Bt}{s:Sl}(H:Rd M (.row .str) xs [slV s])(hk:k<xs.length)(hi:i=(k:Int)){L:Nat}(hL:L=s.len){Q:Bt->Prop}(hQ:Q xs[k]):
  ∃a:Addr,(s.a=some a/\0<=i/\i<(L:Int))/\∃x:Bt,zm h (a.add (i.toNat*1))=some (.string x)/\Q x:=by
 obtain⟨b,o,cs,e1,e2,e3⟩:=rowAt H hk
 have hl:=(rowLen H).1
 refine⟨_,⟨e1,by omega,by omega⟩,xs[k],?_,hQ⟩
 rw[z0q,hi,Ad]
 exact zxw ag e2 e3
theorem zfv(ag:AgM M h){xs:List Tr}{s:Sl}(H:Rd M (.row .tree) xs [slV s])(hk:k<xs.length):∃(a:Addr) (sk si:Sl),s.a=some a/\ze h (a.add (k*4)) 0 [.int .i64 xs[k].kind,.string xs[k].text,slV sk,slV si]/\Rd M (.row .str) xs[k].keys [slV sk]/\Rd M (.row .tree) xs[k].items [slV si]:=by
 obtain⟨b,o,cs,e1,e2,e3⟩:=rowAt H hk
 have e4:RdV M .tree xs[k] (.agg (cut cs (o+k*sz .tree) (sz .tree)).toArray):=by
  unfold RdV;simp only[zcl,if_true];exact⟨_,rfl,e3⟩
 obtain⟨sk,si,q,h1,h2⟩:=yp e4
 refine⟨_,sk,si,e1,?_,h1,h2⟩
 rw[z0q]
 refine zxv ag e2 (i:=0) ?_
 have:(cut cs (o+k*sz .tree) (sz .tree))=[.int .i64 xs[k].kind,.string xs[k].text,slV sk,slV si]:=by
  injection q with q
  exact congrArg CH q
 exact this
def Mx(M:Fr)(b:Nat)(cs:Array Value):Fr:=λi=>if i=b then some cs else M i
theorem Later.frz(ag:AgM M h)(cs:Array Value)(T:TypeId):Later h M (h.push (.cells cs T)) (Mx M h.size cs) where
 keep:=Keep.push _ _ (Ae _)
 le:=λb c e=>by
  have:=ag.lt e
  unfold Mx;rw[if_neg (by omega)];exact e
 old:=λb hb=>by unfold Mx;rw[if_neg (by omega)]
 ag:=λb c e=>by
  unfold Mx at e
  split at e
  ·rename_i hb
   subst hb
   cases e
   exact⟨T,(0,0),wu _ _⟩
  ·obtain⟨T',m,e'⟩:=ag b c e
   exact⟨T',m,by rw[(Keep.push h _ (Ae _)).get b (ag.lt e)];exact e'⟩
theorem zxx(M:Fr)(b:Nat)(cs:Array Value):Mx M b cs b=some cs:=by unfold Mx;rw[if_pos rfl]
theorem z1r(k:Keep (h.size+1) (h.push (.cells cs.toArray T)) h'):ze h' ⟨h.size,0,none⟩ 0 cs:=
 ((Blk.new h cs.toArray T).keep (k.get _ (by omega))).ld
theorem z5t(k:Keep (h.size+1) (h.push (.cells cs.toArray T)) h'){i:Nat}(hv:cs[i]?=some v):zm h' ((⟨h.size,0,none⟩:Addr).add i)=some v:=by
 have:=((Blk.new h cs.toArray T).keep (k.get _ (by omega)))
 exact this.cellAdd (o:=0) (by simpa using hv)
end
end Go.X
end
section
namespace Go.X
open Go Go.ChangeShapes Go.WideShapes Go.RowKit
set_option linter.unusedVariables false
section
variable {a:Addr} {v:Value} {cs:List Value} {fuel:Nat} {t e:TypeId} {T:Ty} {P:Program} {M:Fr}
def Fz(W:World):Fr:=λb=>match W.heap[b]? with|some (.cells cs _ _)=>some cs|_=>none
theorem Fz.ag(W:World):AgM (Fz W) W.heap:=by
 intro b c e
 unfold Fz at e
 split at e
 ·rename_i cs T m hh;cases e;exact⟨T,m,hh⟩
 ·cases e
theorem Fz.cell{W:World}(h:W.cell? a=some v):∃b o c,a=⟨b,o,none⟩/\Fz W b=some c/\c[o]?=some v:=by
 obtain⟨b,o,sp⟩:=a
 unfold World.cell? at h
 split at h
 ·rename_i c T m hh
  cases sp with
  |some x=>simp at h
  |none=>
   refine⟨b,o,c,rfl,?_,by simpa using h⟩
   unfold Fz
   change W.heap[b]?=_ at hh
   rw[hh]
 ·cases h
theorem Fz.cells{W:World}{n:Nat}(h:W.cells? 0 a n=some cs)(hn:0<n):∃b o c,a=⟨b,o,none⟩/\Fz W b=some c/\cut c o n=cs:=by
 obtain⟨_,hl,hc⟩:=World.cells?_some h
 have h0:=hc 0 hn
 rw[Aj (by omega)]at h0
 obtain⟨b,o,c,e,hb,_⟩:=Fz.cell h0
 obtain⟨ab,ao,sp⟩:=a
 rw[show Af ⟨ab,ao,sp⟩ 0=⟨ab,ao,sp⟩from rfl]at e
 cases e
 refine⟨b,o,c,rfl,hb,?_⟩
 have O:∀i,i<n->c[o+i]?=cs[i]?:=λi hi=>by
  have h1:=hc i hi
  rw[Aj (by omega)]at h1 ⊢
  obtain⟨b2,o2,c2,e2,Z,h2⟩:=Fz.cell h1
  rw[zo]at e2
  cases e2
  rw[hb]at Z;cases Z
  exact h2
 unfold cut
 apply Bb
 intro i
 by_cases hi:i<n
 ·rw[AF,if_pos hi,AH,<-O i hi];simp
 ·rw[AF,if_neg hi,Bu (by omega)]
theorem z5u{α:Type}{Q:Nat->α->Prop}(n:Nat)(h:∀i,i<n->∃z,Q i z):∃xs:List α,xs.length=n/\∀i (hi:i<xs.length),Q i xs[i]:=by
 refine⟨List.ofFn λi:Fin n=>Classical.choose (h i i.2),by simp,λi hi=>?_⟩
 rw[List.getElem_ofFn]
 exact Classical.choose_spec (h i (by simpa using hi))
section
variable {H : Type} {enc : TypeId × Value -> H} {P : Program} {W : World} {sp : Nat -> Bool} {held : Bool}
def zh8(P:Program)(t:TypeId)(d:DataW H):Prop:=∀n∈d.weights P t,n<=reachBytes
theorem zh9{e:TypeId}{y:DataW H}:∀{l:List (DataW H)},y∈l->∀n∈y.weights P e,n∈DataW.weightsAll P e l
 |x::l,hy,n,hn=>by
  unfold DataW.weightsAll
  rcases Ag.1 hy with rfl|hy
  ·exact Ap _ hn
  ·exact Ay _ (zh9 hy n hn)
theorem zxy{x : DataW H × List MemPlace}(ht : P.underlying t = some (.slice e))(hz : P.cellsOf e = sz T)(hp : 0 < sz T)(hby : 0 < P.bytesOf e)
    (hel : ∀ n, n < fuel -> ∀ cs y, DataW.trod enc P W 0 sp held n e cs = some y -> zh8 P e y.1 -> ∃ z : El T, Rd (Fz W) T z cs)
    (h : DataW.trod enc P W 0 sp held fuel t cs = some x) (hw : zh8 P t x.1) : ∃ xs : List (El T), Rd (Fz W) (.row T) xs cs := by
  rcases DataW.trod_slice ht h with ⟨rfl, _⟩ | ⟨a, len, cap, elems, rest, n, rfl, rfl, hx, _, hlc, hcap, hlen, hi, _, _⟩
  · exact ⟨[], _, rfl, none, 0, rfl, ⟨by simp, by simp⟩, .inl rfl⟩
  · have hwt : ∀ m, m = (elems.length + rest.length) * P.bytesOf e \/ m ∈ DataW.weightsAll P e (elems.map (·.1)) -> m <= reachBytes := λm hm => hw m (by
      rw [hx]
      unfold DataW.weights
      rw [ht]
      simp only [Ag, Am, Dw]
      rcases hm with hm | hm
      · exact .inl hm
      · exact .inr (.inl hm))
    have hmax : len <= 140737488355328 := by
      have h1 := hwt _ (.inl rfl)
      have h2 : elems.length + rest.length <= (elems.length + rest.length) * P.bytesOf e := Dj _ hby
      have h3 : reachBytes <= 140737488355328 := by decide
      omega
    have key : ∀ i, i < len -> ∃ z : El T, ∃ b o c, a.add (i * sz T) = ⟨b, o, none⟩ /\ Fz W b = some c /\ Rd (Fz W) T z (cut c o (sz T)) := λi hil => by
      have h1 := hi i hil
      rw [Aj (by omega), Option.bind_eq_some_iff] at h1
      obtain ⟨cc, h2, h3⟩ := h1
      rw [hz] at h2
      obtain ⟨b, o, c, e1, e2, e3⟩ := Fz.cells h2 hp
      obtain ⟨z, hz⟩ := hel n (by omega) _ _ h3 λm hm => hwt m (.inr (zh9 (BR.2 ⟨elems[i], Ao (by omega), rfl⟩) m hm))
      exact ⟨z, b, o, c, e1, e2, by rw [e3]; exact hz⟩
    obtain ⟨xs, hxl, hxs⟩ := z5u len key
    subst hxl
    refine ⟨xs, _, rfl, some a, cap, rfl, ⟨by omega, hlc⟩, ?_⟩
    by_cases h0 : xs.length = 0
    · exact .inl (Az h0)
    · obtain ⟨b, o, c, e1, e2, _⟩ := hxs 0 (by omega)
      obtain ⟨ab, ao, asp⟩ := a
      rw [Da, show Af ⟨ab, ao, asp⟩ 0 = ⟨ab, ao, asp⟩ from rfl] at e1
      cases e1
      refine .inr ⟨b, o, c, rfl, e2, λi hil => ?_⟩
      obtain ⟨b', o', c', e1', e2', e3'⟩ := hxs i hil
      rw [zo] at e1'
      cases e1'
      rw [e2] at e2'; cases e2'
      simpa using e3'
theorem zxz{x:DataW H×List MemPlace}(ht:P.underlying t=some .string)(h:DataW.trod enc P W 0 sp held fuel t cs=some x):∃s:El .str,Rd (Fz W) .str s cs:=by
 obtain⟨s,rfl,_,_⟩:=DataW.trod_string ht h
 exact⟨s,rfl⟩
theorem z9t{k:IntKind}{x:DataW H×List MemPlace}(ht:P.underlying t=some (.int k))(h:DataW.trod enc P W 0 sp held fuel t cs=some x):∃s:El (.int k),Rd (Fz W) (.int k) s cs:=by
 obtain⟨s,rfl,_,_⟩:=DataW.trod_int ht h
 exact⟨s,rfl⟩
theorem zx0{x:DataW H×List MemPlace}(ht:P.underlying t=some (.slice e))(he:P.underlying e=some .string)(hc:P.cellsOf e=1)(O:0<P.bytesOf e)
  (h:DataW.trod enc P W 0 sp held fuel t cs=some x) (hw:zh8 P t x.1):∃xs:List ByteArray,Rd (Fz W) (.row .str) xs cs:=
 zxy (T:=.str) ht hc (by decide) O (λn _ cs y hy _=>zxz he hy) h hw
theorem four{a b c d:Value}(hl:cs.length=4)(h0:(cs.drop 0).take 1=[a])(h1:(cs.drop 1).take 1=[b])(h2:(cs.drop 2).take 1=[c])(h3:(cs.drop 3).take 1=[d]):cs=[a,b,c,d]:=by
 match cs,hl with
 |[w,x,y,z],_=>
  simp at h0 h1 h2 h3
  subst h0;subst h1;subst h2;subst h3;rfl
theorem z5v{tv ts tss tvs tk:TypeId}{f0 f1 f2 f3:Field}(hu:P.underlying tv=some (.struct #[f0,f1,f2,f3]))(hc:P.cellsOf tv=4)
  (t0:f0.type=tk/\f0.offset=0/\f1.type=ts/\f1.offset=1/\f2.type=tss/\f2.offset=2/\f3.type=tvs/\f3.offset=3)
  (uk:P.underlying tk=some (.int .i64)) (us:P.underlying ts=some .string) (af:P.underlying tss=some (.slice ts)) (aa:P.underlying tvs=some (.slice tv))
  (ck:P.cellsOf tk=1) (cs':P.cellsOf ts=1) (ah:P.cellsOf tss=1) (ai:P.cellsOf tvs=1) (bs:0<P.bytesOf ts) (bv:0<P.bytesOf tv):
  ∀(fuel:Nat) (cs:List Value) (x:DataW H×List MemPlace),DataW.trod enc P W 0 sp held fuel tv cs=some x->zh8 P tv x.1->∃t:Tr,Rd (Fz W) .tree t cs:=by
 intro fuel
 induction fuel using Nat.strongRecOn with
 |_ fuel ih=>
  intro cs x h hw
  obtain⟨xs,n,rfl,hx,hl,ac,O⟩:=DataW.trod_struct hu h
  have Z:∀(j:Nat) (f:Field) (hj:j<xs.length),(#[f0,f1,f2,f3]:Array Field)[j]?=some f->zh8 P f.type (xs[j]).1:=λj f hj hf m hm=>hw m (by
   rw[hx]
   unfold DataW.weights
   rw[hu]
   exact DataW.weights_mem_each (j:=j) (t:=f.type) (d:=(xs[j]).1) (by rw[B5,AN,hf];rfl) (by rw[B5,Aj hj];rfl) m hm)
  obtain⟨a0,o0,a1,o1,a2,o2,a3,o3⟩:=t0
  have g0:=O 0 f0 rfl
  have g1:=O 1 f1 rfl
  have g2:=O 2 f2 rfl
  have g3:=O 3 f3 rfl
  have aj:xs.length=4:=ac
  rw[a0,o0,ck,Aj (by omega)]at g0
  rw[a1,o1,cs',Aj (by omega)]at g1
  rw[a2,o2,ah,Aj (by omega)]at g2
  rw[a3,o3,ai,Aj (by omega)]at g3
  obtain⟨k,e0⟩:=z9t uk g0
  obtain⟨s,e1⟩:=zxz us g1
  obtain⟨ks,e2⟩:=zx0 af us cs' bs g2 (by have:=Z 2 f2 (by omega) rfl;rw[a2]at this;exact this)
  obtain⟨is,e3⟩:=zxy (T:=.tree) aa hc (by decide) bv (λm hm cs y hy ae=>ih m (by omega) cs y hy ae) g3 (by have:=Z 3 f3 (by omega) rfl;rw[a3]at this;exact this)
  obtain⟨vk,q2,h2⟩:=e2
  obtain⟨vi,q3,h3⟩:=e3
  have:=four (hl.trans hc) e0 e1 q2 q3
  subst this
  exact⟨.mk k s ks is,TrRd.of ⟨vk,rfl,h2⟩ ⟨vi,rfl,h3⟩⟩
end
theorem zra{f:FuncId}{W:World}{args:List Arg}{vs:Array Value}(H:PC P (Fz W) f args [.bool] (λr=>r=true))(ha:Xe (Fz W) args vs.toList):
  Calls P f vs W λe w'=>e=.returned (.bool true)/\Below W.heap.size W w':=by
 have H':=H W.heap (Fz W) vs.toList (Fr.le.refl _) (Fz.ag W) ha
 rw[Array.toArray_toList]at H'
 refine(H' W W.drawn).mono ?_
 rintro e w' ⟨v,d',h',rfl,rfl,k,M',r,_,_,_,hr,O⟩
 have O:r=true:=O
 subst O
 rw[zay hr]
 exact⟨rfl,rfl,rfl,rfl,k.size,k.get⟩
theorem z5w{xs:List (El T)}(h:Rd M (.row T) xs [v]):RdV M (.row T) xs v:=by rw[zjj rfl];exact h
theorem z1s{t:Tr}{cs:Array Value}(h:Rd M .tree t cs.toList):RdV M .tree t (.agg cs):=by
 unfold RdV;simp only[zcl,if_true];exact⟨cs.toList,by simp,h⟩
theorem Fz.var{W:World}{n:String}{g:Nat}{cs:Array Value}(hg:P.globalNamed n=some g)(h:W.var? P n=some cs):Fz W g=some cs:=by
 unfold World.var? at h
 rw[hg]at h
 exact h
end
end Go.X
end
section
namespace Go.Proofs
section
theorem Tryz.mixed:AK.follows .mixedOrders=true:=by kernel_rfl
noncomputable abbrev Tp:= AK
end
end Go.Proofs
end
section
namespace Go.X
section
theorem PF{gl:Fr}{args:List Arg}{f:FuncId}{fn:Func}{rt:List Ty}{R:Els rt->Prop}{F:Prop}(pl:PlanA)(rs:List ResultVar)(n:Nat)(hf:AK.funcs[f]?=some fn)(H:F)(hb:J8 fn=true:=by kernel_rfl)(hr:fn.results.toList=rs:=by kernel_rfl)(hn:fn.ntmps=n:=by kernel_rfl)(hz:Nat.ble args.length n=true:=by kernel_rfl)(e:F=WA Tp gl 25 n pl (codeOf fn) [] (qbr Tp rs rt R) (zq8 0 args) []:=by kernel_rfl):PC Tp gl f args rt R:=zva Tryz.mixed gl 25 pl args hf hb hr hn hz H e
theorem zbp(gl:Fr)(l0:List Bt)(R:Bool->Prop)
  (H:∃(a:Int->Prop) (b:Int->Nat),a 0/\∀c:Int,a c->(((bif (decide (c<l0.length))then(decide (c<300))else false)=true->∃d,(0<=c/\l0[c.toNat]?=some d)/\(decide ((d.size:Int)>1024)=true->R false)/\(decide ((d.size:Int)>1024)=false->(a (Aa .i64 (c+1))/\b (Aa .i64 (c+1))<b c)))/\((bif (decide (c<l0.length))then(decide (c<300))else false)=false->R (decide ((l0.length:Int)<=200))))):
  PC Tp gl 19 [Arg.mk (.row .str) l0] [.bool] R:=
 PF ⟨[],[],[(2,⟨[(3,.one (.dat (.int .i64)))],[],[],[100192]⟩)],[]⟩ [.tmp 2] 23 Tryz.func19 H
theorem zdh(gl:Fr)(a0:List Bt)(b1:List Bt)(R:Bool->Prop)
  (H:PC Tp gl 95 [Arg.mk (.row .str) a0,Arg.mk (.row .str) b1] [.int .i64] (λa:Int=>R (a==0))):
  PC Tp gl 55 [Arg.mk (.row .str) a0,Arg.mk (.row .str) b1] [.bool] R:=
 PF ⟨[],[],[],[]⟩ [.tmp 4] 9 Tryz.func55 H
theorem zew(gl:Fr)(v0:Tr)(O:Int)(R:Bool->Prop)
  (H:PC Tp gl 30 [Arg.mk .tree (Tr.mk v0.kind v0.text v0.keys v0.items),Arg.mk (.int .i64) O,Arg.mk (.int .i64) 0] [.int .i64] (λa:Int=>∃b:Bool->Prop,(decide (a>=0)=true->PC Tp gl 31 [Arg.mk .tree (Tr.mk v0.kind v0.text v0.keys v0.items)] [.bool] b)/\∀c:Bool,(decide (a>=0)=true->b c)->R (bif (decide (a>=0))then c else false))):
  PC Tp gl 10 [Arg.mk .tree v0,Arg.mk (.int .i64) O] [.bool] R:=
 PF ⟨[],[],[],[]⟩ [.tmp 4] 15 Tryz.func10 H
theorem zia(gl:Fr)(v0:Tr)(O:List Bt)(R:(Tr×Bool)->Prop)
  (H:PC Tp gl 42 [Arg.mk .tree (Tr.mk v0.kind v0.text v0.keys v0.items)] [.bool] (λa:Bool=>∃b:Bool->Prop,((!(!a))=true->PC Tp gl 37 [Arg.mk (.row .str) O] [.bool] b)/\∀c:Bool,((!(!a))=true->b c)->((bif (!a)then true else(!c))=true->R (Tr.mk 0 (⟨#[]⟩:Bt) [] [],false))/\((bif (!a)then true else(!c))=false->PC Tp gl 43 [Arg.mk .tree (Tr.mk v0.kind v0.text v0.keys v0.items),Arg.mk (.row .str) O] [.row (.int .i64),.tree,.bool] (λd:(List Int)×Tr×Bool=>((!d.2.2)=true->R (Tr.mk 0 (⟨#[]⟩:Bt) [] [],false))/\((!d.2.2)=false->PC Tp gl 32 [Arg.mk .tree (Tr.mk d.2.1.kind d.2.1.text d.2.1.keys d.2.1.items)] [.tree] (λe:Tr=>R (Tr.mk e.kind e.text e.keys e.items,true))))))):
  PC Tp gl 20 [Arg.mk .tree v0,Arg.mk (.row .str) O] [.tree,.bool] R:=
 PF ⟨[],[],[],[]⟩ [.cell 4 25,.tmp 5] 30 Tryz.func20 H
theorem zbq(gl:Fr)(a0:Tr)(b1:Tr)(R:Bool->Prop)
  (H:((bif (bif (bif (a0.kind != b1.kind)then true else(!(a0.text.toList==b1.text.toList)))then true else((a0.keys.length:Int) != (b1.keys.length:Int)))then true else((a0.items.length:Int) != (b1.items.length:Int)))=true->R false)/\((bif (bif (bif (a0.kind != b1.kind)then true else(!(a0.text.toList==b1.text.toList)))then true else((a0.keys.length:Int) != (b1.keys.length:Int)))then true else((a0.items.length:Int) != (b1.items.length:Int)))=false->∃(a:Int->Prop) (b:Int->Nat),a 0/\∀c:Int,a c->((decide (c<a0.keys.length)=true->∃d,(0<=c/\a0.keys[c.toNat]?=some d)/\∃e,(0<=c/\b1.keys[c.toNat]?=some e)/\((!(d.toList==e.toList))=true->R false)/\((!(d.toList==e.toList))=false->(a (Aa .i64 (c+1))/\b (Aa .i64 (c+1))<b c)))/\(decide (c<a0.keys.length)=false->∃(f:Int->Prop) (g:Int->Nat),f 0/\∀i:Int,f i->((decide (i<a0.items.length)=true->∃j,(0<=i/\a0.items[i.toNat]?=some j)/\∃k,(0<=i/\b1.items[i.toNat]?=some k)/\PC Tp gl 15 [Arg.mk .tree (Tr.mk j.kind j.text j.keys j.items),Arg.mk .tree (Tr.mk k.kind k.text k.keys k.items)] [.bool] (λl:Bool=>((!l)=true->R false)/\((!l)=false->(f (Aa .i64 (i+1))/\g (Aa .i64 (i+1))<g i))))/\(decide (i<a0.items.length)=false->R true)))))):
  PC Tp gl 15 [Arg.mk .tree a0,Arg.mk .tree b1] [.bool] R:=
 PF ⟨[(11,10)],[],[(4,⟨[(5,.one (.dat (.int .i64)))],[],[2,3],[100320]⟩),(9,⟨[(6,.one (.dat (.int .i64)))],[],[2,3],[100384]⟩)],[]⟩ [.tmp 4] 76 Tryz.func15 H
theorem zbr(gl:Fr)(v0:Tr)(R:Tr->Prop)
  (H:((Bm ([]:List Bt)+v0.keys.length)*16<=140737488355328/\∃(a:Int->Int->Bt->(List Bt)->(List Tr)->Int->Bt->(List Bt)->(List Tr)->Prop) (b:Int->Int->Bt->(List Bt)->(List Tr)->Int->Bt->(List Bt)->(List Tr)->Nat),a 0 0 (⟨#[]⟩:Bt) [] [] v0.kind v0.text ([]++v0.keys) []/\∀c ai:Int,∀ae:Bt,∀ah:List Bt,∀af:List Tr,∀Z:Int,∀aa:Bt,∀ac:List Bt,∀O:List Tr,a c ai ae ah af Z aa ac O->((decide (c<v0.items.length)=true->∃d,(0<=c/\v0.items[c.toNat]?=some d)/\PC Tp gl 12 [Arg.mk .tree (Tr.mk d.kind d.text d.keys d.items)] [.tree] (λe:Tr=>((O.length+Bm ([Tr.mk e.kind e.text e.keys e.items]:List Tr))*72<=140737488355328/\(a (Aa .i64 (c+1)) ai ae ah af Z aa ac (O++[Tr.mk e.kind e.text e.keys e.items])/\b (Aa .i64 (c+1)) ai ae ah af Z aa ac (O++[Tr.mk e.kind e.text e.keys e.items])<b c ai ae ah af Z aa ac O))))/\(decide (c<v0.items.length)=false->R (Tr.mk Z aa ac O))))):
  PC Tp gl 12 [Arg.mk .tree v0] [.tree] R:=
 PF ⟨[],[(1,10,[],[0,1,2,3,4,5,6,9,7,8],[]),(5,9,[],[0,1,2,3,4,5,6,7,8],[])],[(3,⟨[(4,.one (.dat (.int .i64)))],[(2,[.dat (.int .i64),.dat .str,.own 9 .str,.own 25 .tree]),(3,[.dat (.int .i64),.dat .str,.dat (.row .str),.own 25 .tree])],[1],[100256,1000128,1000129,1000130,1000131,1000192,1000193,1000194,1000195]⟩)],[]⟩ [.cell 2 25] 33 Tryz.func12 H
theorem zdi(gl:Fr)(v0:Tr)(ae:List Bt)(R:(Tr×Bool)->Prop)
  (H:PC Tp gl 107 [Arg.mk .tree (Tr.mk v0.kind v0.text v0.keys v0.items)] [.bool] (λa:Bool=>PC Tp gl 40 [Arg.mk (.row .str) ae] [.bool] (λb:Bool=>((bif (!a)then true else(!b))=true->R (Tr.mk 0 (⟨#[]⟩:Bt) [] [],false))/\((bif (!a)then true else(!b))=false->∃(c:Int->Int->Bt->(List Bt)->(List Tr)->Int->Bt->(List Bt)->(List Tr)->Prop) (d:Int->Int->Bt->(List Bt)->(List Tr)->Int->Bt->(List Bt)->(List Tr)->Nat),c 0 v0.kind v0.text v0.keys v0.items 0 (⟨#[]⟩:Bt) [] []/\∀e ai:Int,∀ah:Bt,∀aj:List Bt,∀af:List Tr,∀aa:Int,∀ac:Bt,∀Z:List Bt,∀O:List Tr,c e ai ah aj af aa ac Z O->((decide (e<ae.length)=true->∃f,(0<=e/\ae[e.toNat]?=some f)/\PC Tp gl 108 [Arg.mk .tree (Tr.mk ai ah aj af),Arg.mk .str f] [.int .i64] (λg:Int=>(decide (g<0)=true->R (Tr.mk 0 (⟨#[]⟩:Bt) [] [],false))/\(decide (g<0)=false->∃i,(0<=g/\af[g.toNat]?=some i)/\(c (Aa .i64 (e+1)) i.kind i.text i.keys i.items aa ac Z O/\d (Aa .i64 (e+1)) i.kind i.text i.keys i.items aa ac Z O<d e ai ah aj af aa ac Z O))))/\(decide (e<ae.length)=false->PC Tp gl 12 [Arg.mk .tree (Tr.mk ai ah aj af)] [.tree] (λj:Tr=>R (Tr.mk j.kind j.text j.keys j.items,true)))))))):
  PC Tp gl 68 [Arg.mk .tree v0,Arg.mk (.row .str) ae] [.tree,.bool] R:=
 PF ⟨[(8,5)],[],[(6,⟨[(8,.one (.dat (.int .i64)))],[(2,[.dat (.int .i64),.dat .str,.dat (.row .str),.dat (.row .tree)]),(4,[.dat (.int .i64),.dat .str,.own 9 .str,.own 25 .tree])],[],[100512,1000128,1000129,1000130,1000131,1000256,1000257,1000258,1000259]⟩)],[]⟩ [.cell 4 25,.tmp 5] 43 Tryz.func68 H
theorem zf6(gl:Fr)(O:Bt)(R:(Int×Bool)->Prop)
  (H:(((!(bif (O.toList==(⟨#[]⟩:Bt).toList)then true else(decide ((O.size:Int)>9))))&&(!(O.toList==(⟨#[48]⟩:Bt).toList)))=true->(0<=(0:Int)/\(0:Int)<(O.size:Int)))/\∃a:Bool->Prop,((!(bif (bif (O.toList==(⟨#[]⟩:Bt).toList)then true else(decide ((O.size:Int)>9)))then true else(bif (!(O.toList==(⟨#[48]⟩:Bt).toList))then((zd O (0:Int).toNat:Int)==48)else false)))=true->PC Tp gl 172 [Arg.mk .str O,Arg.mk .str (⟨#[43,45,95]⟩:Bt)] [.bool] a)/\∀b:Bool,((!(bif (bif (O.toList==(⟨#[]⟩:Bt).toList)then true else(decide ((O.size:Int)>9)))then true else(bif (!(O.toList==(⟨#[48]⟩:Bt).toList))then((zd O (0:Int).toNat:Int)==48)else false)))=true->a b)->((bif (bif (bif (O.toList==(⟨#[]⟩:Bt).toList)then true else(decide ((O.size:Int)>9)))then true else(bif (!(O.toList==(⟨#[48]⟩:Bt).toList))then((zd O (0:Int).toNat:Int)==48)else false))then true else b)=true->R (0,false))/\((bif (bif (bif (O.toList==(⟨#[]⟩:Bt).toList)then true else(decide ((O.size:Int)>9)))then true else(bif (!(O.toList==(⟨#[48]⟩:Bt).toList))then((zd O (0:Int).toNat:Int)==48)else false))then true else b)=false->PC Tp gl 173 [Arg.mk .str O] [.int .i64,.err] (λc:Int×Bool=>((!c.2)=true->R (0,false))/\((!c.2)=false->R (c.1,true))))):
  PC Tp gl 145 [Arg.mk .str O] [.int .i64,.bool] R:=
 PF ⟨[],[],[],[]⟩ [.tmp 2,.tmp 3] 34 Tryz.func145 H
theorem zbs(gl:Fr)(O:Bt)(R:(Int×Bool)->Prop)
  (H:(((!(bif (decide ((O.size:Int)<1))then true else(decide ((O.size:Int)>9))))&&(decide ((O.size:Int)>1)))=true->(0<=(0:Int)/\(0:Int)<(O.size:Int)))/\((bif (bif (decide ((O.size:Int)<1))then true else(decide ((O.size:Int)>9)))then true else(bif (decide ((O.size:Int)>1))then((zd O (0:Int).toNat:Int)==48)else false))=true->R (0,false))/\((bif (bif (decide ((O.size:Int)<1))then true else(decide ((O.size:Int)>9)))then true else(bif (decide ((O.size:Int)>1))then((zd O (0:Int).toNat:Int)==48)else false))=false->∃(a:Int->Int->Prop) (b:Int->Int->Nat),a 0 0/\∀c d:Int,a c d->((decide (d<O.size)=true->(0<=d/\d<O.size)/\((!(decide ((zd O d.toNat:Int)<48)))=true->(0<=d/\d<O.size))/\((bif (decide ((zd O d.toNat:Int)<48))then true else(decide ((zd O d.toNat:Int)>57)))=true->R (0,false))/\((bif (decide ((zd O d.toNat:Int)<48))then true else(decide ((zd O d.toNat:Int)>57)))=false->(0<=d/\d<O.size)/\(a (Aa .i64 ((Aa .i64 (10*c))+(Aa .i64 (Aa .u8 ((zd O d.toNat)-48))))) (Aa .i64 (d+1))/\b (Aa .i64 ((Aa .i64 (10*c))+(Aa .i64 (Aa .u8 ((zd O d.toNat)-48))))) (Aa .i64 (d+1))<b c d)))/\(decide (d<O.size)=false->R (c,true))))):
  PC Tp gl 109 [Arg.mk .str O] [.int .i64,.bool] R:=
 PF ⟨[],[],[(5,⟨[(4,.one (.dat (.int .i64))),(5,.one (.dat (.int .i64)))],[],[],[100256,100320]⟩)],[]⟩ [.tmp 2,.tmp 3] 49 Tryz.func109 H
theorem zbt(gl:Fr)(O:List Bt)(R:Bool->Prop)
  (H:∃(a:Int->Prop) (b:Int->Nat),a 0/\∀c:Int,a c->((decide (c<O.length)=true->∃d,(0<=c/\O[c.toNat]?=some d)/\PC Tp gl 76 [Arg.mk .str d] [.int .i64,.bool] (λe:Int×Bool=>((!e.2)=true->R false)/\((!e.2)=false->(a (Aa .i64 (c+1))/\b (Aa .i64 (c+1))<b c))))/\(decide (c<O.length)=false->R (decide ((O.length:Int)<=64))))):
  PC Tp gl 40 [Arg.mk (.row .str) O] [.bool] R:=
 PF ⟨[],[],[(2,⟨[(3,.one (.dat (.int .i64)))],[],[],[100192]⟩)],[]⟩ [.tmp 2] 25 Tryz.func40 H
theorem Xj(gl:Fr)(a0:List Bt)(b1:List Bt)(R:Int->Prop)
  (H:∃(a:Int->Prop) (b:Int->Nat),a 0/\∀c:Int,a c->(((bif (decide (c<a0.length))then(decide (c<b1.length))else false)=true->∃d,(0<=c/\a0[c.toNat]?=some d)/\∃e,(0<=c/\b1[c.toNat]?=some e)/\((CZ d.toList e.toList)=true->R (-1))/\((CZ d.toList e.toList)=false->∃f,(0<=c/\a0[c.toNat]?=some f)/\∃g,(0<=c/\b1[c.toNat]?=some g)/\((!(CZ f.toList g.toList||(f.toList==g.toList)))=true->R 1)/\((!(CZ f.toList g.toList||(f.toList==g.toList)))=false->(a (Aa .i64 (c+1))/\b (Aa .i64 (c+1))<b c))))/\((bif (decide (c<a0.length))then(decide (c<b1.length))else false)=false->(decide ((a0.length:Int)<(b1.length:Int))=true->R (-1))/\(decide ((a0.length:Int)<(b1.length:Int))=false->(decide ((a0.length:Int)>(b1.length:Int))=true->R 1)/\(decide ((a0.length:Int)>(b1.length:Int))=false->R 0))))):
  PC Tp gl 95 [Arg.mk (.row .str) a0,Arg.mk (.row .str) b1] [.int .i64] R:=
 PF ⟨[],[],[(2,⟨[(5,.one (.dat (.int .i64)))],[],[],[100320]⟩)],[]⟩ [.tmp 4] 46 Tryz.func95 H
theorem zex(gl:Fr)(O:List Bt)(l1:List Tr)(R:Tr->Prop)
  (H:R (Tr.mk 6 (⟨#[]⟩:Bt) O l1)):
  PC Tp gl 28 [Arg.mk (.row .str) O,Arg.mk (.row .tree) l1] [.tree] R:=
 PF ⟨[],[],[],[]⟩ [.cell 4 25] 8 Tryz.func28 H
theorem zey(gl:Fr)(l0:List Tr)(R:Tr->Prop)
  (H:R (Tr.mk 5 (⟨#[]⟩:Bt) [] l0)):
  PC Tp gl 29 [Arg.mk (.row .tree) l0] [.tree] R:=
 PF ⟨[],[],[],[]⟩ [.cell 2 25] 5 Tryz.func29 H
theorem zo5(gl:Fr)(n0:Int)(R:Tr->Prop)
  (H:PC Tp gl 57 [Arg.mk (.int .i64) n0] [.pair .bool (.pair .str (.int .i64))] (λa:Bool×Bt×Int=>PC Tp gl 56 [Arg.mk (.pair .bool (.pair .str (.int .i64))) (a.1,(a.2.1,a.2.2))] [.str] (λb:Bt=>R (Tr.mk 3 b [] [])))):
  PC Tp gl 27 [Arg.mk (.int .i64) n0] [.tree] R:=
 PF ⟨[],[],[],[]⟩ [.cell 2 25] 7 Tryz.func27 H
theorem zf7(gl:Fr)(s0:Bt)(R:Bool->Prop)
  (H:PC Tp gl 113 [Arg.mk .str s0] [.int .i64,.bool] (λa:Int×Bool=>R a.2)):
  PC Tp gl 75 [Arg.mk .str s0] [.bool] R:=
 PF ⟨[],[],[],[]⟩ [.tmp 2] 11 Tryz.func75 H
theorem zez(gl:Fr)(v0:Tr)(Z:Int)(O:Int)(R:Int->Prop)
  (H:(decide (O>60)=true->R (-1))/\(decide (O>60)=false->∃(a:Int->Int->Prop) (b:Int->Int->Nat),a (Aa .i64 ((Aa .i64 (Z-1))-(v0.keys.length:Int))) 0/\∀c d:Int,a c d->(((bif (decide (d<v0.items.length))then(decide (c>=0))else false)=true->∃e,(0<=d/\v0.items[d.toNat]?=some e)/\PC Tp gl 30 [Arg.mk .tree (Tr.mk e.kind e.text e.keys e.items),Arg.mk (.int .i64) c,Arg.mk (.int .i64) (Aa .i64 (O+1))] [.int .i64] (λf:Int=>(a f (Aa .i64 (d+1))/\b f (Aa .i64 (d+1))<b c d)))/\((bif (decide (d<v0.items.length))then(decide (c>=0))else false)=false->R c)))):
  PC Tp gl 30 [Arg.mk .tree v0,Arg.mk (.int .i64) Z,Arg.mk (.int .i64) O] [.int .i64] R:=
 PF ⟨[],[],[(5,⟨[(1,.one (.dat (.int .i64))),(7,.one (.dat (.int .i64)))],[],[3],[100064,100448]⟩)],[]⟩ [.tmp 6] 37 Tryz.func30 H
theorem zbu(gl:Fr)(v0:Tr)(R:Bool->Prop)
  (H:(decide ((v0.text.size:Int)>2048)=true->R false)/\(decide ((v0.text.size:Int)>2048)=false->∃(a:Int->Prop) (b:Int->Nat),a 0/\∀c:Int,a c->((decide (c<v0.keys.length)=true->∃d,(0<=c/\v0.keys[c.toNat]?=some d)/\(decide ((d.size:Int)>1024)=true->R false)/\(decide ((d.size:Int)>1024)=false->(a (Aa .i64 (c+1))/\b (Aa .i64 (c+1))<b c)))/\(decide (c<v0.keys.length)=false->∃(e:Int->Prop) (f:Int->Nat),e 0/\∀g:Int,e g->((decide (g<v0.items.length)=true->∃i,(0<=g/\v0.items[g.toNat]?=some i)/\PC Tp gl 31 [Arg.mk .tree (Tr.mk i.kind i.text i.keys i.items)] [.bool] (λj:Bool=>((!j)=true->R false)/\((!j)=false->(e (Aa .i64 (g+1))/\f (Aa .i64 (g+1))<f g))))/\(decide (g<v0.items.length)=false->R true)))))):
  PC Tp gl 31 [Arg.mk .tree v0] [.bool] R:=
 PF ⟨[],[],[(4,⟨[(3,.one (.dat (.int .i64)))],[],[1],[100192]⟩),(9,⟨[(4,.one (.dat (.int .i64)))],[],[1],[100256]⟩)],[]⟩ [.tmp 2] 39 Tryz.func31 H
theorem zdj(gl:Fr)(v0:Tr)(R:Bool->Prop)
  (H:PC Tp gl 65 [Arg.mk .tree (Tr.mk v0.kind v0.text v0.keys v0.items)] [.int .i64] (λa:Int=>∃b:Int->Prop,(decide (a<=4096)=true->PC Tp gl 66 [Arg.mk .tree (Tr.mk v0.kind v0.text v0.keys v0.items)] [.int .i64] b)/\∀c:Int,(decide (a<=4096)=true->b c)->∃d:Bool->Prop,((bif (decide (a<=4096))then(decide (c<=32))else false)=true->PC Tp gl 67 [Arg.mk .tree (Tr.mk v0.kind v0.text v0.keys v0.items),Arg.mk .bool true] [.bool] d)/\∀e:Bool,((bif (decide (a<=4096))then(decide (c<=32))else false)=true->d e)->R (bif (bif (decide (a<=4096))then(decide (c<=32))else false)then e else false))):
  PC Tp gl 107 [Arg.mk .tree v0] [.bool] R:=
 PF ⟨[],[],[],[]⟩ [.tmp 2] 15 Tryz.func107 H
theorem zdk(gl:Fr)(v0:Tr)(O:Bt)(R:Int->Prop)
  (H:∀a:Prop,((PC Tp gl 109 [Arg.mk .str O] [.int .i64,.bool] (λb:Int×Bool=>((bif (bif (v0.kind==5)then b.2 else false)then(decide (b.1<v0.items.length))else false)=true->R b.1)/\((bif (bif (v0.kind==5)then b.2 else false)then(decide (b.1<v0.items.length))else false)=false->R (-1))))->a)->((v0.kind==6)=true->∃(c:Int->Prop) (d:Int->Nat),c 0/\∀e:Int,c e->((decide (e<v0.keys.length)=true->∃f,(0<=e/\v0.keys[e.toNat]?=some f)/\((f.toList==O.toList)=true->R e)/\((f.toList==O.toList)=false->(c (Aa .i64 (e+1))/\d (Aa .i64 (e+1))<d e)))/\(decide (e<v0.keys.length)=false->a)))/\((v0.kind==6)=false->a)):
  PC Tp gl 108 [Arg.mk .tree v0,Arg.mk .str O] [.int .i64] R:=
 PF ⟨[],[],[(3,⟨[(5,.one (.dat (.int .i64)))],[],[],[100320]⟩)],[(7,⟨[],[],[2],[]⟩)]⟩ [.tmp 4] 45 Tryz.func108 H
theorem zbv(gl:Fr)(s0:Bt)(R:(Int×Bool)->Prop)
  (H:∃(a:Int->Prop) (b:Int->Nat),a 0/\∀c:Int,a c->((decide (c<s0.size)=true->PC Tp gl 114 [Arg.mk .str s0,Arg.mk (.int .i64) c] [.bool] (λd:Bool=>((!d)=true->R (c,false))/\((!d)=false->PC Tp gl 115 [Arg.mk .str s0,Arg.mk (.int .i64) c] [.int .i32,.int .i64] (λe:Int×Int=>(a (Aa .i64 (c+e.2))/\b (Aa .i64 (c+e.2))<b c)))))/\(decide (c<s0.size)=false->R ((s0.size:Int),true)))):
  PC Tp gl 76 [Arg.mk .str s0] [.int .i64,.bool] R:=
 PF ⟨[],[],[(2,⟨[(4,.one (.dat (.int .i64)))],[],[],[100256]⟩)],[]⟩ [.tmp 2,.tmp 3] 29 Tryz.func76 H
theorem zjs(gl:Fr)(n0:Bool×Bt×Int)(R:Bt->Prop)
  (H:PC Tp gl 96 [Arg.mk (.pair .bool (.pair .str (.int .i64))) (n0.1,(n0.2.1,n0.2.2))] [.bool] (λa:Bool=>((!a)=true->R (⟨#[]⟩:Bt))/\((!a)=false->((n0.2.1.toList==(⟨#[]⟩:Bt).toList)=true->R (⟨#[48]⟩:Bt))/\((n0.2.1.toList==(⟨#[]⟩:Bt).toList)=false->∀b:Bt->Prop,(∀c:Bt,(((n0.2.2 != 0)=true->PC Tp gl 97 [Arg.mk (.int .i64) n0.2.2] [.str] (λd:Bt=>Zm (((⟨#[101]⟩:Bt)).size+d.size)/\Zm (c.size+((⟨#[101]⟩:Bt)++d).size)/\R (c++((⟨#[101]⟩:Bt)++d))))/\((n0.2.2 != 0)=false->R c))->b c)->(n0.1=true->Zm (((⟨#[45]⟩:Bt)).size+n0.2.1.size)/\b ((⟨#[45]⟩:Bt)++n0.2.1))/\(n0.1=false->b n0.2.1))))):
  PC Tp gl 56 [Arg.mk (.pair .bool (.pair .str (.int .i64))) n0] [.str] R:=
 PF ⟨[],[],[],[(8,⟨[(3,.one (.dat .str))],[],[1],[100192]⟩)]⟩ [.tmp 2] 26 Tryz.func56 H
theorem zo6(gl:Fr)(n0:Int)(R:(Bool×Bt×Int)->Prop)
  (H:PC Tp gl 97 [Arg.mk (.int .i64) n0] [.str] (λa:Bt=>PC Tp gl 98 [Arg.mk .str a] [.pair .bool (.pair .str (.int .i64)),.int .i64] (λb:(Bool×Bt×Int)×Int=>R (b.1.1,(b.1.2.1,b.1.2.2))))):
  PC Tp gl 57 [Arg.mk (.int .i64) n0] [.pair .bool (.pair .str (.int .i64))] R:=
 PF ⟨[],[],[],[]⟩ [.cell 2 78] 12 Tryz.func57 H
theorem zjt(gl:Fr)(s0:Bt)(R:(Int×Bool)->Prop)
  (H:PC Tp gl 141 [Arg.mk .str s0] [.bool] (λa:Bool=>(a=true->R ((s0.size:Int),true))/\(a=false->∃(b:(Bt×Nat)->Prop) (c:(Bt×Nat)->Nat),b (s0,0)/\∀O:Bt×Nat,b O->(((nxB O.1 O.2)=true->(nxB O.1 O.2)=true/\(nxB O.1 O.2)=true/\(((nxR O.1 O.2:Int) != 65533)=true->(b (O.1,nxP O.1 O.2)/\c (O.1,nxP O.1 O.2)<c O))/\(((nxR O.1 O.2:Int) != 65533)=false->(0<=(O.2:Int)/\(O.2:Int)<=(s0.size:Int)/\(s0.size:Int)<=(s0.size:Int))/\PC Tp gl 142 [Arg.mk .str (s0.extract (O.2:Int).toNat (s0.size:Int).toNat)] [.int .i32,.int .i64] (λd:Int×Int=>((d.2==1)=true->R ((O.2:Int),false))/\((d.2==1)=false->(b (O.1,nxP O.1 O.2)/\c (O.1,nxP O.1 O.2)<c O)))))/\((nxB O.1 O.2)=false->R ((s0.size:Int),true)))))):
  PC Tp gl 113 [Arg.mk .str s0] [.int .i64,.bool] R:=
 PF ⟨[],[],[(4,⟨[],[(13,[.dat .iter])],[],[1000832]⟩)],[]⟩ [.tmp 2,.tmp 3] 32 Tryz.func113 H
theorem zju(gl:Fr)(v0:Tr)(R:Bool->Prop)
  (H:PC Tp gl 78 [Arg.mk .tree (Tr.mk v0.kind v0.text v0.keys v0.items)] [.int .i64] (λa:Int=>∃b:Int->Prop,(decide (a<=4096)=true->PC Tp gl 79 [Arg.mk .tree (Tr.mk v0.kind v0.text v0.keys v0.items)] [.int .i64] b)/\∀c:Int,(decide (a<=4096)=true->b c)->R (bif (decide (a<=4096))then(decide (c<=32))else false))):
  PC Tp gl 44 [Arg.mk .tree v0] [.bool] R:=
 PF ⟨[],[],[],[]⟩ [.tmp 2] 11 Tryz.func44 H
theorem zmj(gl:Fr)(v0:Tr)(R:Bool->Prop)
  (H:((v0.kind==5)=true->R (bif (!(decide ((v0.keys.length:Int)>0)))then(v0.text.toList==(⟨#[]⟩:Bt).toList)else false))/\((v0.kind==5)=false->((v0.kind==6)=true->PC Tp gl 82 [Arg.mk (.row .str) v0.keys,Arg.mk (.int .i64) (v0.items.length:Int)] [.bool] (λa:Bool=>R (bif a then(v0.text.toList==(⟨#[]⟩:Bt).toList)else false)))/\((v0.kind==6)=false->((bif (decide ((v0.keys.length:Int)>0))then true else(decide ((v0.items.length:Int)>0)))=true->R false)/\((bif (decide ((v0.keys.length:Int)>0))then true else(decide ((v0.items.length:Int)>0)))=false->((v0.kind==1)=true->R (v0.text.toList==(⟨#[]⟩:Bt).toList))/\((v0.kind==1)=false->((v0.kind==2)=true->R (bif (v0.text.toList==(⟨#[116,114,117,101]⟩:Bt).toList)then true else(v0.text.toList==(⟨#[102,97,108,115,101]⟩:Bt).toList)))/\((v0.kind==2)=false->((v0.kind==3)=true->PC Tp gl 83 [Arg.mk .str v0.text] [.pair .bool (.pair .str (.int .i64)),.bool] (λb:(Bool×Bt×Int)×Bool=>R b.2))/\((v0.kind==3)=false->((v0.kind==4)=true->PC Tp gl 84 [Arg.mk .str v0.text] [.bool] (λc:Bool=>R c))/\((v0.kind==4)=false->((v0.kind==7)=true->PC Tp gl 85 [Arg.mk .str v0.text] [.bool] (λd:Bool=>R d))/\((v0.kind==7)=false->R false))))))))):
  PC Tp gl 47 [Arg.mk .tree v0] [.bool] R:=
 PF ⟨[],[],[],[]⟩ [.tmp 2] 79 Tryz.func47 H
theorem zdl(gl:Fr)(v0:Tr)(R:Int->Prop)
  (H:∃(a:Int->Int->Prop) (b:Int->Int->Nat),a 1 0/\∀c d:Int,a c d->((decide (d<v0.items.length)=true->∃e,(0<=d/\v0.items[d.toNat]?=some e)/\PC Tp gl 65 [Arg.mk .tree (Tr.mk e.kind e.text e.keys e.items)] [.int .i64] (λf:Int=>(a (Aa .i64 (c+f)) (Aa .i64 (d+1))/\b (Aa .i64 (c+f)) (Aa .i64 (d+1))<b c d)))/\(decide (d<v0.items.length)=false->R c))):
  PC Tp gl 65 [Arg.mk .tree v0] [.int .i64] R:=
 PF ⟨[],[],[(3,⟨[(3,.one (.dat (.int .i64))),(4,.one (.dat (.int .i64)))],[],[1],[100192,100256]⟩)],[]⟩ [.tmp 2] 21 Tryz.func65 H
theorem zbw(gl:Fr)(v0:Tr)(R:Int->Prop)
  (H:∃(a:Int->Int->Prop) (b:Int->Int->Nat),a 0 0/\∀c d:Int,a c d->((decide (d<v0.items.length)=true->∃e,(0<=d/\v0.items[d.toNat]?=some e)/\PC Tp gl 66 [Arg.mk .tree (Tr.mk e.kind e.text e.keys e.items)] [.int .i64] (λf:Int=>(a (if c<f then f else c) (Aa .i64 (d+1))/\b (if c<f then f else c) (Aa .i64 (d+1))<b c d)))/\(decide (d<v0.items.length)=false->R (Aa .i64 (c+1))))):
  PC Tp gl 66 [Arg.mk .tree v0] [.int .i64] R:=
 PF ⟨[],[],[(3,⟨[(3,.one (.dat (.int .i64))),(4,.one (.dat (.int .i64)))],[],[1],[100192,100256]⟩)],[]⟩ [.tmp 2] 22 Tryz.func66 H
theorem zbx(gl:Fr)(v0:Tr)(O:Bool)(R:Bool->Prop)
  (H:PC Tp gl 106 [Arg.mk .tree (Tr.mk v0.kind v0.text v0.keys v0.items)] [.bool] (λa:Bool=>((bif (!a)then true else(bif (v0.kind==7)then(!O)else false))=true->R false)/\((bif (!a)then true else(bif (v0.kind==7)then(!O)else false))=false->∃(b:Int->Prop) (c:Int->Nat),b 0/\∀d:Int,b d->((decide (d<v0.items.length)=true->∃e,(0<=d/\v0.items[d.toNat]?=some e)/\PC Tp gl 67 [Arg.mk .tree (Tr.mk e.kind e.text e.keys e.items),Arg.mk .bool O] [.bool] (λf:Bool=>((!f)=true->R false)/\((!f)=false->(b (Aa .i64 (d+1))/\c (Aa .i64 (d+1))<c d))))/\(decide (d<v0.items.length)=false->R true))))):
  PC Tp gl 67 [Arg.mk .tree v0,Arg.mk .bool O] [.bool] R:=
 PF ⟨[],[],[(5,⟨[(6,.one (.dat (.int .i64)))],[],[2],[100384]⟩)],[]⟩ [.tmp 4] 37 Tryz.func67 H
theorem zdm(gl:Fr)(s0:Bt)(O:Int)(R:Bool->Prop)
  (H:PC Tp gl 115 [Arg.mk .str s0,Arg.mk (.int .i64) O] [.int .i32,.int .i64] (λa:Int×Int=>R (bif (decide (a.2>0))then(!(bif (a.1==65533)then(a.2==1)else false))else false))):
  PC Tp gl 114 [Arg.mk .str s0,Arg.mk (.int .i64) O] [.bool] R:=
 PF ⟨[],[],[],[]⟩ [.tmp 4] 24 Tryz.func114 H
theorem zdn(gl:Fr)(s0:Bt)(O:Int)(R:(Int×Int)->Prop)
  (H:((bif (decide (O<0))then true else(decide (O>=s0.size)))=true->R (0,0))/\((bif (decide (O<0))then true else(decide (O>=s0.size)))=false->(0<=O/\O<s0.size)/\PC Tp gl 143 [Arg.mk (.int .i64) (Aa .i64 (zd s0 O.toNat))] [.int .i64] (λa:Int=>((bif (a==0)then true else(decide (a>(Aa .i64 ((s0.size:Int)-O)))))=true->R (65533,1))/\((bif (a==0)then true else(decide (a>(Aa .i64 ((s0.size:Int)-O)))))=false->(0<=O/\O<s0.size)/\∀b:Int->Prop,(∀c:Int,(∀d:Int->Prop,(∀e:Int,(∀f:Int->Prop,(∀g:Int,(∃(i:Int->Int->Prop) (j:Int->Int->Nat),i g 1/\∀k l:Int,i k l->((decide (l<a)=true->(0<=(Aa .i64 (O+l))/\(Aa .i64 (O+l))<(s0.size:Int))/\((bif (decide ((Aa .i64 (zd s0 (Aa .i64 (O+l):Int).toNat))<128))then true else(decide ((Aa .i64 (zd s0 (Aa .i64 (O+l):Int).toNat))>191)))=true->R (65533,1))/\((bif (decide ((Aa .i64 (zd s0 (Aa .i64 (O+l):Int).toNat))<128))then true else(decide ((Aa .i64 (zd s0 (Aa .i64 (O+l):Int).toNat))>191)))=false->(i (Aa .i64 ((Aa .i64 ((Aa .i64 (64*k))+(Aa .i64 (zd s0 (Aa .i64 (O+l)).toNat))))-128)) (Aa .i64 (l+1))/\j (Aa .i64 ((Aa .i64 ((Aa .i64 (64*k))+(Aa .i64 (zd s0 (Aa .i64 (O+l)).toNat))))-128)) (Aa .i64 (l+1))<j k l)))/\(decide (l<a)=false->((bif (bif (bif (bif (a==3)then(decide (k<2048))else false)then true else(bif (a==4)then(decide (k<65536))else false))then true else(decide (k>1114111)))then true else(bif (decide (k>=55296))then(decide (k<57344))else false))=true->R (65533,1))/\((bif (bif (bif (bif (a==3)then(decide (k<2048))else false)then true else(bif (a==4)then(decide (k<65536))else false))then true else(decide (k>1114111)))then true else(bif (decide (k>=55296))then(decide (k<57344))else false))=false->R (Aa .i32 k,a)))))->f g)->((a==4)=true->f (Aa .i64 (e-240)))/\((a==4)=false->f e))->d e)->((a==3)=true->d (Aa .i64 (c-224)))/\((a==3)=false->d c))->b c)->((a==2)=true->b (Aa .i64 ((Aa .i64 (zd s0 O.toNat))-192)))/\((a==2)=false->b (Aa .i64 (zd s0 O.toNat))))))):
  PC Tp gl 115 [Arg.mk .str s0,Arg.mk (.int .i64) O] [.int .i32,.int .i64] R:=
 PF ⟨[],[],[(14,⟨[(7,.one (.dat (.int .i64))),(8,.one (.dat (.int .i64)))],[],[],[100448,100512]⟩)],[(9,⟨[(7,.one (.dat (.int .i64)))],[],[],[100448]⟩),(11,⟨[(7,.one (.dat (.int .i64)))],[],[],[100448]⟩),(13,⟨[(7,.one (.dat (.int .i64)))],[],[],[100448]⟩)]⟩ [.tmp 4,.tmp 5] 100 Tryz.func115 H
theorem zib(gl:Fr)(n0:Bool×Bt×Int)(R:Bool->Prop)
  (H:(((n0.1==false)&&((n0.2.1.toList==(⟨#[]⟩:Bt).toList)&&((n0.2.2==0)&&true)))=true->R true)/\(((n0.1==false)&&((n0.2.1.toList==(⟨#[]⟩:Bt).toList)&&((n0.2.2==0)&&true)))=false->PC Tp gl 128 [Arg.mk .str n0.2.1] [.bool] (λa:Bool=>((!a)=true->((!a)=true->R false)/\((!a)=false->R (bif (decide (n0.2.2>=(-1000000)))then(decide (n0.2.2<=1000000))else false)))/\((!a)=false->(decide ((n0.2.1.size:Int)>1000)=true->(decide ((n0.2.1.size:Int)>1000)=true->R false)/\(decide ((n0.2.1.size:Int)>1000)=false->R (bif (decide (n0.2.2>=(-1000000)))then(decide (n0.2.2<=1000000))else false)))/\(decide ((n0.2.1.size:Int)>1000)=false->(0<=(0:Int)/\(0:Int)<(n0.2.1.size:Int))/\(((zd n0.2.1 (0:Int).toNat:Int)==48)=true->(((zd n0.2.1 (0:Int).toNat:Int)==48)=true->R false)/\(((zd n0.2.1 (0:Int).toNat:Int)==48)=false->R (bif (decide (n0.2.2>=(-1000000)))then(decide (n0.2.2<=1000000))else false)))/\(((zd n0.2.1 (0:Int).toNat:Int)==48)=false->(0<=(Aa .i64 ((n0.2.1.size:Int)-1))/\(Aa .i64 ((n0.2.1.size:Int)-1))<(n0.2.1.size:Int))/\(((zd n0.2.1 (Aa .i64 ((n0.2.1.size:Int)-1)).toNat:Int)==48)=true->R false)/\(((zd n0.2.1 (Aa .i64 ((n0.2.1.size:Int)-1)).toNat:Int)==48)=false->R (bif (decide (n0.2.2>=(-1000000)))then(decide (n0.2.2<=1000000))else false)))))))):
  PC Tp gl 96 [Arg.mk (.pair .bool (.pair .str (.int .i64))) n0] [.bool] R:=
 PF ⟨[],[],[],[]⟩ [.tmp 2] 34 Tryz.func96 H
theorem zic(gl:Fr)(s0:Bt)(R:((Bool×Bt×Int)×Int)->Prop)
  (H:PC Tp gl 130 [Arg.mk .str s0] [.pair .bool (.pair .bool (.pair .str (.pair .str .str))),.bool] (λa:(Bool×Bool×Bt×Bt×Bt)×Bool=>PC Tp gl 131 [Arg.mk .str a.1.2.2.2.2,Arg.mk .str (⟨#[48]⟩:Bt)] [.str] (λb:Bt=>((!a.2)=true->R ((false,((⟨#[]⟩:Bt),0)),2))/\((!a.2)=false->((decide ((Aa .i64 ((a.1.2.2.1.size:Int)+(a.1.2.2.2.1.size:Int)))>1000))=true->R ((false,((⟨#[]⟩:Bt),0)),3))/\((decide ((Aa .i64 ((a.1.2.2.1.size:Int)+(a.1.2.2.2.1.size:Int)))>1000))=false->(decide ((b.size:Int)>9)=true->R ((false,((⟨#[]⟩:Bt),0)),4))/\(decide ((b.size:Int)>9)=false->∃(c:Int->Bool->Bt->Int->(Bt×Nat)->Prop) (d:Int->Bool->Bt->Int->(Bt×Nat)->Nat),c 0 false (⟨#[]⟩:Bt) 0 (b,0)/\∀e:Int,∀aa:Bool,∀Z:Bt,∀ac:Int,∀O:Bt×Nat,c e aa Z ac O->(((nxB O.1 O.2)=true->(nxB O.1 O.2)=true/\(c (Aa .i64 ((Aa .i64 (10*e))+(Aa .i64 (Aa .i32 ((nxR O.1 O.2)-48))))) aa Z ac (O.1,nxP O.1 O.2)/\d (Aa .i64 ((Aa .i64 (10*e))+(Aa .i64 (Aa .i32 ((nxR O.1 O.2)-48))))) aa Z ac (O.1,nxP O.1 O.2)<d e aa Z ac O))/\((nxB O.1 O.2)=false->∀f:Int->Bool->Bt->Int->Prop,(∀g:Int,∀af:Bool,∀ae:Bt,∀ah:Int,(Zm (a.1.2.2.1.size+a.1.2.2.2.1.size)/\PC Tp gl 131 [Arg.mk .str (a.1.2.2.1++a.1.2.2.2.1),Arg.mk .str (⟨#[48]⟩:Bt)] [.str] (λi:Bt=>((i.toList==(⟨#[]⟩:Bt).toList)=true->R ((false,((⟨#[]⟩:Bt),0)),0))/\((i.toList==(⟨#[]⟩:Bt).toList)=false->PC Tp gl 132 [Arg.mk .str i,Arg.mk .str (⟨#[48]⟩:Bt)] [.str] (λj:Bt=>PC Tp gl 96 [Arg.mk (.pair .bool (.pair .str (.int .i64))) (a.1.1,(j,Aa .i64 ((Aa .i64 ((Aa .i64 (g-(a.1.2.2.2.1.size:Int)))+(i.size:Int)))-(j.size:Int))))] [.bool] (λk:Bool=>((!k)=true->R ((false,((⟨#[]⟩:Bt),0)),4))/\((!k)=false->R ((a.1.1,(j,Aa .i64 ((Aa .i64 ((Aa .i64 (g-(a.1.2.2.2.1.size:Int)))+(i.size:Int)))-(j.size:Int)))),0)))))))->f g af ae ah)->(a.1.2.1=true->f (Aa .i64 (0-e)) aa Z ac)/\(a.1.2.1=false->f e aa Z ac))))))))):
  PC Tp gl 98 [Arg.mk .str s0] [.pair .bool (.pair .str (.int .i64)),.int .i64] R:=
 PF ⟨[],[],[(11,⟨[(7,.one (.dat (.int .i64)))],[(2,[.dat .bool,.dat .str,.dat (.int .i64)]),(41,[.dat .iter])],[4],[100448,1000128,1000129,1000130,1002624]⟩)],[(16,⟨[(7,.one (.dat (.int .i64)))],[(2,[.dat .bool,.dat .str,.dat (.int .i64)])],[4],[100448,1000128,1000129,1000130]⟩)]⟩ [.cell 2 78,.tmp 3] 86 Tryz.func98 H
theorem Yh(gl:Fr)(s0:Bt)(R:Bool->Prop)
  (H:∃(a:Bt->Prop) (b:Bt->Nat),a s0/\∀c:Bt,a c->((decide ((c.size:Int)>0)=true->(0<=(0:Int)/\(0:Int)<(c.size:Int))/\(decide ((zd c (0:Int).toNat:Int)<128)=true->(0<=(1:Int)/\(1:Int)<=(c.size:Int)/\(c.size:Int)<=(c.size:Int))/\∃d:Int->Prop,((decide ((((c.extract (1:Int).toNat (c.size:Int).toNat).size:Int):Int)>8))=true->PC Tp gl 170 [Arg.mk .str (c.extract (1:Int).toNat (c.size:Int).toNat)] [.int .u64] d)/\∀e:Int,((decide ((((c.extract (1:Int).toNat (c.size:Int).toNat).size:Int):Int)>8))=true->d e)->((bif (decide ((((c.extract (1:Int).toNat (c.size:Int).toNat).size:Int):Int)>8))then((Aa .u64 (((As (Ar .u64) e) &&& (As (Ar .u64) 9259542123273814144)).toNat:Int):Int)==0)else false)=true->(0<=(8:Int)/\(8:Int)<=((c.extract (1:Int).toNat (c.size:Int).toNat).size:Int)/\(((c.extract (1:Int).toNat (c.size:Int).toNat).size:Int):Int)<=((c.extract (1:Int).toNat (c.size:Int).toNat).size:Int))/\((decide (((((c.extract (1:Int).toNat (c.size:Int).toNat).extract (8:Int).toNat (((c.extract (1:Int).toNat (c.size:Int).toNat).size:Int):Int).toNat).size:Int):Int)>16))=true->(0<=(8:Int)/\(8:Int)<=(((c.extract (1:Int).toNat (c.size:Int).toNat).extract (8:Int).toNat (((c.extract (1:Int).toNat (c.size:Int).toNat).size:Int):Int).toNat).size:Int)/\((((c.extract (1:Int).toNat (c.size:Int).toNat).extract (8:Int).toNat (((c.extract (1:Int).toNat (c.size:Int).toNat).size:Int):Int).toNat).size:Int):Int)<=(((c.extract (1:Int).toNat (c.size:Int).toNat).extract (8:Int).toNat (((c.extract (1:Int).toNat (c.size:Int).toNat).size:Int):Int).toNat).size:Int)))/\∃f:Int->Prop,((decide (((((c.extract (1:Int).toNat (c.size:Int).toNat).extract (8:Int).toNat (((c.extract (1:Int).toNat (c.size:Int).toNat).size:Int):Int).toNat).size:Int):Int)>16))=true->PC Tp gl 170 [Arg.mk .str ((c.extract (1:Int).toNat (c.size:Int).toNat).extract (8:Int).toNat (((c.extract (1:Int).toNat (c.size:Int).toNat).size:Int):Int).toNat)] [.int .u64] f)/\∀g:Int,((decide (((((c.extract (1:Int).toNat (c.size:Int).toNat).extract (8:Int).toNat (((c.extract (1:Int).toNat (c.size:Int).toNat).size:Int):Int).toNat).size:Int):Int)>16))=true->f g)->∃i:Int->Prop,((decide (((((c.extract (1:Int).toNat (c.size:Int).toNat).extract (8:Int).toNat (((c.extract (1:Int).toNat (c.size:Int).toNat).size:Int):Int).toNat).size:Int):Int)>16))=true->PC Tp gl 170 [Arg.mk .str (((c.extract (1:Int).toNat (c.size:Int).toNat).extract (8:Int).toNat (((c.extract (1:Int).toNat (c.size:Int).toNat).size:Int):Int).toNat).extract (8:Int).toNat ((((c.extract (1:Int).toNat (c.size:Int).toNat).extract (8:Int).toNat (((c.extract (1:Int).toNat (c.size:Int).toNat).size:Int):Int).toNat).size:Int):Int).toNat)] [.int .u64] i)/\∀j:Int,((decide (((((c.extract (1:Int).toNat (c.size:Int).toNat).extract (8:Int).toNat (((c.extract (1:Int).toNat (c.size:Int).toNat).size:Int):Int).toNat).size:Int):Int)>16))=true->i j)->((bif (decide (((((c.extract (1:Int).toNat (c.size:Int).toNat).extract (8:Int).toNat (((c.extract (1:Int).toNat (c.size:Int).toNat).size:Int):Int).toNat).size:Int):Int)>16))then((Aa .u64 (((As (Ar .u64) (Aa .u64 (((As (Ar .u64) g) ||| (As (Ar .u64) j)).toNat:Int))) &&& (As (Ar .u64) 9259542123273814144)).toNat:Int):Int)==0)else false)=true->(0<=(16:Int)/\(16:Int)<=(((c.extract (1:Int).toNat (c.size:Int).toNat).extract (8:Int).toNat (((c.extract (1:Int).toNat (c.size:Int).toNat).size:Int):Int).toNat).size:Int)/\((((c.extract (1:Int).toNat (c.size:Int).toNat).extract (8:Int).toNat (((c.extract (1:Int).toNat (c.size:Int).toNat).size:Int):Int).toNat).size:Int):Int)<=(((c.extract (1:Int).toNat (c.size:Int).toNat).extract (8:Int).toNat (((c.extract (1:Int).toNat (c.size:Int).toNat).size:Int):Int).toNat).size:Int))/\∃(k:Bt->Prop) (l:Bt->Nat),k (((c.extract (1:Int).toNat (c.size:Int).toNat).extract (8:Int).toNat (((c.extract (1:Int).toNat (c.size:Int).toNat).size:Int):Int).toNat).extract (16:Int).toNat ((((c.extract (1:Int).toNat (c.size:Int).toNat).extract (8:Int).toNat (((c.extract (1:Int).toNat (c.size:Int).toNat).size:Int):Int).toNat).size:Int):Int).toNat)/\∀m:Bt,k m->((decide ((m.size:Int)>32)=true->(0<=(8:Int)/\(8:Int)<=(m.size:Int)/\(m.size:Int)<=(m.size:Int)))/\(decide ((m.size:Int)>32)=true->(0<=(16:Int)/\(16:Int)<=(m.size:Int)/\(m.size:Int)<=(m.size:Int)))/\(decide ((m.size:Int)>32)=true->(0<=(24:Int)/\(24:Int)<=(m.size:Int)/\(m.size:Int)<=(m.size:Int)))/\∃n:Int->Prop,(decide ((m.size:Int)>32)=true->PC Tp gl 170 [Arg.mk .str m] [.int .u64] n)/\∀o:Int,(decide ((m.size:Int)>32)=true->n o)->∃p:Int->Prop,(decide ((m.size:Int)>32)=true->PC Tp gl 170 [Arg.mk .str (m.extract (8:Int).toNat (m.size:Int).toNat)] [.int .u64] p)/\∀q:Int,(decide ((m.size:Int)>32)=true->p q)->∃r:Int->Prop,(decide ((m.size:Int)>32)=true->PC Tp gl 170 [Arg.mk .str (m.extract (16:Int).toNat (m.size:Int).toNat)] [.int .u64] r)/\∀s:Int,(decide ((m.size:Int)>32)=true->r s)->∃t:Int->Prop,(decide ((m.size:Int)>32)=true->PC Tp gl 170 [Arg.mk .str (m.extract (24:Int).toNat (m.size:Int).toNat)] [.int .u64] t)/\∀u:Int,(decide ((m.size:Int)>32)=true->t u)->((bif (decide ((m.size:Int)>32))then((Aa .u64 (((As (Ar .u64) (Aa .u64 (((As (Ar .u64) (Aa .u64 (((As (Ar .u64) o) ||| (As (Ar .u64) q)).toNat:Int))) ||| (As (Ar .u64) (Aa .u64 (((As (Ar .u64) s) ||| (As (Ar .u64) u)).toNat:Int)))).toNat:Int))) &&& (As (Ar .u64) 9259542123273814144)).toNat:Int):Int)==0)else false)=true->(0<=(32:Int)/\(32:Int)<=(m.size:Int)/\(m.size:Int)<=(m.size:Int))/\(k (m.extract (32:Int).toNat (m.size:Int).toNat)/\l (m.extract (32:Int).toNat (m.size:Int).toNat)<l m))/\((bif (decide ((m.size:Int)>32))then((Aa .u64 (((As (Ar .u64) (Aa .u64 (((As (Ar .u64) (Aa .u64 (((As (Ar .u64) o) ||| (As (Ar .u64) q)).toNat:Int))) ||| (As (Ar .u64) (Aa .u64 (((As (Ar .u64) s) ||| (As (Ar .u64) u)).toNat:Int)))).toNat:Int))) &&& (As (Ar .u64) 9259542123273814144)).toNat:Int):Int)==0)else false)=false->(a m/\b m<b c))))/\((bif (decide (((((c.extract (1:Int).toNat (c.size:Int).toNat).extract (8:Int).toNat (((c.extract (1:Int).toNat (c.size:Int).toNat).size:Int):Int).toNat).size:Int):Int)>16))then((Aa .u64 (((As (Ar .u64) (Aa .u64 (((As (Ar .u64) g) ||| (As (Ar .u64) j)).toNat:Int))) &&& (As (Ar .u64) 9259542123273814144)).toNat:Int):Int)==0)else false)=false->(a ((c.extract (1:Int).toNat (c.size:Int).toNat).extract (8:Int).toNat (((c.extract (1:Int).toNat (c.size:Int).toNat).size:Int):Int).toNat)/\b ((c.extract (1:Int).toNat (c.size:Int).toNat).extract (8:Int).toNat (((c.extract (1:Int).toNat (c.size:Int).toNat).size:Int):Int).toNat)<b c)))/\((bif (decide ((((c.extract (1:Int).toNat (c.size:Int).toNat).size:Int):Int)>8))then((Aa .u64 (((As (Ar .u64) e) &&& (As (Ar .u64) 9259542123273814144)).toNat:Int):Int)==0)else false)=false->(a (c.extract (1:Int).toNat (c.size:Int).toNat)/\b (c.extract (1:Int).toNat (c.size:Int).toNat)<b c)))/\(decide ((zd c (0:Int).toNat:Int)<128)=false->(0<=(zd c (0:Int).toNat:Int)/\(zd c (0:Int).toNat:Int)<((256:Nat):Int))/\∃v,zhs gl 0 (0+(zd c (0:Int).toNat:Int).toNat*1) (.int .u8 v)/\(0<=(v.fdiv (2 ^ 4):Int)/\(v.fdiv (2 ^ 4):Int)<((16:Nat):Int))/\∃w,zhs gl 1 (0+(v.fdiv (2 ^ 4):Int).toNat*2) (.int .u8 w)/\∃x,zhs gl 1 (0+(v.fdiv (2 ^ 4):Int).toNat*2+1) (.int .u8 x)/\(((Aa .i64 (Aa .u8 (((As (Ar .u8) v) &&& (As (Ar .u8) 7)).toNat:Int)):Int)==2)=true->((!(decide ((c.size:Int)<2)))=true->(0<=(1:Int)/\(1:Int)<(c.size:Int)))/\((!(bif (decide ((c.size:Int)<2))then true else(decide ((zd c (1:Int).toNat:Int)<w))))=true->(0<=(1:Int)/\(1:Int)<(c.size:Int)))/\((bif (bif (decide ((c.size:Int)<2))then true else(decide ((zd c (1:Int).toNat:Int)<w)))then true else(decide (x<(zd c (1:Int).toNat))))=true->R false)/\((bif (bif (decide ((c.size:Int)<2))then true else(decide ((zd c (1:Int).toNat:Int)<w)))then true else(decide (x<(zd c (1:Int).toNat))))=false->(0<=(2:Int)/\(2:Int)<=(c.size:Int)/\(c.size:Int)<=(c.size:Int))/\(a (c.extract (2:Int).toNat (c.size:Int).toNat)/\b (c.extract (2:Int).toNat (c.size:Int).toNat)<b c)))/\(((Aa .i64 (Aa .u8 (((As (Ar .u8) v) &&& (As (Ar .u8) 7)).toNat:Int)):Int)==2)=false->(((Aa .i64 (Aa .u8 (((As (Ar .u8) v) &&& (As (Ar .u8) 7)).toNat:Int)):Int)==3)=true->((!(decide ((c.size:Int)<3)))=true->(0<=(1:Int)/\(1:Int)<(c.size:Int)))/\((!(bif (decide ((c.size:Int)<3))then true else(decide ((zd c (1:Int).toNat:Int)<w))))=true->(0<=(1:Int)/\(1:Int)<(c.size:Int)))/\((!(bif (bif (decide ((c.size:Int)<3))then true else(decide ((zd c (1:Int).toNat:Int)<w)))then true else(decide (x<(zd c (1:Int).toNat)))))=true->(0<=(2:Int)/\(2:Int)<(c.size:Int)))/\((!(bif (bif (bif (decide ((c.size:Int)<3))then true else(decide ((zd c (1:Int).toNat:Int)<w)))then true else(decide (x<(zd c (1:Int).toNat))))then true else(decide ((zd c (2:Int).toNat:Int)<128))))=true->(0<=(2:Int)/\(2:Int)<(c.size:Int)))/\((bif (bif (bif (bif (decide ((c.size:Int)<3))then true else(decide ((zd c (1:Int).toNat:Int)<w)))then true else(decide (x<(zd c (1:Int).toNat))))then true else(decide ((zd c (2:Int).toNat:Int)<128)))then true else(decide ((191:Int)<(zd c (2:Int).toNat))))=true->R false)/\((bif (bif (bif (bif (decide ((c.size:Int)<3))then true else(decide ((zd c (1:Int).toNat:Int)<w)))then true else(decide (x<(zd c (1:Int).toNat))))then true else(decide ((zd c (2:Int).toNat:Int)<128)))then true else(decide ((191:Int)<(zd c (2:Int).toNat))))=false->(0<=(3:Int)/\(3:Int)<=(c.size:Int)/\(c.size:Int)<=(c.size:Int))/\(a (c.extract (3:Int).toNat (c.size:Int).toNat)/\b (c.extract (3:Int).toNat (c.size:Int).toNat)<b c)))/\(((Aa .i64 (Aa .u8 (((As (Ar .u8) v) &&& (As (Ar .u8) 7)).toNat:Int)):Int)==3)=false->(((Aa .i64 (Aa .u8 (((As (Ar .u8) v) &&& (As (Ar .u8) 7)).toNat:Int)):Int)==4)=true->((!(decide ((c.size:Int)<4)))=true->(0<=(1:Int)/\(1:Int)<(c.size:Int)))/\((!(bif (decide ((c.size:Int)<4))then true else(decide ((zd c (1:Int).toNat:Int)<w))))=true->(0<=(1:Int)/\(1:Int)<(c.size:Int)))/\((!(bif (bif (decide ((c.size:Int)<4))then true else(decide ((zd c (1:Int).toNat:Int)<w)))then true else(decide (x<(zd c (1:Int).toNat)))))=true->(0<=(2:Int)/\(2:Int)<(c.size:Int)))/\((!(bif (bif (bif (decide ((c.size:Int)<4))then true else(decide ((zd c (1:Int).toNat:Int)<w)))then true else(decide (x<(zd c (1:Int).toNat))))then true else(decide ((zd c (2:Int).toNat:Int)<128))))=true->(0<=(2:Int)/\(2:Int)<(c.size:Int)))/\((!(bif (bif (bif (bif (decide ((c.size:Int)<4))then true else(decide ((zd c (1:Int).toNat:Int)<w)))then true else(decide (x<(zd c (1:Int).toNat))))then true else(decide ((zd c (2:Int).toNat:Int)<128)))then true else(decide ((191:Int)<(zd c (2:Int).toNat)))))=true->(0<=(3:Int)/\(3:Int)<(c.size:Int)))/\((!(bif (bif (bif (bif (bif (decide ((c.size:Int)<4))then true else(decide ((zd c (1:Int).toNat:Int)<w)))then true else(decide (x<(zd c (1:Int).toNat))))then true else(decide ((zd c (2:Int).toNat:Int)<128)))then true else(decide ((191:Int)<(zd c (2:Int).toNat))))then true else(decide ((zd c (3:Int).toNat:Int)<128))))=true->(0<=(3:Int)/\(3:Int)<(c.size:Int)))/\((bif (bif (bif (bif (bif (bif (decide ((c.size:Int)<4))then true else(decide ((zd c (1:Int).toNat:Int)<w)))then true else(decide (x<(zd c (1:Int).toNat))))then true else(decide ((zd c (2:Int).toNat:Int)<128)))then true else(decide ((191:Int)<(zd c (2:Int).toNat))))then true else(decide ((zd c (3:Int).toNat:Int)<128)))then true else(decide ((191:Int)<(zd c (3:Int).toNat))))=true->R false)/\((bif (bif (bif (bif (bif (bif (decide ((c.size:Int)<4))then true else(decide ((zd c (1:Int).toNat:Int)<w)))then true else(decide (x<(zd c (1:Int).toNat))))then true else(decide ((zd c (2:Int).toNat:Int)<128)))then true else(decide ((191:Int)<(zd c (2:Int).toNat))))then true else(decide ((zd c (3:Int).toNat:Int)<128)))then true else(decide ((191:Int)<(zd c (3:Int).toNat))))=false->(0<=(4:Int)/\(4:Int)<=(c.size:Int)/\(c.size:Int)<=(c.size:Int))/\(a (c.extract (4:Int).toNat (c.size:Int).toNat)/\b (c.extract (4:Int).toNat (c.size:Int).toNat)<b c)))/\(((Aa .i64 (Aa .u8 (((As (Ar .u8) v) &&& (As (Ar .u8) 7)).toNat:Int)):Int)==4)=false->R false)))))/\(decide ((c.size:Int)>0)=false->R true))):
  PC Tp gl 141 [Arg.mk .str s0] [.bool] R:=
 PF ⟨[],[(7,8,[],[0,1,2,3,4,6,7,5],[]),(9,15,[],[0,1,2,3,4,6,7,10,11,13,14,5,8,9,12],[9])],[(1,⟨[(0,.one (.dat .str))],[],[],[100000]⟩),(9,⟨[(0,.one (.dat .str))],[],[],[100000]⟩)],[]⟩ [.tmp 2] 169 Tryz.func141 H
theorem zmk(gl:Fr)(v0:Tr)(R:Int->Prop)
  (H:∃(a:Int->Int->Prop) (b:Int->Int->Nat),a 1 0/\∀c d:Int,a c d->((decide (d<v0.items.length)=true->∃e,(0<=d/\v0.items[d.toNat]?=some e)/\PC Tp gl 78 [Arg.mk .tree (Tr.mk e.kind e.text e.keys e.items)] [.int .i64] (λf:Int=>(a (Aa .i64 (c+f)) (Aa .i64 (d+1))/\b (Aa .i64 (c+f)) (Aa .i64 (d+1))<b c d)))/\(decide (d<v0.items.length)=false->R c))):
  PC Tp gl 78 [Arg.mk .tree v0] [.int .i64] R:=
 PF ⟨[],[],[(3,⟨[(3,.one (.dat (.int .i64))),(9,.one (.dat (.int .i64)))],[],[],[100192,100576]⟩)],[]⟩ [.tmp 2] 19 Tryz.func78 H
theorem zjv(gl:Fr)(v0:Tr)(R:Int->Prop)
  (H:∃(a:Int->Int->Prop) (b:Int->Int->Nat),a 0 0/\∀c d:Int,a c d->((decide (d<v0.items.length)=true->∃e,(0<=d/\v0.items[d.toNat]?=some e)/\PC Tp gl 79 [Arg.mk .tree (Tr.mk e.kind e.text e.keys e.items)] [.int .i64] (λf:Int=>(a (if c<f then f else c) (Aa .i64 (d+1))/\b (if c<f then f else c) (Aa .i64 (d+1))<b c d)))/\(decide (d<v0.items.length)=false->R (Aa .i64 (c+1))))):
  PC Tp gl 79 [Arg.mk .tree v0] [.int .i64] R:=
 PF ⟨[],[],[(3,⟨[(3,.one (.dat (.int .i64))),(9,.one (.dat (.int .i64)))],[],[],[100192,100576]⟩)],[]⟩ [.tmp 2] 20 Tryz.func79 H
theorem zf8(gl:Fr)(s0:Bt)(R:((Bool×Bt×Int)×Bool)->Prop)
  (H:PC Tp gl 98 [Arg.mk .str s0] [.pair .bool (.pair .str (.int .i64)),.int .i64] (λa:(Bool×Bt×Int)×Int=>∃b:Bt->Prop,((a.2==0)=true->PC Tp gl 56 [Arg.mk (.pair .bool (.pair .str (.int .i64))) (a.1.1,(a.1.2.1,a.1.2.2))] [.str] b)/\∀c:Bt,((a.2==0)=true->b c)->R ((a.1.1,(a.1.2.1,a.1.2.2)),bif (a.2==0)then(c.toList==s0.toList)else false))):
  PC Tp gl 83 [Arg.mk .str s0] [.pair .bool (.pair .str (.int .i64)),.bool] R:=
 PF ⟨[],[(2,9,[],[0,1,2,3,4,6,5,7,8],[6,7,8])],[],[]⟩ [.cell 2 78,.tmp 3] 20 Tryz.func83 H
theorem zjw(gl:Fr)(s0:Bt)(R:Bool->Prop)
  (H:PC Tp gl 113 [Arg.mk .str s0] [.int .i64,.bool] (λa:Int×Bool=>R a.2)):
  PC Tp gl 84 [Arg.mk .str s0] [.bool] R:=
 PF ⟨[],[],[],[]⟩ [.tmp 2] 11 Tryz.func84 H
theorem zml(gl:Fr)(s0:Bt)(R:Bool->Prop)
  (H:PC Tp gl 83 [Arg.mk .str s0] [.pair .bool (.pair .str (.int .i64)),.bool] (λa:(Bool×Bt×Int)×Bool=>PC Tp gl 119 [Arg.mk (.pair .bool (.pair .str (.int .i64))) (a.1.1,(a.1.2.1,a.1.2.2))] [.int .i64,.bool] (λb:Int×Bool=>R (bif (bif a.2 then b.2 else false)then(decide (b.1>=0))else false)))):
  PC Tp gl 85 [Arg.mk .str s0] [.bool] R:=
 PF ⟨[],[],[],[]⟩ [.tmp 2] 25 Tryz.func85 H
theorem zid(gl:Fr)(v0:Tr)(O:Bt)(R:Int->Prop)
  (H:((v0.kind==6)=true->PC Tp gl 144 [Arg.mk (.row .str) v0.keys,Arg.mk .str O] [.int .i64] (λa:Int=>R a))/\((v0.kind==6)=false->((v0.kind==5)=true->PC Tp gl 145 [Arg.mk .str O] [.int .i64,.bool] (λb:Int×Bool=>((bif b.2 then(decide (b.1<v0.items.length))else false)=true->R b.1)/\((bif b.2 then(decide (b.1<v0.items.length))else false)=false->R (-1))))/\((v0.kind==5)=false->R (-1)))):
  PC Tp gl 117 [Arg.mk .tree v0,Arg.mk .str O] [.int .i64] R:=
 PF ⟨[],[],[],[]⟩ [.tmp 4] 31 Tryz.func117 H
theorem zdo(gl:Fr)(v0:Tr)(R:Bool->Prop)
  (H:((bif (bif (v0.kind != 6)then(decide ((v0.keys.length:Int)>0))else false)then true else(bif (bif (v0.kind != 6)then(v0.kind != 5)else false)then(decide ((v0.items.length:Int)>0))else false))=true->R false)/\((bif (bif (v0.kind != 6)then(decide ((v0.keys.length:Int)>0))else false)then true else(bif (bif (v0.kind != 6)then(v0.kind != 5)else false)then(decide ((v0.items.length:Int)>0))else false))=false->∀a:Bool->Prop,(∀b:Bool,((b=true->R (v0.text.toList==(⟨#[]⟩:Bt).toList))/\(b=false->((v0.kind==2)=true->R (bif (v0.text.toList==(⟨#[116,114,117,101]⟩:Bt).toList)then true else(v0.text.toList==(⟨#[102,97,108,115,101]⟩:Bt).toList)))/\((v0.kind==2)=false->((v0.kind==3)=true->PC Tp gl 138 [Arg.mk .str v0.text] [.pair .bool (.pair .str (.int .i64)),.bool] (λc:(Bool×Bt×Int)×Bool=>R c.2))/\((v0.kind==3)=false->((v0.kind==4)=true->PC Tp gl 139 [Arg.mk .str v0.text] [.bool] (λd:Bool=>R d))/\((v0.kind==4)=false->((v0.kind==7)=true->PC Tp gl 138 [Arg.mk .str v0.text] [.pair .bool (.pair .str (.int .i64)),.bool] (λe:(Bool×Bt×Int)×Bool=>PC Tp gl 140 [Arg.mk (.pair .bool (.pair .str (.int .i64))) (e.1.1,(e.1.2.1,e.1.2.2))] [.int .i64,.bool] (λf:Int×Bool=>R (bif (bif e.2 then f.2 else false)then(decide (f.1>=0))else false))))/\((v0.kind==7)=false->((v0.kind==6)=true->∃(g:Int->Prop) (i:Int->Nat),g 0/\∀j:Int,g j->((decide (j<v0.keys.length)=true->∃k,(0<=j/\v0.keys[j.toNat]?=some k)/\PC Tp gl 139 [Arg.mk .str k] [.bool] (λl:Bool=>((!l)=true->R false)/\((!l)=false->∃(m:Int->Prop) (n:Int->Nat),m 0/\∀o:Int,m o->((decide (o<j)=true->∃p,(0<=o/\v0.keys[o.toNat]?=some p)/\∃q,(0<=j/\v0.keys[j.toNat]?=some q)/\((p.toList==q.toList)=true->R false)/\((p.toList==q.toList)=false->(m (Aa .i64 (o+1))/\n (Aa .i64 (o+1))<n o)))/\(decide (o<j)=false->(g (Aa .i64 (j+1))/\i (Aa .i64 (j+1))<i j))))))/\(decide (j<v0.keys.length)=false->R (bif (v0.text.toList==(⟨#[]⟩:Bt).toList)then((v0.keys.length:Int)==(v0.items.length:Int))else false))))/\((v0.kind==6)=false->R false)))))))->a b)->((v0.kind==1)=true->a (v0.kind==1))/\((v0.kind==1)=false->a (v0.kind==5)))):
  PC Tp gl 106 [Arg.mk .tree v0] [.bool] R:=
 PF ⟨[],[],[(20,⟨[(9,.one (.dat (.int .i64)))],[],[1],[100576]⟩),(26,⟨[(11,.one (.dat (.int .i64)))],[],[],[100704]⟩)],[(6,⟨[(39,.one (.dat .bool))],[],[1],[102496]⟩)]⟩ [.tmp 2] 135 Tryz.func106 H
theorem zdp(gl:Fr)(c0:Int)(R:Int->Prop)
  (H:(decide (c0<128)=true->R 1)/\(decide (c0<128)=false->((bif (decide (c0>=194))then(decide (c0<=223))else false)=true->R 2)/\((bif (decide (c0>=194))then(decide (c0<=223))else false)=false->((bif (decide (c0>=224))then(decide (c0<=239))else false)=true->R 3)/\((bif (decide (c0>=224))then(decide (c0<=239))else false)=false->((bif (decide (c0>=240))then(decide (c0<=244))else false)=true->R 4)/\((bif (decide (c0>=240))then(decide (c0<=244))else false)=false->R 0))))):
  PC Tp gl 143 [Arg.mk (.int .i64) c0] [.int .i64] R:=
 PF ⟨[],[],[],[]⟩ [.tmp 2] 23 Tryz.func143 H
theorem zf9(gl:Fr)(s0:Bt)(R:Bool->Prop)
  (H:∃(a:(Bt×Nat)->Prop) (b:(Bt×Nat)->Nat),a (s0,0)/\∀O:Bt×Nat,a O->(((nxB O.1 O.2)=true->(nxB O.1 O.2)=true/\((bif (decide ((nxR O.1 O.2:Int)<48))then true else(decide ((nxR O.1 O.2:Int)>57)))=true->R false)/\((bif (decide ((nxR O.1 O.2:Int)<48))then true else(decide ((nxR O.1 O.2:Int)>57)))=false->(a (O.1,nxP O.1 O.2)/\b (O.1,nxP O.1 O.2)<b O)))/\((nxB O.1 O.2)=false->R (!(s0.toList==(⟨#[]⟩:Bt).toList))))):
  PC Tp gl 128 [Arg.mk .str s0] [.bool] R:=
 PF ⟨[],[],[(2,⟨[],[(6,[.dat .iter])],[],[1000384]⟩)],[]⟩ [.tmp 2] 18 Tryz.func128 H
theorem zjx(gl:Fr)(s0:Bt)(R:((Bool×Bool×Bt×Bt×Bt)×Bool)->Prop)
  (H:PC Tp gl 154 [Arg.mk .str s0,Arg.mk .str (⟨#[45]⟩:Bt)] [.str,.bool] (λa:Bt×Bool=>PC Tp gl 155 [Arg.mk .str a.1,Arg.mk .str (⟨#[101,69]⟩:Bt)] [.str,.str,.bool] (λb:Bt×Bt×Bool=>∀c:Bt->Bool->Bool->Bt->Bt->Bt->Prop,(∀d:Bt,∀af ah:Bool,∀aj ak ai:Bt,(PC Tp gl 155 [Arg.mk .str b.1,Arg.mk .str (⟨#[46]⟩:Bt)] [.str,.str,.bool] (λe:Bt×Bt×Bool=>PC Tp gl 128 [Arg.mk .str e.1] [.bool] (λf:Bool=>∃g:Bool->Prop,(((!(!f))&&e.2.2)=true->PC Tp gl 128 [Arg.mk .str e.2.1] [.bool] g)/\∀i:Bool,(((!(!f))&&e.2.2)=true->g i)->((bif (!f)then true else(bif e.2.2 then(!i)else false))=true->R ((af,(ah,(e.1,(e.2.1,d)))),false))/\((bif (!f)then true else(bif e.2.2 then(!i)else false))=false->((!(e.1.toList==(⟨#[48]⟩:Bt).toList))=true->(0<=(0:Int)/\(0:Int)<(e.1.size:Int)))/\R ((af,(ah,(e.1,(e.2.1,d)))),bif (e.1.toList==(⟨#[48]⟩:Bt).toList)then true else((zd e.1 (0:Int).toNat:Int) != 48))))))->c d af ah aj ak ai)->(b.2.2=true->PC Tp gl 154 [Arg.mk .str b.2.1,Arg.mk .str (⟨#[45]⟩:Bt)] [.str,.bool] (λj:Bt×Bool=>∀k:Bt->Bool->Bool->Bt->Bt->Bt->Prop,(∀l:Bt,∀ac O:Bool,∀Z aa ae:Bt,(PC Tp gl 128 [Arg.mk .str l] [.bool] (λm:Bool=>((!m)=true->R ((ac,(O,(Z,(aa,ae)))),false))/\((!m)=false->c l ac O Z aa ae)))->k l ac O Z aa ae)->((!j.2)=true->PC Tp gl 156 [Arg.mk .str j.1,Arg.mk .str (⟨#[43]⟩:Bt)] [.str] (λn:Bt=>k n a.2 j.2 (⟨#[]⟩:Bt) (⟨#[]⟩:Bt) (⟨#[]⟩:Bt)))/\((!j.2)=false->k j.1 a.2 j.2 (⟨#[]⟩:Bt) (⟨#[]⟩:Bt) (⟨#[]⟩:Bt))))/\(b.2.2=false->c b.2.1 a.2 false (⟨#[]⟩:Bt) (⟨#[]⟩:Bt) (⟨#[]⟩:Bt))))):
  PC Tp gl 130 [Arg.mk .str s0] [.pair .bool (.pair .bool (.pair .str (.pair .str .str))),.bool] R:=
 PF ⟨[],[(14,8,[],[0,1,2,3,4,5,6,7],[4,5,6,7])],[],[(9,⟨[(4,.one (.dat .str))],[(2,[.dat .bool,.dat .bool,.dat .str,.dat .str,.dat .str])],[],[100256,1000128,1000129,1000130,1000131,1000132]⟩),(7,⟨[(4,.one (.dat .str))],[(2,[.dat .bool,.dat .bool,.dat .str,.dat .str,.dat .str])],[],[100256,1000128,1000129,1000130,1000131,1000132]⟩)]⟩ [.cell 2 140,.tmp 3] 69 Tryz.func130 H
theorem Yi(gl:Fr)(s0:Bt)(R:Int->Prop)
  (H:(false=true->(0<=(0:Int)/\(0:Int)<(s0.size:Int))/\(0<=(1:Int)/\(1:Int)<(s0.size:Int))/\(0<=(2:Int)/\(2:Int)<(s0.size:Int))/\(0<=(3:Int)/\(3:Int)<(s0.size:Int))/\R (Aa .u64 (((As (Ar .u64) (Aa .u64 (((As (Ar .u64) (Aa .u64 (((As (Ar .u64) (Aa .u64 (zd s0 (0:Int).toNat))) ||| (As (Ar .u64) (Aa .u64 ((Aa .u64 (zd s0 (1:Int).toNat))*2 ^ 8)))).toNat:Int))) ||| (As (Ar .u64) (Aa .u64 ((Aa .u64 (zd s0 (2:Int).toNat))*2 ^ 16)))).toNat:Int))) ||| (As (Ar .u64) (Aa .u64 ((Aa .u64 (zd s0 (3:Int).toNat))*2 ^ 24)))).toNat:Int)))/\(false=false->(0<=(0:Int)/\(0:Int)<(s0.size:Int))/\(0<=(1:Int)/\(1:Int)<(s0.size:Int))/\(0<=(2:Int)/\(2:Int)<(s0.size:Int))/\(0<=(3:Int)/\(3:Int)<(s0.size:Int))/\(0<=(4:Int)/\(4:Int)<(s0.size:Int))/\(0<=(5:Int)/\(5:Int)<(s0.size:Int))/\(0<=(6:Int)/\(6:Int)<(s0.size:Int))/\(0<=(7:Int)/\(7:Int)<(s0.size:Int))/\R (Aa .u64 (((As (Ar .u64) (Aa .u64 (((As (Ar .u64) (Aa .u64 (((As (Ar .u64) (Aa .u64 (((As (Ar .u64) (Aa .u64 (((As (Ar .u64) (Aa .u64 (((As (Ar .u64) (Aa .u64 (((As (Ar .u64) (Aa .u64 (zd s0 (0:Int).toNat))) ||| (As (Ar .u64) (Aa .u64 ((Aa .u64 (zd s0 (1:Int).toNat))*2 ^ 8)))).toNat:Int))) ||| (As (Ar .u64) (Aa .u64 ((Aa .u64 (zd s0 (2:Int).toNat))*2 ^ 16)))).toNat:Int))) ||| (As (Ar .u64) (Aa .u64 ((Aa .u64 (zd s0 (3:Int).toNat))*2 ^ 24)))).toNat:Int))) ||| (As (Ar .u64) (Aa .u64 ((Aa .u64 (zd s0 (4:Int).toNat))*2 ^ 32)))).toNat:Int))) ||| (As (Ar .u64) (Aa .u64 ((Aa .u64 (zd s0 (5:Int).toNat))*2 ^ 40)))).toNat:Int))) ||| (As (Ar .u64) (Aa .u64 ((Aa .u64 (zd s0 (6:Int).toNat))*2 ^ 48)))).toNat:Int))) ||| (As (Ar .u64) (Aa .u64 ((Aa .u64 (zd s0 (7:Int).toNat))*2 ^ 56)))).toNat:Int)))):
  PC Tp gl 170 [Arg.mk .str s0] [.int .u64] R:=
 PF ⟨[],[],[],[]⟩ [.tmp 2] 59 Tryz.func170 H
theorem zmm(gl:Fr)(n0:Bool×Bt×Int)(R:(Int×Bool)->Prop)
  (H:PC Tp gl 96 [Arg.mk (.pair .bool (.pair .str (.int .i64))) (n0.1,(n0.2.1,n0.2.2))] [.bool] (λa:Bool=>((bif (bif (!a)then true else(decide (n0.2.2<0)))then true else(decide ((Aa .i64 ((n0.2.1.size:Int)+n0.2.2))>19)))=true->R (0,false))/\((bif (bif (!a)then true else(decide (n0.2.2<0)))then true else(decide ((Aa .i64 ((n0.2.1.size:Int)+n0.2.2))>19)))=false->PC Tp gl 146 [Arg.mk .str (⟨#[48]⟩:Bt),Arg.mk (.int .i64) n0.2.2] [.str] (λb:Bt=>Zm (n0.2.1.size+b.size)/\∀c:Bt->Prop,(∀d:Bt,(((d.toList==(⟨#[]⟩:Bt).toList)=true->R (0,true))/\((d.toList==(⟨#[]⟩:Bt).toList)=false->PC Tp gl 147 [Arg.mk .str d,Arg.mk (.int .i64) 10,Arg.mk (.int .i64) 64] [.int .i64,.err] (λe:Int×Bool=>((!e.2)=true->R (0,false))/\((!e.2)=false->R (e.1,true)))))->c d)->(n0.1=true->Zm (((⟨#[45]⟩:Bt)).size+(n0.2.1++b).size)/\c ((⟨#[45]⟩:Bt)++(n0.2.1++b)))/\(n0.1=false->c (n0.2.1++b)))))):
  PC Tp gl 119 [Arg.mk (.pair .bool (.pair .str (.int .i64))) n0] [.int .i64,.bool] R:=
 PF ⟨[],[(3,5,[],[0,1,2,3,4],[])],[],[(6,⟨[(4,.one (.dat .str))],[],[],[100256]⟩)]⟩ [.tmp 2,.tmp 3] 44 Tryz.func119 H
theorem Xk(gl:Fr)(s0:Bt)(R:((Bool×Bt×Int)×Bool)->Prop)
  (H:PC Tp gl 167 [Arg.mk .str s0] [.pair .bool (.pair .str (.int .i64)),.int .i64] (λa:(Bool×Bt×Int)×Int=>∃b:Bt->Prop,((a.2==0)=true->PC Tp gl 168 [Arg.mk (.pair .bool (.pair .str (.int .i64))) (a.1.1,(a.1.2.1,a.1.2.2))] [.str] b)/\∀c:Bt,((a.2==0)=true->b c)->R ((a.1.1,(a.1.2.1,a.1.2.2)),bif (a.2==0)then(c.toList==s0.toList)else false))):
  PC Tp gl 138 [Arg.mk .str s0] [.pair .bool (.pair .str (.int .i64)),.bool] R:=
 PF ⟨[],[(2,9,[],[0,1,2,3,4,6,5,7,8],[6,7,8])],[],[]⟩ [.cell 2 78,.tmp 3] 20 Tryz.func138 H
theorem ze0(gl:Fr)(s0:Bt)(R:Bool->Prop)
  (H:PC Tp gl 76 [Arg.mk .str s0] [.int .i64,.bool] (λa:Int×Bool=>R a.2)):
  PC Tp gl 139 [Arg.mk .str s0] [.bool] R:=
 PF ⟨[],[],[],[]⟩ [.tmp 2] 11 Tryz.func139 H
theorem ze1(gl:Fr)(n0:Bool×Bt×Int)(R:(Int×Bool)->Prop)
  (H:PC Tp gl 169 [Arg.mk (.pair .bool (.pair .str (.int .i64))) (n0.1,(n0.2.1,n0.2.2))] [.bool] (λa:Bool=>((bif (bif (!a)then true else(decide (n0.2.2<0)))then true else(decide ((Aa .i64 ((n0.2.1.size:Int)+n0.2.2))>19)))=true->R (0,false))/\((bif (bif (!a)then true else(decide (n0.2.2<0)))then true else(decide ((Aa .i64 ((n0.2.1.size:Int)+n0.2.2))>19)))=false->∃(b:Int->Int->Prop) (c:Int->Int->Nat),b 0 0/\∀d e:Int,b d e->(((decide (e<(Aa .i64 ((n0.2.1.size:Int)+n0.2.2))))=true->∀f:Int->Prop,(∀g:Int,(Cp=Cp/\(10:Int)≠0/\((decide (d<(Aa .i64 ((Aa .i64 ((-9223372036854775808)+g)).tdiv 10))))=true->R (0,false))/\((decide (d<(Aa .i64 ((Aa .i64 ((-9223372036854775808)+g)).tdiv 10))))=false->(b (Aa .i64 ((Aa .i64 (10*d))-g)) (Aa .i64 (e+1))/\c (Aa .i64 ((Aa .i64 (10*d))-g)) (Aa .i64 (e+1))<c d e)))->f g)->(decide (e<n0.2.1.size)=true->(0<=e/\e<n0.2.1.size)/\f (Aa .i64 (Aa .u8 ((zd n0.2.1 e.toNat)-48))))/\(decide (e<n0.2.1.size)=false->f 0))/\((decide (e<(Aa .i64 ((n0.2.1.size:Int)+n0.2.2))))=false->(n0.1=true->R (d,true))/\(n0.1=false->((d==(-9223372036854775808))=true->R (0,false))/\((d==(-9223372036854775808))=false->R (Aa .i64 (0-d),true)))))))):
  PC Tp gl 140 [Arg.mk (.pair .bool (.pair .str (.int .i64))) n0] [.int .i64,.bool] R:=
 PF ⟨[],[],[(6,⟨[(5,.one (.dat (.int .i64))),(6,.one (.dat (.int .i64)))],[],[1],[100320,100384]⟩)],[(11,⟨[(7,.one (.dat (.int .i64)))],[],[],[100448]⟩)]⟩ [.tmp 2,.tmp 3] 63 Tryz.func140 H
theorem zmn(gl:Fr)(s0:Bt)(O:Bt)(R:(Bt×Bt×Bool)->Prop)
  (H:∃(a:Int->Prop) (b:Int->Nat),a 0/\∀c:Int,a c->((decide (c<s0.size)=true->(0<=c/\c<s0.size)/\PC Tp gl 191 [Arg.mk .str O,Arg.mk (.int .u8) (zd s0 c.toNat)] [.int .i64] (λd:Int=>(decide (d>=0)=true->(0<=(0:Int)/\(0:Int)<=c/\c<=s0.size)/\(0<=(Aa .i64 (c+1))/\(Aa .i64 (c+1))<=(s0.size:Int)/\(s0.size:Int)<=(s0.size:Int))/\R (s0.extract (0:Int).toNat c.toNat,s0.extract (Aa .i64 (c+1)).toNat (s0.size:Int).toNat,true))/\(decide (d>=0)=false->(a (Aa .i64 (c+1))/\b (Aa .i64 (c+1))<b c))))/\(decide (c<s0.size)=false->R (s0,(⟨#[]⟩:Bt),false)))):
  PC Tp gl 155 [Arg.mk .str s0,Arg.mk .str O] [.str,.str,.bool] R:=
 PF ⟨[],[],[(2,⟨[(10,.one (.dat (.int .i64)))],[],[],[100640]⟩)],[]⟩ [.tmp 4,.tmp 5,.tmp 6] 28 Tryz.func155 H
theorem zby(gl:Fr)(s0:Bt)(R:((Bool×Bt×Int)×Int)->Prop)
  (H:PC Tp gl 198 [Arg.mk .str s0] [.bool,.str,.str,.bool,.str,.bool] (λa:Bool×Bt×Bt×Bool×Bt×Bool=>((!a.2.2.2.2.2)=true->R ((false,((⟨#[]⟩:Bt),0)),2))/\((!a.2.2.2.2.2)=false->((decide ((Aa .i64 ((a.2.1.size:Int)+(a.2.2.1.size:Int)))>1000))=true->R ((false,((⟨#[]⟩:Bt),0)),3))/\((decide ((Aa .i64 ((a.2.1.size:Int)+(a.2.2.1.size:Int)))>1000))=false->∃(b:Bt->Bool->Bt->Int->Prop) (c:Bt->Bool->Bt->Int->Nat),b a.2.2.2.2.1 false (⟨#[]⟩:Bt) 0/\∀d:Bt,∀ak:Bool,∀am:Bt,∀al:Int,b d ak am al->((decide ((d.size:Int)>1)=true->(0<=(0:Int)/\(0:Int)<(d.size:Int)))/\((bif (decide ((d.size:Int)>1))then((zd d (0:Int).toNat:Int)==48)else false)=true->(0<=(1:Int)/\(1:Int)<=(d.size:Int)/\(d.size:Int)<=(d.size:Int))/\(b (d.extract (1:Int).toNat (d.size:Int).toNat) ak am al/\c (d.extract (1:Int).toNat (d.size:Int).toNat) ak am al<c d ak am al))/\((bif (decide ((d.size:Int)>1))then((zd d (0:Int).toNat:Int)==48)else false)=false->(decide ((d.size:Int)>9)=true->R ((false,((⟨#[]⟩:Bt),0)),4))/\(decide ((d.size:Int)>9)=false->∃(e:Int->Int->Bool->Bt->Int->Prop) (f:Int->Int->Bool->Bt->Int->Nat),e 0 0 ak am al/\∀g i:Int,∀ac:Bool,∀O:Bt,∀aa:Int,e g i ac O aa->((decide (i<d.size)=true->(0<=i/\i<d.size)/\(e (Aa .i64 ((Aa .i64 (10*g))+(Aa .i64 (Aa .u8 ((zd d i.toNat)-48))))) (Aa .i64 (i+1)) ac O aa/\f (Aa .i64 ((Aa .i64 (10*g))+(Aa .i64 (Aa .u8 ((zd d i.toNat)-48))))) (Aa .i64 (i+1)) ac O aa<f g i ac O aa))/\(decide (i<d.size)=false->∀j:Int->Bool->Bt->Int->Prop,(∀k:Int,∀ar:Bool,∀ap:Bt,∀an:Int,(Zm (a.2.1.size+a.2.2.1.size)/\∃(l:Bt->Bool->Bt->Int->Prop) (m:Bt->Bool->Bt->Int->Nat),l (a.2.1++a.2.2.1) ar ap an/\∀n:Bt,∀Z:Bool,∀af:Bt,∀ae:Int,l n Z af ae->((decide ((n.size:Int)>0)=true->(0<=(0:Int)/\(0:Int)<(n.size:Int)))/\((bif (decide ((n.size:Int)>0))then((zd n (0:Int).toNat:Int)==48)else false)=true->(0<=(1:Int)/\(1:Int)<=(n.size:Int)/\(n.size:Int)<=(n.size:Int))/\(l (n.extract (1:Int).toNat (n.size:Int).toNat) Z af ae/\m (n.extract (1:Int).toNat (n.size:Int).toNat) Z af ae<m n Z af ae))/\((bif (decide ((n.size:Int)>0))then((zd n (0:Int).toNat:Int)==48)else false)=false->((n.toList==(⟨#[]⟩:Bt).toList)=true->R ((false,((⟨#[]⟩:Bt),0)),0))/\((n.toList==(⟨#[]⟩:Bt).toList)=false->∃(o:Int->Bt->Bool->Bt->Int->Prop) (p:Int->Bt->Bool->Bt->Int->Nat),o (Aa .i64 (k-(a.2.2.1.size:Int))) n Z af ae/\∀q:Int,∀r:Bt,∀aj:Bool,∀ah:Bt,∀ai:Int,o q r aj ah ai->((0<=(Aa .i64 ((r.size:Int)-1))/\(Aa .i64 ((r.size:Int)-1))<(r.size:Int))/\(((zd r (Aa .i64 ((r.size:Int)-1)).toNat:Int)==48)=true->(0<=(0:Int)/\(0:Int)<=(Aa .i64 ((r.size:Int)-1))/\(Aa .i64 ((r.size:Int)-1))<=(r.size:Int))/\(o (Aa .i64 (q+1)) (r.extract (0:Int).toNat (Aa .i64 ((r.size:Int)-1)).toNat) aj ah ai/\p (Aa .i64 (q+1)) (r.extract (0:Int).toNat (Aa .i64 ((r.size:Int)-1)).toNat) aj ah ai<p q r aj ah ai))/\(((zd r (Aa .i64 ((r.size:Int)-1)).toNat:Int)==48)=false->((bif (decide (q<(-1000000)))then true else(decide (q>1000000)))=true->R ((false,((⟨#[]⟩:Bt),0)),4))/\((bif (decide (q<(-1000000)))then true else(decide (q>1000000)))=false->R ((a.1,(r,q)),0))))))))->j k ar ap an)->(a.2.2.2.1=true->j (Aa .i64 (0-g)) ac O aa)/\(a.2.2.2.1=false->j g ac O aa)))))))))):
  PC Tp gl 167 [Arg.mk .str s0] [.pair .bool (.pair .str (.int .i64)),.int .i64] R:=
 PF ⟨[],[],[(6,⟨[(8,.one (.dat .str))],[(2,[.dat .bool,.dat .str,.dat (.int .i64)])],[],[100512,1000128,1000129,1000130]⟩),(12,⟨[(10,.one (.dat (.int .i64))),(11,.one (.dat (.int .i64)))],[(2,[.dat .bool,.dat .str,.dat (.int .i64)])],[],[100640,100704,1000128,1000129,1000130]⟩),(19,⟨[(12,.one (.dat .str))],[(2,[.dat .bool,.dat .str,.dat (.int .i64)])],[],[100768,1000128,1000129,1000130]⟩),(23,⟨[(10,.one (.dat (.int .i64))),(12,.one (.dat .str))],[(2,[.dat .bool,.dat .str,.dat (.int .i64)])],[],[100640,100768,1000128,1000129,1000130]⟩)],[(17,⟨[(10,.one (.dat (.int .i64)))],[(2,[.dat .bool,.dat .str,.dat (.int .i64)])],[],[100640,1000128,1000129,1000130]⟩)]⟩ [.cell 2 78,.tmp 3] 107 Tryz.func167 H
theorem zdq(gl:Fr)(n0:Bool×Bt×Int)(R:Bt->Prop)
  (H:PC Tp gl 169 [Arg.mk (.pair .bool (.pair .str (.int .i64))) (n0.1,(n0.2.1,n0.2.2))] [.bool] (λa:Bool=>((!a)=true->R (⟨#[]⟩:Bt))/\((!a)=false->PC Tp gl 199 [Arg.mk (.pair .bool (.pair .str (.int .i64))) (n0.1,(n0.2.1,n0.2.2))] [.bool] (λb:Bool=>(b=true->R (⟨#[48]⟩:Bt))/\(b=false->∀c:Bt->Prop,(∀d:Bt,(((n0.2.2 != 0)=true->Zm (d.size+((⟨#[101]⟩:Bt)).size)/\PC Tp gl 200 [Arg.mk (.int .i64) n0.2.2] [.str] (λe:Bt=>Zm ((d++(⟨#[101]⟩:Bt)).size+e.size)/\R ((d++(⟨#[101]⟩:Bt))++e)))/\((n0.2.2 != 0)=false->R d))->c d)->(n0.1=true->Zm (((⟨#[45]⟩:Bt)).size+n0.2.1.size)/\c ((⟨#[45]⟩:Bt)++n0.2.1))/\(n0.1=false->c n0.2.1)))))):
  PC Tp gl 168 [Arg.mk (.pair .bool (.pair .str (.int .i64))) n0] [.str] R:=
 PF ⟨[],[],[],[(9,⟨[(4,.one (.dat .str))],[],[1],[100256]⟩)]⟩ [.tmp 2] 27 Tryz.func168 H
theorem zbz(gl:Fr)(n0:Bool×Bt×Int)(R:Bool->Prop)
  (H:PC Tp gl 199 [Arg.mk (.pair .bool (.pair .str (.int .i64))) (n0.1,(n0.2.1,n0.2.2))] [.bool] (λa:Bool=>(a=true->R true)/\(a=false->PC Tp gl 201 [Arg.mk .str n0.2.1] [.bool] (λb:Bool=>((bif b then(decide ((n0.2.1.size:Int)<=1000))else false)=true->(0<=(0:Int)/\(0:Int)<(n0.2.1.size:Int)))/\((bif (bif b then(decide ((n0.2.1.size:Int)<=1000))else false)then((zd n0.2.1 (0:Int).toNat:Int) != 48)else false)=true->(0<=(Aa .i64 ((n0.2.1.size:Int)-1))/\(Aa .i64 ((n0.2.1.size:Int)-1))<(n0.2.1.size:Int)))/\R (bif (bif (bif (bif (bif b then(decide ((n0.2.1.size:Int)<=1000))else false)then((zd n0.2.1 (0:Int).toNat:Int) != 48)else false)then((zd n0.2.1 (Aa .i64 ((n0.2.1.size:Int)-1)).toNat:Int) != 48)else false)then(decide (n0.2.2>=(-1000000)))else false)then(decide (n0.2.2<=1000000))else false))))):
  PC Tp gl 169 [Arg.mk (.pair .bool (.pair .str (.int .i64))) n0] [.bool] R:=
 PF ⟨[],[],[],[]⟩ [.tmp 2] 42 Tryz.func169 H
theorem zb0(gl:Fr)(s0:Bt)(R:(Bool×Bt×Bt×Bool×Bt×Bool)->Prop)
  (H:(decide ((s0.size:Int)>0)=true->(0<=(0:Int)/\(0:Int)<(s0.size:Int)))/\∀a:Bt->Prop,(∀b:Bt,(∃(c:Int->Prop) (d:Int->Nat),c 0/\∀e:Int,c e->((decide (e<b.size)=true->(0<=e/\e<b.size))/\((bif (decide (e<b.size))then((zd b e.toNat:Int) != 101)else false)=true->(0<=e/\e<b.size))/\((bif (bif (decide (e<b.size))then((zd b e.toNat:Int) != 101)else false)then((zd b e.toNat:Int) != 69)else false)=true->(c (Aa .i64 (e+1))/\d (Aa .i64 (e+1))<d e))/\((bif (bif (decide (e<b.size))then((zd b e.toNat:Int) != 101)else false)then((zd b e.toNat:Int) != 69)else false)=false->∀f:Bt->Bool->Prop,(∀g:Bt,∀i:Bool,((0<=(0:Int)/\(0:Int)<=e/\e<=b.size)/\∃(j:Int->Prop) (k:Int->Nat),j 0/\∀l:Int,j l->(((decide (l<((b.extract (0:Int).toNat e.toNat).size:Int)))=true->(0<=l/\l<((b.extract (0:Int).toNat e.toNat).size:Int)))/\((bif (decide (l<((b.extract (0:Int).toNat e.toNat).size:Int)))then((zd (b.extract (0:Int).toNat e.toNat) l.toNat:Int) != 46)else false)=true->(j (Aa .i64 (l+1))/\k (Aa .i64 (l+1))<k l))/\((bif (decide (l<((b.extract (0:Int).toNat e.toNat).size:Int)))then((zd (b.extract (0:Int).toNat e.toNat) l.toNat:Int) != 46)else false)=false->(0<=(0:Int)/\(0:Int)<=l/\l<=((b.extract (0:Int).toNat e.toNat).size:Int))/\∀m:Bt->Prop,(∀n:Bt,(PC Tp gl 201 [Arg.mk .str ((b.extract (0:Int).toNat e.toNat).extract (0:Int).toNat l.toNat)] [.bool] (λo:Bool=>∃p:Bool->Prop,(o=true->PC Tp gl 201 [Arg.mk .str n] [.bool] p)/\∀q:Bool,(o=true->p q)->∃r:Bool->Prop,((bif o then q else false)=true->PC Tp gl 201 [Arg.mk .str g] [.bool] r)/\∀s:Bool,((bif o then q else false)=true->r s)->(((bif (bif o then q else false)then s else false)&&(!(((b.extract (0:Int).toNat e.toNat).extract (0:Int).toNat l.toNat:Bt).toList==(⟨#[48]⟩:Bt).toList)))=true->(0<=(0:Int)/\(0:Int)<(((b.extract (0:Int).toNat e.toNat).extract (0:Int).toNat l.toNat).size:Int)))/\∀t:Bt->Prop,(∀u:Bt,(R (bif (decide ((s0.size:Int)>0))then((zd s0 (0:Int).toNat:Int)==45)else false,(b.extract (0:Int).toNat e.toNat).extract (0:Int).toNat l.toNat,u,i,g,bif (bif (bif o then q else false)then s else false)then(bif (((b.extract (0:Int).toNat e.toNat).extract (0:Int).toNat l.toNat:Bt).toList==(⟨#[48]⟩:Bt).toList)then true else((zd ((b.extract (0:Int).toNat e.toNat).extract (0:Int).toNat l.toNat) (0:Int).toNat:Int) != 48))else false))->t u)->((l==((b.extract (0:Int).toNat e.toNat).size:Int))=true->t (⟨#[]⟩:Bt))/\((l==((b.extract (0:Int).toNat e.toNat).size:Int))=false->t n)))->m n)->((decide (l<((b.extract (0:Int).toNat e.toNat).size:Int)))=true->(0<=(Aa .i64 (l+1))/\(Aa .i64 (l+1))<=((b.extract (0:Int).toNat e.toNat).size:Int)/\(((b.extract (0:Int).toNat e.toNat).size:Int):Int)<=((b.extract (0:Int).toNat e.toNat).size:Int))/\m ((b.extract (0:Int).toNat e.toNat).extract (Aa .i64 (l+1)).toNat (((b.extract (0:Int).toNat e.toNat).size:Int):Int).toNat))/\((decide (l<((b.extract (0:Int).toNat e.toNat).size:Int)))=false->m (⟨#[48]⟩:Bt)))))->f g i)->(decide (e<b.size)=true->(0<=(Aa .i64 (e+1))/\(Aa .i64 (e+1))<=(b.size:Int)/\(b.size:Int)<=(b.size:Int))/\((decide ((((b.extract (Aa .i64 (e+1)).toNat (b.size:Int).toNat).size:Int):Int)>0))=true->(0<=(0:Int)/\(0:Int)<((b.extract (Aa .i64 (e+1)).toNat (b.size:Int).toNat).size:Int)))/\(((!(bif (decide ((((b.extract (Aa .i64 (e+1)).toNat (b.size:Int).toNat).size:Int):Int)>0))then((zd (b.extract (Aa .i64 (e+1)).toNat (b.size:Int).toNat) (0:Int).toNat:Int)==45)else false))&&(decide ((((b.extract (Aa .i64 (e+1)).toNat (b.size:Int).toNat).size:Int):Int)>0)))=true->(0<=(0:Int)/\(0:Int)<((b.extract (Aa .i64 (e+1)).toNat (b.size:Int).toNat).size:Int)))/\((bif (bif (decide ((((b.extract (Aa .i64 (e+1)).toNat (b.size:Int).toNat).size:Int):Int)>0))then((zd (b.extract (Aa .i64 (e+1)).toNat (b.size:Int).toNat) (0:Int).toNat:Int)==45)else false)then true else(bif (decide ((((b.extract (Aa .i64 (e+1)).toNat (b.size:Int).toNat).size:Int):Int)>0))then((zd (b.extract (Aa .i64 (e+1)).toNat (b.size:Int).toNat) (0:Int).toNat:Int)==43)else false))=true->(0<=(1:Int)/\(1:Int)<=((b.extract (Aa .i64 (e+1)).toNat (b.size:Int).toNat).size:Int)/\(((b.extract (Aa .i64 (e+1)).toNat (b.size:Int).toNat).size:Int):Int)<=((b.extract (Aa .i64 (e+1)).toNat (b.size:Int).toNat).size:Int))/\f ((b.extract (Aa .i64 (e+1)).toNat (b.size:Int).toNat).extract (1:Int).toNat (((b.extract (Aa .i64 (e+1)).toNat (b.size:Int).toNat).size:Int):Int).toNat) (bif (decide ((((b.extract (Aa .i64 (e+1)).toNat (b.size:Int).toNat).size:Int):Int)>0))then((zd (b.extract (Aa .i64 (e+1)).toNat (b.size:Int).toNat) (0:Int).toNat:Int)==45)else false))/\((bif (bif (decide ((((b.extract (Aa .i64 (e+1)).toNat (b.size:Int).toNat).size:Int):Int)>0))then((zd (b.extract (Aa .i64 (e+1)).toNat (b.size:Int).toNat) (0:Int).toNat:Int)==45)else false)then true else(bif (decide ((((b.extract (Aa .i64 (e+1)).toNat (b.size:Int).toNat).size:Int):Int)>0))then((zd (b.extract (Aa .i64 (e+1)).toNat (b.size:Int).toNat) (0:Int).toNat:Int)==43)else false))=false->f (b.extract (Aa .i64 (e+1)).toNat (b.size:Int).toNat) (bif (decide ((((b.extract (Aa .i64 (e+1)).toNat (b.size:Int).toNat).size:Int):Int)>0))then((zd (b.extract (Aa .i64 (e+1)).toNat (b.size:Int).toNat) (0:Int).toNat:Int)==45)else false)))/\(decide (e<b.size)=false->f (⟨#[48]⟩:Bt) false))))->a b)->((bif (decide ((s0.size:Int)>0))then((zd s0 (0:Int).toNat:Int)==45)else false)=true->(0<=(1:Int)/\(1:Int)<=(s0.size:Int)/\(s0.size:Int)<=(s0.size:Int))/\a (s0.extract (1:Int).toNat (s0.size:Int).toNat))/\((bif (decide ((s0.size:Int)>0))then((zd s0 (0:Int).toNat:Int)==45)else false)=false->a s0)):
  PC Tp gl 198 [Arg.mk .str s0] [.bool,.str,.str,.bool,.str,.bool] R:=
 PF ⟨[],[],[(5,⟨[(9,.one (.dat (.int .i64)))],[],[],[100576]⟩),(16,⟨[(9,.one (.dat (.int .i64)))],[],[],[100576]⟩)],[(4,⟨[(0,.one (.dat .str))],[],[],[100000]⟩),(14,⟨[(10,.one (.dat .str)),(11,.one (.dat .bool))],[],[],[100640,100704]⟩),(22,⟨[(13,.one (.dat .str))],[],[],[100832]⟩),(25,⟨[(13,.one (.dat .str))],[],[],[100832]⟩)]⟩ [.tmp 2,.tmp 3,.tmp 4,.tmp 5,.tmp 6,.tmp 7] 128 Tryz.func198 H
theorem zao(gl:Fr)(n0:Bool×Bt×Int)(R:Bool->Prop)
  (H:R ((n0.1==false)&&((n0.2.1.toList==(⟨#[]⟩:Bt).toList)&&((n0.2.2==0)&&true)))):
  PC Tp gl 199 [Arg.mk (.pair .bool (.pair .str (.int .i64))) n0] [.bool] R:=
 PF ⟨[],[],[],[]⟩ [.tmp 2] 6 Tryz.func199 H
theorem Xl(gl:Fr)(n0:Int)(R:Bt->Prop)
  (H:((bif (decide (n0>=0))then(decide (n0<10))else false)=true->(0<=n0/\n0<=(Aa .i64 (n0+1))/\(Aa .i64 (n0+1))<=(((⟨#[48,49,50,51,52,53,54,55,56,57]⟩:Bt)).size:Int))/\R (((⟨#[48,49,50,51,52,53,54,55,56,57]⟩:Bt)).extract n0.toNat (Aa .i64 (n0+1)).toNat))/\((bif (decide (n0>=0))then(decide (n0<10))else false)=false->(decide (n0>0)=true->Cp=Cp/\(10:Int)≠0/\Cp=Cp/\(10:Int)≠0/\Cp=Cp/\(10:Int)≠0/\(0<=(n0.tmod 10:Int)/\(n0.tmod 10:Int)<=(Aa .i64 ((n0.tmod 10)+1))/\(Aa .i64 ((n0.tmod 10)+1))<=(((⟨#[48,49,50,51,52,53,54,55,56,57]⟩:Bt)).size:Int))/\PC Tp gl 200 [Arg.mk (.int .i64) (Aa .i64 (n0.tdiv 10))] [.str] (λa:Bt=>Zm (a.size+(((⟨#[48,49,50,51,52,53,54,55,56,57]⟩:Bt)).extract (n0.tmod 10:Int).toNat (Aa .i64 ((n0.tmod 10)+1)).toNat).size)/\R (a++(((⟨#[48,49,50,51,52,53,54,55,56,57]⟩:Bt)).extract (n0.tmod 10:Int).toNat (Aa .i64 ((n0.tmod 10)+1)).toNat))))/\(decide (n0>0)=false->(decide (n0>(-10))=true->(0<=(Aa .i64 (0-n0))/\(Aa .i64 (0-n0))<=(Aa .i64 ((Aa .i64 (0-n0))+1))/\(Aa .i64 ((Aa .i64 (0-n0))+1))<=(((⟨#[48,49,50,51,52,53,54,55,56,57]⟩:Bt)).size:Int))/\Zm (((⟨#[45]⟩:Bt)).size+(((⟨#[48,49,50,51,52,53,54,55,56,57]⟩:Bt)).extract (Aa .i64 (0-n0)).toNat (Aa .i64 ((Aa .i64 (0-n0))+1)).toNat).size)/\R ((⟨#[45]⟩:Bt)++(((⟨#[48,49,50,51,52,53,54,55,56,57]⟩:Bt)).extract (Aa .i64 (0-n0)).toNat (Aa .i64 ((Aa .i64 (0-n0))+1)).toNat)))/\(decide (n0>(-10))=false->Cp=Cp/\(10:Int)≠0/\Cp=Cp/\(10:Int)≠0/\Cp=Cp/\(10:Int)≠0/\(0<=(Aa .i64 (0-(n0.tmod 10)))/\(Aa .i64 (0-(n0.tmod 10)))<=(Aa .i64 ((Aa .i64 (0-(n0.tmod 10)))+1))/\(Aa .i64 ((Aa .i64 (0-(n0.tmod 10)))+1):Int)<=(((⟨#[48,49,50,51,52,53,54,55,56,57]⟩:Bt)).size:Int))/\PC Tp gl 200 [Arg.mk (.int .i64) (Aa .i64 (n0.tdiv 10))] [.str] (λb:Bt=>Zm (b.size+(((⟨#[48,49,50,51,52,53,54,55,56,57]⟩:Bt)).extract (Aa .i64 (0-(n0.tmod 10))).toNat (Aa .i64 ((Aa .i64 (0-(n0.tmod 10)))+1):Int).toNat).size)/\R (b++(((⟨#[48,49,50,51,52,53,54,55,56,57]⟩:Bt)).extract (Aa .i64 (0-(n0.tmod 10))).toNat (Aa .i64 ((Aa .i64 (0-(n0.tmod 10)))+1):Int).toNat))))))):
  PC Tp gl 200 [Arg.mk (.int .i64) n0] [.str] R:=
 PF ⟨[],[(5,10,[],[0,1,3,4,5,6,7,8,9,2],[]),(8,12,[],[0,1,3,4,5,6,7,8,9,10,11,2],[])],[],[]⟩ [.tmp 2] 51 Tryz.func200 H
theorem zap(gl:Fr)(s0:Bt)(R:Bool->Prop)
  (H:∃(a:Int->Prop) (b:Int->Nat),a 0/\∀c:Int,a c->((decide (c<s0.size)=true->(0<=c/\c<s0.size)/\((!(decide ((zd s0 c.toNat:Int)<48)))=true->(0<=c/\c<s0.size))/\((bif (decide ((zd s0 c.toNat:Int)<48))then true else(decide ((zd s0 c.toNat:Int)>57)))=true->R false)/\((bif (decide ((zd s0 c.toNat:Int)<48))then true else(decide ((zd s0 c.toNat:Int)>57)))=false->(a (Aa .i64 (c+1))/\b (Aa .i64 (c+1))<b c)))/\(decide (c<s0.size)=false->R (decide ((s0.size:Int)>0))))):
  PC Tp gl 201 [Arg.mk .str s0] [.bool] R:=
 PF ⟨[],[],[(2,⟨[(3,.one (.dat (.int .i64)))],[],[],[100192]⟩)],[]⟩ [.tmp 2] 23 Tryz.func201 H
end
section
abbrev bl(l:List UInt8):Bt:=⟨l.toArray⟩
abbrev lb(s:Bt):List UInt8:=s.data.toList
@[simp] theorem Zk(l:List UInt8):lb (bl l)=l:=by simp[lb]
@[simp] theorem zaq(s:Bt):bl (lb s)=s:=by cases s;simp[lb,bl]
theorem zk9{s t:Bt}:lb s=lb t↔s=t:=⟨λh=>by rw[<-zaq s,h,zaq],λh=>by rw[h]⟩
theorem Js(s:Bt):(lb s).length=s.size:=by cases s;simp[lb,ByteArray.size]
theorem zx1(s t:Bt):lb (s++t)=lb s++lb t:=by
 cases s;cases t
 simp[lb]
theorem zvc(s:Bt)(a b:Nat):lb (s.extract a b)=((lb s).drop a).take (b-a):=by
 cases s
 simp[lb,ByteArray.data_extract,List.extract_eq_take_drop]
theorem zie(s:Bt)(i:Nat):zd s i=((((lb s)[i]?).getD 0).toNat:Int):=by
 cases s;simp[lb,zd]
theorem z5x(s:Bt)(i:Nat):s.get! i=((lb s)[i]?).getD 0:=by
 cases s with
 |mk d=>simp[lb,ByteArray.get!,Array.getElem!_eq_getD];rfl
theorem jk(s:Bt)(i:Nat):0<=zd s i/\zd s i<256:=by
 rw[zie]
 have:=(((lb s)[i]?).getD 0).toNat_lt
 omega
def dec(l:List UInt8):Nat×Nat:=Go.Lib.decodeN l.length (l.getD 0 0).toNat (l.getD 1 0).toNat (l.getD 2 0).toNat (l.getD 3 0).toNat
theorem zx2(s:Bt)(i:Nat):Utf8.decode s i=dec ((lb s).drop i):=by
 rw[Go.Lib.decode_at,dec]
 simp only[z5x,Ct,AH,Bg,Js,CX]
theorem Yj(l:List UInt8):1<=(dec l).2/\(dec l).2<=4:=by
 unfold dec Go.Lib.decodeN
 repeat' split
 all_goals simp
theorem zx3{l:List UInt8}(h:l≠[]):(dec l).2<=l.length:=by
 have:0<l.length:=BB.2 h
 unfold dec Go.Lib.decodeN
 repeat' split
 all_goals simp only
 all_goals omega
def zn3(d:Nat×Nat):Bool:=d.1==65533&&d.2==1
def xe(l:List UInt8):Bool:=if h:l=[]then true else if zn3 (dec l)then false else xe (l.drop (dec l).2)
termination_by l.length
decreasing_by
 have h1:=Yj l
 have h2:0<l.length:=BB.2 h
 simp only[Bg];omega
theorem zmo:xe []=true:=by unfold xe;simp
theorem Qe{l:List UInt8}(h:l≠[]):xe l=if zn3 (dec l)then false else xe (l.drop (dec l).2):=by
 rw[xe];simp[h]
theorem Xm{c:UInt8}{l:List UInt8}(h:c.toNat<128):dec (c::l)=(c.toNat,1):=by
 simp[dec,Go.Lib.decodeN,h]
theorem zvd{c:UInt8}{l:List UInt8}(h:c.toNat<128):zn3 (dec (c::l))=false:=by
 rw[Xm h,zn3]
 have:(c.toNat==65533)=false:=by simp;omega
 simp[this]
theorem zla{c:UInt8}{l:List UInt8}(h:c.toNat<128):xe (c::l)=xe l:=by
 rw[Qe (by simp),zvd h,Xm h];simp
end
end Go.X
end
section
namespace Go.X
open Go Go.Lib
section
abbrev Bs:=List UInt8
end
end Go.X
end
section
namespace Go.X
section
variable {n b0 b1 b2 b3:Nat} {gl:Fr}
theorem z5y{α:Type}{B:α->Prop}{c:Bool}{a b:α}(h:B (bif c then a else b)):∀K:α->Prop,(∀v,B v->K v)->(c=true->K a)/\(c=false->K b):=
 λK hK=>⟨λhc=>hK _ (by subst hc;exact h),λhc=>hK _ (by subst hc;exact h)⟩
theorem qbs(s:Bt)(i:Nat):Aa .i64 (zd s i)=zd s i:=by
 have:=jk s i
 exact wrap64 (by omega) (by omega)
theorem zif{n:Int}(h1:-2147483648<=n)(h2:n<=2147483647):Aa .i32 n=n:=by
 unfold Aa
 have e:(2:Int) ^ Ar .i32=4294967296:=by decide
 have e':(2:Int) ^ (Ar .i32-1)=2147483648:=by decide
 simp only[e,e']
 have hs:DO .i32=true:=rfl
 simp only[hs,Bf,decide_eq_true_eq]
 split <;> omega
theorem zx4(s:Bt)(a:Nat):dec ((lb s).drop a)=Lib.decodeN (s.size-a) (zd s a).toNat (zd s (a+1)).toNat (zd s (a+2)).toNat (zd s (a+3)).toNat:=by
 simp only[dec,zie,Ct,AH,Bg,Js,CX,Ad]
def z1t(c:Int):Int:=if c<128 then 1 else if 194<=c/\c<=223 then 2 else if 224<=c/\c<=239 then 3 else if 240<=c/\c<=244 then 4 else 0
theorem z5z{c:Int}{R:Int->Prop}(h:R (z1t c)):PC Tp gl 143 [Arg.mk (.int .i64) c] [.int .i64] R:=by
 apply zdp
 unfold z1t at h
 grind
theorem qbt(h:b0<128):Lib.decodeN n b0 b1 b2 b3=(b0,1):=by
 unfold Lib.decodeN;rw[if_pos h]
theorem qch(h:128<=b0/\b0<194\/245<=b0/\b0<256):Lib.decodeN n b0 b1 b2 b3=(65533,1):=by
 refine Lib.bad_eq _ _ _ _ _ (by omega) ?_
 unfold Lib.firstT
 repeat' split
 all_goals first|rfl|(exfalso;omega)
theorem qbu(h:194<=b0/\b0<224)(h1:b1<256):Lib.decodeN n b0 b1 b2 b3=if 2<=n/\128<=b1/\b1<=191 then((b0-192)*64+(b1-128),2)else(65533,1):=by
 unfold Lib.decodeN
 rw[if_neg (by omega)]
 by_cases hc:2<=n/\128<=b1/\b1<=191
 ·have e:b0 % 32*64+b1 % 64=(b0-192)*64+(b1-128):=by omega
  rw[if_pos (by omega),if_pos (by omega),if_pos hc,e]
 ·rw[if_neg (by omega),if_neg (by omega),if_neg (by omega),if_neg hc]
theorem qbv(h:224<=b0/\b0<240)(h1:b1<256)(h2:b2<256):Lib.decodeN n b0 b1 b2 b3=
  if 3<=n/\(128<=b1/\b1<=191)/\(128<=b2/\b2<=191)/\2048<=((b0-224)*64+(b1-128))*64+(b2-128)/\(((b0-224)*64+(b1-128))*64+(b2-128)<55296\/57344<=((b0-224)*64+(b1-128))*64+(b2-128))
  then(((b0-224)*64+(b1-128))*64+(b2-128),3)else(65533,1):=by
 unfold Lib.decodeN
 rw[if_neg (by omega),if_neg (by omega)]
 by_cases hc:3<=n/\(128<=b1/\b1<=191)/\(128<=b2/\b2<=191)
 ·rw[if_pos (by omega)]
  have e:b0 % 16*4096+b1 % 64*64+b2 % 64=((b0-224)*64+(b1-128))*64+(b2-128):=by omega
  rw[e]
  split <;> rename_i hx
  ·rw[if_pos (by omega)]
  ·rw[if_neg (by omega)]
 ·rw[if_neg (by omega),if_neg (by omega),if_neg (by omega)]
theorem qbw(h:240<=b0/\b0<245)(h1:b1<256)(h2:b2<256)(h3:b3<256):Lib.decodeN n b0 b1 b2 b3=
  if 4<=n/\(128<=b1/\b1<=191)/\(128<=b2/\b2<=191)/\(128<=b3/\b3<=191)/\65536<=(((b0-240)*64+(b1-128))*64+(b2-128))*64+(b3-128)/\(((b0-240)*64+(b1-128))*64+(b2-128))*64+(b3-128)<=1114111
  then((((b0-240)*64+(b1-128))*64+(b2-128))*64+(b3-128),4)else(65533,1):=by
 unfold Lib.decodeN
 rw[if_neg (by omega),if_neg (by omega),if_neg (by omega)]
 by_cases hc:4<=n/\(128<=b1/\b1<=191)/\(128<=b2/\b2<=191)/\(128<=b3/\b3<=191)
 ·rw[if_pos (by omega)]
  have e:b0 % 8*262144+b1 % 64*4096+b2 % 64*64+b3 % 64=(((b0-240)*64+(b1-128))*64+(b2-128))*64+(b3-128):=by omega
  rw[e]
  split <;> rename_i hx
  ·rw[if_pos (by omega)]
  ·rw[if_neg (by omega)]
 ·rw[if_neg (by omega),if_neg (by omega)]
def zx5(s:Bt)(O:Int):Int×Int:=if O<0\/O>=s.size then(0,0)else(((dec ((lb s).drop O.toNat)).1:Int),((dec ((lb s).drop O.toNat)).2:Int))
set_option maxHeartbeats 1000000 in
theorem zx6{s:Bt}{aa:Int}{R:Int×Int->Prop}(hs:(s.size:Int)<=4611686018427387904)(h:R (zx5 s aa)):PC Tp gl 115 [Arg.mk .str s,Arg.mk (.int .i64) aa] [.int .i32,.int .i64] R:=by
 apply zdn
 unfold zx5 at h
 refine⟨λhc=>?_,λhc=>?_⟩
 ·rw[if_pos (by grind)]at h;exact h
 ·have hb:0<=aa/\aa<(s.size:Int):=by grind
  rw[if_neg (by omega),zx4]at h
  refine⟨hb,z5z ?_⟩
  obtain⟨a,rfl⟩:∃a:Nat,aa=(a:Int):=⟨aa.toNat,by omega⟩
  simp only[Ad,qbs]at h ⊢
  have r0:=jk s a;have r1:=jk s (a+1);have r2:=jk s (a+2);have r3:=jk s (a+3)
  have ix:∀i:Int,1<=i->i<=4->(Aa .i64 ((a:Int)+i))=(a:Int)+i:=λi h1 h2=>wrap64 (by omega) (by omega)
  have e1:((a:Int)+1).toNat=a+1:=by omega
  have e2:((a:Int)+2).toNat=a+2:=by omega
  have e3:((a:Int)+3).toNat=a+3:=by omega
  have ap:Aa .i64 ((s.size:Int)-(a:Int))=(s.size:Int)-(a:Int):=wrap64 (by omega) (by omega)
  rw[ap]
  generalize hn:z1t (zd s a)=n
  unfold z1t at hn
  generalize aC:zd s a=b0 at *
  refine⟨λam=>?_,λam=>⟨hb,?_⟩⟩
  ·have:Lib.decodeN (s.size-a) b0.toNat (zd s (a+1)).toNat (zd s (a+2)).toNat (zd s (a+3)).toNat=(65533,1):=by
    have ax:n=0\/n>(s.size:Int)-a:=by grind
    unfold Lib.decodeN
    repeat' split
    all_goals first|rfl|(exfalso;split at hn <;> first|omega|(split at hn <;> first|omega|(split at hn <;> first|omega|(split at hn <;> omega))))
   rw[this]at h;exact h
  ·have ax:n≠0/\n<=(s.size:Int)-a:=by grind
   apply z5y;apply z5y;apply z5y
   have hv:(bif n==4 then Aa .i64 ((bif n==3 then Aa .i64 ((bif n==2 then Aa .i64 (b0-192)else b0)-224)else bif n==2 then Aa .i64 (b0-192)else b0)-240)else bif n==3 then Aa .i64 ((bif n==2 then Aa .i64 (b0-192)else b0)-224)else bif n==2 then Aa .i64 (b0-192)else b0)
     = (if n=4 then b0-240 else if n=3 then b0-224 else if n=2 then b0-192 else b0):=by
    have w1:Aa .i64 (b0-192)=b0-192:=wrap64 (by omega) (by omega)
    have w2:Aa .i64 (b0-224)=b0-224:=wrap64 (by omega) (by omega)
    have w3:Aa .i64 (b0-240)=b0-240:=wrap64 (by omega) (by omega)
    grind
   rw[hv]
   generalize aB:(if n=4 then b0-240 else if n=3 then b0-224 else if n=2 then b0-192 else b0)=v1
   have az:0<=v1/\v1<128:=by grind
   have ay:n=4->v1<=4:=by grind
   generalize ah:zd s (a+1)=b1 at *
   generalize ai:zd s (a+2)=b2 at *
   generalize al:zd s (a+3)=b3 at *
   have q1:=jk s (a+1);have q2:=jk s (a+2);have q3:=jk s (a+3)
   rw[ah]at q1;rw[ai]at q2;rw[al]at q3
   obtain⟨N,hN⟩:∃N:Nat,s.size-a=N:=⟨_,rfl⟩
   have aD:(N:Int)=s.size-a:=by omega
   rw[hN]at h
   have aj:n=1\/n=2\/n=3\/n=4:=by grind
   have ak:∀v:Int,(n=1->v=v1)->(n=2->(128<=b1/\b1<=191)/\v=64*v1+b1-128)->(n=3->(128<=b1/\b1<=191)/\(128<=b2/\b2<=191)/\v=64*(64*v1+b1-128)+b2-128) ->
     (n=4->(128<=b1/\b1<=191)/\(128<=b2/\b2<=191)/\(128<=b3/\b3<=191)/\v=64*(64*(64*v1+b1-128)+b2-128)+b3-128) ->
     (((n=3/\v<2048)\/(n=4/\v<65536)\/v>1114111\/(v>=55296/\v<57344))->R (65533,1))/\(¬((n=3/\v<2048)\/(n=4/\v<65536)\/v>1114111\/(v>=55296/\v<57344))->R (Aa .i32 v,n)):=by
    intro v k1 k2 k3 k4
    rcases aj with rfl|rfl|rfl|rfl
    ·have O:b0<128:=by grind
     have:=k1 rfl
     have ae:v1=b0:=by grind
     rw[qbt (by omega)]at h
     refine⟨λhx=>by omega,λ_=>?_⟩
     rw[zif (by omega) (by omega)]
     have e:((b0.toNat:Nat):Int)=v:=by omega
     simp only[e]at h
     exact h
    ·have O:194<=b0/\b0<224:=by grind
     obtain⟨c1,hv⟩:=k2 rfl
     have ae:v1=b0-192:=by grind
     rw[qbu (by omega) (by omega),if_pos (by omega)]at h
     refine⟨λhx=>by omega,λ_=>?_⟩
     rw[zif (by omega) (by omega)]
     have e:(((b0.toNat-192)*64+(b1.toNat-128):Nat):Int)=v:=by omega
     simp only[e]at h
     exact h
    ·have O:224<=b0/\b0<240:=by grind
     obtain⟨c1,c2,hv⟩:=k3 rfl
     have ae:v1=b0-224:=by grind
     have e:((((b0.toNat-224)*64+(b1.toNat-128))*64+(b2.toNat-128):Nat):Int)=v:=by omega
     rw[qbv (by omega) (by omega) (by omega)]at h
     refine⟨λhx=>?_,λhx=>?_⟩
     ·rw[if_neg (by omega)]at h;exact h
     ·rw[if_pos (by omega)]at h
      rw[zif (by omega) (by omega)]
      simp only[e]at h
      exact h
    ·have O:240<=b0/\b0<245:=by grind
     obtain⟨c1,c2,c3,hv⟩:=k4 rfl
     have ae:v1=b0-240:=by grind
     have e:(((((b0.toNat-240)*64+(b1.toNat-128))*64+(b2.toNat-128))*64+(b3.toNat-128):Nat):Int)=v:=by omega
     rw[qbw (by omega) (by omega) (by omega) (by omega)]at h
     refine⟨λhx=>?_,λhx=>?_⟩
     ·rw[if_neg (by omega)]at h;exact h
     ·rw[if_pos (by omega)]at h
      rw[zif (by omega) (by omega)]
      simp only[e]at h
      exact h
   have ar:∀i:Int,1<=i->i<n->((i=1/\¬(128<=b1/\b1<=191))\/(i=2/\¬(128<=b2/\b2<=191))\/(i=3/\¬(128<=b3/\b3<=191)))->R (65533,1):=by
    intro i i1 i2 hx
    rcases aj with rfl|rfl|rfl|rfl
    ·omega
    ·have O:194<=b0/\b0<224:=by grind
     rw[qbu (by omega) (by omega),if_neg (by omega)]at h;exact h
    ·have O:224<=b0/\b0<240:=by grind
     rw[qbv (by omega) (by omega) (by omega),if_neg (by omega)]at h;exact h
    ·have O:240<=b0/\b0<245:=by grind
     rw[qbw (by omega) (by omega) (by omega) (by omega),if_neg (by omega)]at h;exact h
   clear h hn hv hc am
   refine⟨λv i=>1<=i/\i<=n/\(0<=v/\v<2097152)/\(i=1->v=v1)/\(i=2->(128<=b1/\b1<=191)/\v=64*v1+b1-128)/\(i=3->(128<=b1/\b1<=191)/\(128<=b2/\b2<=191)/\v=64*(64*v1+b1-128)+b2-128)
    /\ (i=4->(128<=b1/\b1<=191)/\(128<=b2/\b2<=191)/\(128<=b3/\b3<=191)/\v=64*(64*(64*v1+b1-128)+b2-128)+b3-128),λv i=>(n-i).toNat,by omega,λv i hi=>⟨λhl=>?_,λhl=>?_⟩⟩
   ·have af:i<n:=by simpa using hl
    obtain⟨i1,i2,j0,j1,j2,j3,j4⟩:=hi
    rw[ix i i1 (by omega)]
    obtain⟨b,ac⟩:∃b,zd s ((a:Int)+i).toNat=b:=⟨_,rfl⟩
    have Z:(i=1->b=b1)/\(i=2->b=b2)/\(i=3->b=b3):=by
     refine⟨λe=>?_,λe=>?_,λe=>?_⟩ <;> subst e
     ·rw[<-ac,e1,ah]
     ·rw[<-ac,e2,ai]
     ·rw[<-ac,e3,al]
    rw[ac]
    have au:=jk s ((a:Int)+i).toNat
    rw[ac]at au
    refine⟨by omega,λhq=>ar i i1 af ?_,λhq=>?_⟩
    ·have:b<128\/b>191:=by grind
     omega
    ·have aA:¬(b<128\/b>191):=by grind
     have w1:Aa .i64 (64*v)=64*v:=wrap64 (by omega) (by omega)
     have w2:Aa .i64 (64*v+b)=64*v+b:=wrap64 (by omega) (by omega)
     have w3:Aa .i64 (64*v+b-128)=64*v+b-128:=wrap64 (by omega) (by omega)
     have w4:Aa .i64 (i+1)=i+1:=wrap64 (by omega) (by omega)
     rw[w1,w2,w3,w4]
     have an:i=1\/i=2\/i=3:=by omega
     dsimp only
     refine⟨⟨by omega,by omega,?_,by omega,?_,?_,?_⟩,by omega⟩
     ·rcases an with rfl|rfl|rfl
      ·have:=j1 rfl;have:=Z.1 rfl;omega
      ·have:=j2 rfl;have:=Z.2.1 rfl;omega
      ·have:=j3 rfl;have:=Z.2.2 rfl;omega
     ·intro e
      have e':i=1:=by omega
      have:=j1 e';have:=Z.1 e';omega
     ·intro e
      have e':i=2:=by omega
      have:=j2 e';have:=Z.2.1 e';omega
     ·intro e
      have e':i=3:=by omega
      have:=j3 e';have:=Z.2.2 e';omega
   ·have af:i=n:=by(have:¬i<n:=by simpa using hl);omega
    subst af
    obtain⟨i1,i2,j0,j1,j2,j3,j4⟩:=hi
    obtain⟨g1,g2⟩:=ak v j1 j2 j3 j4
    refine⟨λhx=>g1 ?_,λhx=>g2 ?_⟩
    ·grind
    ·grind
def z1u(s:Bt)(a:Nat):Bool:=!zn3 (dec ((lb s).drop a))
theorem z6a{s:Bt}{a:Nat}{R:Bool->Prop}(ha:a<s.size)(hs:(s.size:Int)<=4611686018427387904)(h:R (z1u s a)):PC Tp gl 114 [Arg.mk .str s,Arg.mk (.int .i64) a] [.bool] R:=by
 apply zdm
 refine zx6 hs ?_
 have hw:=Yj ((lb s).drop a)
 unfold z1u zn3 at h
 have e:zx5 s (a:Int)=(((dec ((lb s).drop a)).1:Int),((dec ((lb s).drop a)).2:Int)):=by
  unfold zx5
  rw[if_neg (by omega)];rfl
 rw[e]
 obtain⟨d,hd⟩:∃d,dec ((lb s).drop a)=d:=⟨_,rfl⟩
 rw[hd]at h hw ⊢
 have e1:decide (((d.2:Nat):Int)>0)=true:=by simp;omega
 have e2:((((d.1:Nat):Int))==65533)=(d.1==65533):=by rw[AB];simp;omega
 have e3:((((d.2:Nat):Int))==1)=(d.2==1):=by rw[AB];simp;omega
 show R (bif decide (((d.2:Nat):Int)>0)then !bif (((d.1:Nat):Int))==65533 then(((d.2:Nat):Int))==1 else false else false)
 rw[e1,e2,e3]
 simpa only[cond_true,Ba]using h
theorem zrb{s:Bt}{R:Int×Bool->Prop}(hs:(s.size:Int)<=4611686018427387904)(h:∀k,R (k,xe (lb s))):PC Tp gl 76 [Arg.mk .str s] [.int .i64,.bool] R:=by
 apply zbv
 refine⟨λa=>0<=a/\a<=(s.size:Int)/\xe (lb s)=xe ((lb s).drop a.toNat),λa=>((s.size:Int)-a).toNat,⟨by omega,by omega,by simp⟩,λa ⟨h0,h1,h2⟩=>⟨λhc=>?_,λhc=>?_⟩⟩
 ·have Z:a<(s.size:Int):=by simpa using hc
  obtain⟨k,rfl⟩:∃k:Nat,a=(k:Int):=⟨a.toNat,by omega⟩
  simp only[Ad]at h2
  have O:(lb s).drop k≠[]:=by
   intro e
   have:=congrArg Bm e
   simp only[Bg,Js,CR]at this;omega
  rw[Qe O]at h2
  refine z6a (by omega) hs ⟨λhg=>?_,λhg=>?_⟩
  ·have:zn3 (dec ((lb s).drop k))=true:=by simpa[z1u]using hg
   rw[this]at h2
   have:=h k
   rw[h2]at this;exact this
  ·have hb:zn3 (dec ((lb s).drop k))=false:=by simpa[z1u]using hg
   rw[hb]at h2
   simp only[A9,if_false,BS]at h2
   refine zx6 hs ?_
   unfold zx5
   rw[if_neg (by omega)]
   simp only[Ad]
   have hw:=Yj ((lb s).drop k)
   have hl:=zx3 O
   simp only[Bg,Js]at hl
   have w:Aa .i64 ((k:Int)+((dec ((lb s).drop k)).2:Int))=((k+(dec ((lb s).drop k)).2:Nat):Int):=by rw[wrap64 (by omega) (by omega)];omega
   rw[w]
   refine⟨⟨by omega,by omega,?_⟩,by omega⟩
   rw[Ad];exact h2
 ·have Z:¬a<(s.size:Int):=by simpa using hc
  have:(lb s).drop a.toNat=[]:=A6 (by rw[Js];omega)
  rw[this,zmo]at h2
  rw[<-h2];exact h _
end
end Go.X
end
section
namespace Go.X
open Go Go.Proofs Go.Shelf Go.RowKit
section
theorem LF{α : Type}{x y : α}{o : Option α}(h : o = some x)(e : x = y := by kernel_rfl): o = some y := h.trans (congrArg some e)
def zmp:Go.Shelf.Ren:=⟨fun|161=>131|231=>157|227=>158|233=>159|235=>160|228=>193|197=>142|151=>194|260=>171|152=>222|137=>191|119=>237|224=>232|225=>231|217=>221|266=>236|n=>n,fun|9=>9|4=>4|3=>3|5=>5|117=>164|116=>163|0=>0|124=>167|105=>119|21=>21|119=>172|46=>176|139=>175|138=>174|n=>n,fun|3=>0|4=>1|n=>n⟩
theorem zx7:Go.Proofs.Lays.n161 Tp zmp:={
 mixed:=by kernel_rfl
 f119:=LF Ef
 f137:=LF Eg
 f151:=LF Tryz.func194
 f152:=LF Eh
 f161:=LF Tryz.func131
 f197:=LF Tryz.func142
 f217:=LF Ep
 f224:=LF Tryz.func232
 f225:=LF Tryz.func231
 f227:=LF Tryz.func158
 f228:=LF Tryz.func193
 f231:=LF Tryz.func157
 f233:=LF Tryz.func159
 f235:=LF Tryz.func160
 f260:=LF Tryz.func171
 f266:=LF Er
 t0:=Cc
 a0:=Db
 z0:=C3
 v0:=Ci
 t3:=BH
 a3:=Cx
 z3:=Cj
 v3:=BM
 t4:=BI
 a4:=CN
 z4:=Cu
 v4:=BU
 t5:=BZ
 a5:=C5
 z5:=CJ
 v5:=Cb
 t9:=Bw
 a9:=Cy
 z9:=Ck
 v9:=BN
 t21:=CP
 a21:=DX
 z21:=Dz
 v21:=C8
 t46:=B7
 a46:=C6
 z46:=CO
 v46:=Cg
 t105:=Tryz.underlying119
 a105:=Tryz.isAgg119
 z105:=Tryz.sizeOf119
 v105:=Tryz.zeroValue119
 t116:=Tryz.underlying163
 a116:=Tryz.isAgg163
 z116:=Tryz.sizeOf163
 t117:=Tryz.underlying164
 a117:=Tryz.isAgg164
 z117:=Tryz.sizeOf164
 v117:=Tryz.zeroValue164
 t119:=Tryz.underlying172
 a119:=Tryz.isAgg172
 z119:=Tryz.sizeOf172
 t124:=Tryz.underlying167
 a124:=Tryz.isAgg167
 z124:=Tryz.sizeOf167
 v124:=Tryz.zeroValue167
 t138:=Tryz.underlying174
 a138:=Tryz.isAgg174
 z138:=Tryz.sizeOf174
 v138:=Tryz.zeroValue174
 t139:=Tryz.underlying175
 a139:=Tryz.isAgg175
 z139:=Tryz.sizeOf175
 v139:=Tryz.zeroValue175
 g3:=by kernel_rfl
 g4:=by kernel_rfl }
theorem Ww(s:Bt)(c:UInt8)(hc:c.toNat<128)(w:World):
  Calls Tp 131 #[.string s,.string ⟨#[c]⟩] w λe w'=>e=.returned (.string ⟨(Lib.trimLeftB s.data.toList c).toArray⟩)/\w'=w:=Any.strings_TrimLeft_one zx7 s c hc w
def zmq:Go.Shelf.Ren:=⟨fun|162=>132|232=>161|227=>158|234=>162|236=>163|228=>193|271=>195|151=>194|120=>223|197=>142|152=>222|260=>171|137=>191|119=>237|224=>232|225=>231|217=>221|266=>236|n=>n,fun|9=>9|4=>4|3=>3|5=>5|117=>164|116=>163|0=>0|124=>167|21=>21|105=>119|46=>176|119=>172|139=>175|138=>174|n=>n,fun|3=>0|4=>1|n=>n⟩
theorem zx8:Go.Proofs.Lays.n162 Tp zmq:={
 mixed:=by kernel_rfl
 f119:=LF Ef
 f120:=LF Tryz.func223
 f137:=LF Eg
 f151:=LF Tryz.func194
 f152:=LF Eh
 f162:=LF Tryz.func132
 f197:=LF Tryz.func142
 f217:=LF Ep
 f224:=LF Tryz.func232
 f225:=LF Tryz.func231
 f227:=LF Tryz.func158
 f228:=LF Tryz.func193
 f232:=LF Tryz.func161
 f234:=LF Tryz.func162
 f236:=LF Tryz.func163
 f260:=LF Tryz.func171
 f266:=LF Er
 f271:=LF Tryz.func195
 t0:=Cc
 a0:=Db
 z0:=C3
 v0:=Ci
 t3:=BH
 a3:=Cx
 z3:=Cj
 v3:=BM
 t4:=BI
 a4:=CN
 z4:=Cu
 v4:=BU
 t5:=BZ
 a5:=C5
 z5:=CJ
 v5:=Cb
 t9:=Bw
 a9:=Cy
 z9:=Ck
 v9:=BN
 t21:=CP
 a21:=DX
 z21:=Dz
 v21:=C8
 t46:=B7
 a46:=C6
 z46:=CO
 v46:=Cg
 t105:=Tryz.underlying119
 a105:=Tryz.isAgg119
 z105:=Tryz.sizeOf119
 v105:=Tryz.zeroValue119
 t116:=Tryz.underlying163
 a116:=Tryz.isAgg163
 z116:=Tryz.sizeOf163
 t117:=Tryz.underlying164
 a117:=Tryz.isAgg164
 z117:=Tryz.sizeOf164
 v117:=Tryz.zeroValue164
 t119:=Tryz.underlying172
 a119:=Tryz.isAgg172
 z119:=Tryz.sizeOf172
 t124:=Tryz.underlying167
 a124:=Tryz.isAgg167
 z124:=Tryz.sizeOf167
 v124:=Tryz.zeroValue167
 t138:=Tryz.underlying174
 a138:=Tryz.isAgg174
 z138:=Tryz.sizeOf174
 v138:=Tryz.zeroValue174
 t139:=Tryz.underlying175
 a139:=Tryz.isAgg175
 z139:=Tryz.sizeOf175
 v139:=Tryz.zeroValue175
 g3:=by kernel_rfl
 g4:=by kernel_rfl }
theorem Wl(s:Bt)(c:UInt8)(hc:c.toNat<128)(w:World)(hs:s.size<=9223372036854775807):
  Calls Tp 132 #[.string s,.string ⟨#[c]⟩] w λe w'=>e=.returned (.string ⟨(Lib.trimRightB s.data.toList c).toArray⟩)/\w'=w:=Any.strings_TrimRight_one zx8 s c hc w hs
def zmr:Go.Shelf.Ren:=⟨fun|137=>191|217=>221|266=>236|n=>n,fun|9=>9|5=>5|3=>3|n=>n,fun|n=>n⟩
theorem zx9:Go.Proofs.Lays.n137 Tp zmr:={
 mixed:=by kernel_rfl
 f137:=LF Eg
 f217:=LF Ep
 f266:=LF Er
 t3:=BH
 a3:=Cx
 z3:=Cj
 v3:=BM
 t5:=BZ
 a5:=C5
 z5:=CJ
 v5:=Cb
 t9:=Bw
 a9:=Cy
 z9:=Ck
 v9:=BN }
theorem x9(s:Bt)(c:Int)(w:World):
  Calls Tp 191 #[.string s,.int .u8 c] w λe w'=>e=.returned (.int .i64 (Lib.indexByte s.data.toList c.toNat.toUInt8))/\w'=w:=Any.strings_IndexByte zx9 s c w
def zms:Go.Shelf.Ren:=⟨fun|103=>154|210=>190|206=>206|n=>n,fun|9=>9|4=>4|24=>100|3=>3|n=>n,fun|n=>n⟩
theorem zya:Go.Proofs.Lays.n103 Tp zms:={
 mixed:=by kernel_rfl
 f103:=LF Tryz.func154
 f206:=LF Tryz.func206
 f210:=LF Tryz.func190
 t3:=BH
 a3:=Cx
 z3:=Cj
 v3:=BM
 t4:=BI
 a4:=CN
 z4:=Cu
 v4:=BU
 t9:=Bw
 a9:=Cy
 z9:=Ck
 v9:=BN
 t24:=Tryz.underlying100
 a24:=Tryz.isAgg100
 z24:=Tryz.sizeOf100
 v24:=Tryz.zeroValue100 }
theorem zb1(s p:Bt)(w:World):
  Calls Tp 154 #[.string s,.string p] w λe w'=>e=.returned (.tuple #[.string ⟨(Lib.trimPrefix s.data.toList p.data.toList).toArray⟩,.bool (Lib.hasPrefix s.data.toList p.data.toList)])/\w'=w:=Any.strings_CutPrefix zya s p w
def zjy:Go.Shelf.Ren:=⟨fun|171=>97|243=>129|246=>153|283=>186|284=>187|285=>188|286=>189|129=>217|317=>216|318=>218|319=>219|320=>220|337=>234|338=>235|n=>n,fun|3=>3|9=>9|2=>2|4=>4|171=>188|0=>0|53=>189|37=>99|5=>5|173=>192|212=>213|51=>200|20=>20|213=>214|46=>176|232=>231|233=>232|n=>n,fun|17=>3|18=>6|19=>7|n=>n⟩
theorem zve:Go.Proofs.LaysM.n171 Tp zjy:={
 mixed:=by kernel_rfl
 f129:=LF Tryz.func217
 f171:=LF Tryz.func97
 f243:=LF Tryz.func129
 f246:=LF Tryz.func153
 f283:=LF Tryz.func186
 f284:=LF Tryz.func187
 f285:=LF Tryz.func188
 f286:=LF Tryz.func189
 f317:=LF Tryz.func216
 f318:=LF Tryz.func218
 f319:=LF Tryz.func219
 f320:=LF Tryz.func220
 f337:=LF Tryz.func234
 f338:=LF Tryz.func235
 t0:=Cc
 a0:=Db
 z0:=C3
 v0:=Ci
 t2:=Tryz.underlying2
 a2:=Tryz.isAgg2
 z2:=Tryz.sizeOf2
 v2:=Tryz.zeroValue2
 t3:=BH
 a3:=Cx
 z3:=Cj
 v3:=BM
 t4:=BI
 a4:=CN
 z4:=Cu
 v4:=BU
 t5:=BZ
 a5:=C5
 z5:=CJ
 v5:=Cb
 t9:=Bw
 a9:=Cy
 z9:=Ck
 v9:=BN
 t20:=Tryz.underlying20
 a20:=Tryz.isAgg20
 z20:=Tryz.sizeOf20
 v20:=Tryz.zeroValue20
 t37:=Tryz.underlying99
 a37:=Tryz.isAgg99
 z37:=Tryz.sizeOf99
 v37:=Tryz.zeroValue99
 t46:=B7
 a46:=C6
 z46:=CO
 v46:=Cg
 t51:=Tryz.underlying200
 a51:=Tryz.isAgg200
 z51:=Tryz.sizeOf200
 v51:=Tryz.zeroValue200
 t53:=Tryz.underlying189
 a53:=Tryz.isAgg189
 z53:=Tryz.sizeOf189
 v53:=Tryz.zeroValue189
 t171:=Tryz.underlying188
 a171:=Tryz.isAgg188
 z171:=Tryz.sizeOf188
 v171:=Tryz.zeroValue188
 t173:=Tryz.underlying192
 a173:=Tryz.isAgg192
 z173:=Tryz.sizeOf192
 v173:=Tryz.zeroValue192
 t212:=Tryz.underlying213
 a212:=Tryz.isAgg213
 z212:=Tryz.sizeOf213
 v212:=Tryz.zeroValue213
 t213:=Tryz.underlying214
 a213:=Tryz.isAgg214
 z213:=Tryz.sizeOf214
 t232:=Tryz.underlying231
 a232:=Tryz.isAgg231
 z232:=Tryz.sizeOf231
 v232:=Tryz.zeroValue231
 t233:=Tryz.underlying232
 a233:=Tryz.isAgg232
 z233:=Tryz.sizeOf232
 v233:=Tryz.zeroValue232
 g17:=by kernel_rfl
 g18:=by kernel_rfl
 g19:=by kernel_rfl
 i0:=by kernel_rfl
 i2:=by kernel_rfl
 i3:=by kernel_rfl
 i4:=by kernel_rfl
 i5:=by kernel_rfl
 i9:=by kernel_rfl
 i20:=by kernel_rfl
 i37:=by kernel_rfl
 i46:=by kernel_rfl
 i51:=by kernel_rfl
 i53:=by kernel_rfl
 i171:=by kernel_rfl
 i173:=by kernel_rfl
 i212:=by kernel_rfl
 i232:=by kernel_rfl
 i233:=by kernel_rfl
 m17:=by kernel_rfl
 m18:=by kernel_rfl
 m19:=by kernel_rfl }
open Go.RowKit Go.Sort Go.Lib in
theorem zjz(n : Int)(h0 : -9223372036854775808 ≤ n)(h1 : n ≤ 9223372036854775807)(w : World)(htab : Lib.TabIs Tp w "internal/strconv.uint64pow10" .u64 Lib.pow10Tab):
  Calls Tp 97 #[.int .i64 n] w λe w'=>e=.returned (.string ⟨(Lib.itoa n).toArray⟩)/\∃k os,w'=grow (w.drewN k) os:=Any.strconv_Itoa zve n h0 h1 w htab
def zj0:Go.Shelf.Ren:=⟨fun|172=>173|244=>203|245=>179|247=>178|279=>209|280=>210|281=>211|282=>212|287=>208|316=>229|171=>97|205=>230|321=>227|322=>228|243=>129|246=>153|283=>186|284=>187|285=>188|286=>189|129=>217|317=>216|318=>218|319=>219|320=>220|337=>234|338=>235|n=>n,fun|9=>9|3=>3|75=>129|76=>131|4=>4|5=>5|167=>205|37=>99|0=>0|85=>151|2=>2|168=>208|53=>189|175=>206|46=>176|210=>222|127=>154|145=>229|143=>227|21=>21|171=>188|173=>192|212=>213|51=>200|20=>20|213=>214|232=>231|233=>232|80=>134|n=>n,fun|15=>4|16=>5|17=>3|18=>6|19=>7|n=>n⟩
theorem ze2:Go.Proofs.LaysC.n172 Tp zj0:={
 mixed:=by kernel_rfl
 f129:=LF Tryz.func217
 f171:=LF Tryz.func97
 f172:=LF Tryz.func173
 f205:=LF Tryz.func230
 f243:=LF Tryz.func129
 f244:=LF Tryz.func203
 f245:=LF Tryz.func179
 f246:=LF Tryz.func153
 f247:=LF Tryz.func178
 f279:=LF Tryz.func209
 f280:=LF Tryz.func210
 f281:=LF Tryz.func211
 f282:=LF Tryz.func212
 f283:=LF Tryz.func186
 f284:=LF Tryz.func187
 f285:=LF Tryz.func188
 f286:=LF Tryz.func189
 f287:=LF Tryz.func208
 f316:=LF Tryz.func229
 f317:=LF Tryz.func216
 f318:=LF Tryz.func218
 f319:=LF Tryz.func219
 f320:=LF Tryz.func220
 f321:=LF Tryz.func227
 f322:=LF Tryz.func228
 f337:=LF Tryz.func234
 f338:=LF Tryz.func235
 t0:=Cc
 a0:=Db
 z0:=C3
 v0:=Ci
 t2:=Tryz.underlying2
 a2:=Tryz.isAgg2
 z2:=Tryz.sizeOf2
 v2:=Tryz.zeroValue2
 t3:=BH
 a3:=Cx
 z3:=Cj
 v3:=BM
 t4:=BI
 a4:=CN
 z4:=Cu
 v4:=BU
 t5:=BZ
 a5:=C5
 z5:=CJ
 v5:=Cb
 t9:=Bw
 a9:=Cy
 z9:=Ck
 v9:=BN
 t20:=Tryz.underlying20
 a20:=Tryz.isAgg20
 z20:=Tryz.sizeOf20
 v20:=Tryz.zeroValue20
 t21:=CP
 a21:=DX
 z21:=Dz
 v21:=C8
 t37:=Tryz.underlying99
 a37:=Tryz.isAgg99
 z37:=Tryz.sizeOf99
 v37:=Tryz.zeroValue99
 t46:=B7
 a46:=C6
 z46:=CO
 v46:=Cg
 t51:=Tryz.underlying200
 a51:=Tryz.isAgg200
 z51:=Tryz.sizeOf200
 v51:=Tryz.zeroValue200
 t53:=Tryz.underlying189
 a53:=Tryz.isAgg189
 z53:=Tryz.sizeOf189
 v53:=Tryz.zeroValue189
 t75:=Dt
 a75:=Tryz.isAgg129
 z75:=Tryz.sizeOf129
 v75:=Tryz.zeroValue129
 t76:=Tryz.underlying131
 a76:=Tryz.isAgg131
 z76:=Tryz.sizeOf131
 v76:=Tryz.zeroValue131
 t85:=Tryz.underlying151
 a85:=Tryz.isAgg151
 z85:=Tryz.sizeOf151
 v85:=Tryz.zeroValue151
 t127:=Tryz.underlying154
 a127:=Tryz.isAgg154
 z127:=Tryz.sizeOf154
 v127:=Tryz.zeroValue154
 t143:=Tryz.underlying227
 a143:=Tryz.isAgg227
 z143:=Tryz.sizeOf227
 v143:=Tryz.zeroValue227
 t145:=Tryz.underlying229
 a145:=Tryz.isAgg229
 z145:=Tryz.sizeOf229
 v145:=Tryz.zeroValue229
 t167:=Tryz.underlying205
 a167:=Tryz.isAgg205
 z167:=Tryz.sizeOf205
 v167:=Tryz.zeroValue205
 t168:=Tryz.underlying208
 a168:=Tryz.isAgg208
 z168:=Tryz.sizeOf208
 v168:=Tryz.zeroValue208
 t171:=Tryz.underlying188
 a171:=Tryz.isAgg188
 z171:=Tryz.sizeOf188
 v171:=Tryz.zeroValue188
 t173:=Tryz.underlying192
 a173:=Tryz.isAgg192
 z173:=Tryz.sizeOf192
 v173:=Tryz.zeroValue192
 t175:=Tryz.underlying206
 a175:=Tryz.isAgg206
 z175:=Tryz.sizeOf206
 v175:=Tryz.zeroValue206
 t210:=Tryz.underlying222
 a210:=Tryz.isAgg222
 z210:=Tryz.sizeOf222
 v210:=Tryz.zeroValue222
 t212:=Tryz.underlying213
 a212:=Tryz.isAgg213
 z212:=Tryz.sizeOf213
 v212:=Tryz.zeroValue213
 t213:=Tryz.underlying214
 a213:=Tryz.isAgg214
 z213:=Tryz.sizeOf214
 t232:=Tryz.underlying231
 a232:=Tryz.isAgg231
 z232:=Tryz.sizeOf231
 v232:=Tryz.zeroValue231
 t233:=Tryz.underlying232
 a233:=Tryz.isAgg232
 z233:=Tryz.sizeOf232
 v233:=Tryz.zeroValue232
 g15:=by kernel_rfl
 g16:=by kernel_rfl
 g17:=by kernel_rfl
 g18:=by kernel_rfl
 g19:=by kernel_rfl
 t80:=Tryz.underlying134
 a80:=Tryz.isAgg134
 z80:=Tryz.sizeOf134
 v80:=Tryz.zeroValue134
 i0:=by kernel_rfl
 i2:=by kernel_rfl
 i3:=by kernel_rfl
 i4:=by kernel_rfl
 i5:=by kernel_rfl
 i9:=by kernel_rfl
 i20:=by kernel_rfl
 i21:=by kernel_rfl
 i37:=by kernel_rfl
 i46:=by kernel_rfl
 i51:=by kernel_rfl
 i53:=by kernel_rfl
 i75:=by kernel_rfl
 i76:=by kernel_rfl
 i80:=by kernel_rfl
 i85:=by kernel_rfl
 i127:=by kernel_rfl
 i143:=by kernel_rfl
 i145:=by kernel_rfl
 i167:=by kernel_rfl
 i168:=by kernel_rfl
 i171:=by kernel_rfl
 i173:=by kernel_rfl
 i175:=by kernel_rfl
 i210:=by kernel_rfl
 i212:=by kernel_rfl
 i232:=by kernel_rfl
 i233:=by kernel_rfl
 m15:=by kernel_rfl
 m16:=by kernel_rfl
 m17:=by kernel_rfl
 m18:=by kernel_rfl
 m19:=by kernel_rfl
 c0:=by kernel_rfl
 c2:=by kernel_rfl
 c3:=by kernel_rfl
 c4:=by kernel_rfl
 c5:=by kernel_rfl
 c9:=by kernel_rfl
 c20:=by kernel_rfl
 c21:=by kernel_rfl
 c37:=by kernel_rfl
 c46:=by kernel_rfl
 c51:=by kernel_rfl
 c53:=by kernel_rfl
 c75:=by kernel_rfl
 c76:=by kernel_rfl
 c80:=by kernel_rfl
 c85:=by kernel_rfl
 c127:=by kernel_rfl
 c143:=by kernel_rfl
 c145:=by kernel_rfl
 c167:=by kernel_rfl
 c168:=by kernel_rfl
 c171:=by kernel_rfl
 c173:=by kernel_rfl
 c175:=by kernel_rfl
 c210:=by kernel_rfl
 c212:=by kernel_rfl
 c213:=by kernel_rfl
 c232:=by kernel_rfl
 c233:=by kernel_rfl }
theorem ze3(s:Bt)(O:s.size<=9223372036854775806)(v:Int)(h:Lib.atoiAll s.data.toList=.ok v)(w:World):
  Calls Tp 173 #[.string s] w λe w'=>e=.returned (.tuple #[.int .i64 v,.nilIface])/\(w'=w\/∃t,w'=Lib.bytesWorld w 5 t):=Any.strconv_Atoi_ok ze2 s O v h w
theorem Xn(s:Bt)(O:s.size<=281474976710656)(h:Lib.atoiAll s.data.toList=Lib.atoiAll [])(ev:Value)(w:World)(hv:w.cell? ⟨4,0,none⟩=some ev)(Z:ev=.nilIface\/∃te pe,ev=.iface te pe):
  Calls Tp 173 #[.string s] w λe w'=>∃N,e=.returned (.tuple #[.int .i64 (0),.iface 208 (.pointer (some ⟨N,0,none⟩))])/\w.heap.size<=N/\w'.heap[N]?=some (.cells #[.string ⟨#[65,116,111,105]⟩,.string s,ev] 222 (0,0))/\Below w.heap.size w w':=Any.strconv_Atoi_syntax ze2 s O h ev w hv Z
theorem zar(s:Bt)(O:s.size<=281474976710656)(h:Lib.atoiAll s.data.toList=.range)(ev:Value)(w:World)(hv:w.cell? ⟨5,0,none⟩=some ev)(Z:ev=.nilIface\/∃te pe,ev=.iface te pe):
  Calls Tp 173 #[.string s] w λe w'=>∃N,e=.returned (.tuple #[.int .i64 (Lib.atoiSat s.data.toList),.iface 208 (.pointer (some ⟨N,0,none⟩))])/\w.heap.size<=N/\w'.heap[N]?=some (.cells #[.string ⟨#[65,116,111,105]⟩,.string s,ev] 222 (0,0))/\Below w.heap.size w w':=Any.strconv_Atoi_range ze2 s O h ev w hv Z
def zj1:Go.Shelf.Ren:=⟨fun|174=>147|247=>178|245=>179|287=>208|279=>209|280=>210|281=>211|282=>212|321=>227|322=>228|316=>229|171=>97|205=>230|243=>129|246=>153|283=>186|284=>187|285=>188|286=>189|129=>217|317=>216|318=>218|319=>219|320=>220|337=>234|338=>235|n=>n,fun|9=>9|3=>3|2=>2|75=>129|85=>151|4=>4|167=>205|5=>5|53=>189|175=>206|46=>176|168=>208|37=>99|0=>0|210=>222|21=>21|127=>154|145=>229|143=>227|171=>188|173=>192|212=>213|51=>200|20=>20|213=>214|232=>231|233=>232|80=>134|n=>n,fun|15=>4|16=>5|17=>3|18=>6|19=>7|n=>n⟩
theorem ze4:Go.Proofs.LaysC.n174 Tp zj1:={
 mixed:=by kernel_rfl
 f129:=LF Tryz.func217
 f171:=LF Tryz.func97
 f174:=LF Tryz.func147
 f205:=LF Tryz.func230
 f243:=LF Tryz.func129
 f245:=LF Tryz.func179
 f246:=LF Tryz.func153
 f247:=LF Tryz.func178
 f279:=LF Tryz.func209
 f280:=LF Tryz.func210
 f281:=LF Tryz.func211
 f282:=LF Tryz.func212
 f283:=LF Tryz.func186
 f284:=LF Tryz.func187
 f285:=LF Tryz.func188
 f286:=LF Tryz.func189
 f287:=LF Tryz.func208
 f316:=LF Tryz.func229
 f317:=LF Tryz.func216
 f318:=LF Tryz.func218
 f319:=LF Tryz.func219
 f320:=LF Tryz.func220
 f321:=LF Tryz.func227
 f322:=LF Tryz.func228
 f337:=LF Tryz.func234
 f338:=LF Tryz.func235
 t0:=Cc
 a0:=Db
 z0:=C3
 v0:=Ci
 t2:=Tryz.underlying2
 a2:=Tryz.isAgg2
 z2:=Tryz.sizeOf2
 v2:=Tryz.zeroValue2
 t3:=BH
 a3:=Cx
 z3:=Cj
 v3:=BM
 t4:=BI
 a4:=CN
 z4:=Cu
 v4:=BU
 t5:=BZ
 a5:=C5
 z5:=CJ
 v5:=Cb
 t9:=Bw
 a9:=Cy
 z9:=Ck
 v9:=BN
 t20:=Tryz.underlying20
 a20:=Tryz.isAgg20
 z20:=Tryz.sizeOf20
 v20:=Tryz.zeroValue20
 t21:=CP
 a21:=DX
 z21:=Dz
 v21:=C8
 t37:=Tryz.underlying99
 a37:=Tryz.isAgg99
 z37:=Tryz.sizeOf99
 v37:=Tryz.zeroValue99
 t46:=B7
 a46:=C6
 z46:=CO
 v46:=Cg
 t51:=Tryz.underlying200
 a51:=Tryz.isAgg200
 z51:=Tryz.sizeOf200
 v51:=Tryz.zeroValue200
 t53:=Tryz.underlying189
 a53:=Tryz.isAgg189
 z53:=Tryz.sizeOf189
 v53:=Tryz.zeroValue189
 t75:=Dt
 a75:=Tryz.isAgg129
 z75:=Tryz.sizeOf129
 v75:=Tryz.zeroValue129
 t85:=Tryz.underlying151
 a85:=Tryz.isAgg151
 z85:=Tryz.sizeOf151
 v85:=Tryz.zeroValue151
 t127:=Tryz.underlying154
 a127:=Tryz.isAgg154
 z127:=Tryz.sizeOf154
 v127:=Tryz.zeroValue154
 t143:=Tryz.underlying227
 a143:=Tryz.isAgg227
 z143:=Tryz.sizeOf227
 v143:=Tryz.zeroValue227
 t145:=Tryz.underlying229
 a145:=Tryz.isAgg229
 z145:=Tryz.sizeOf229
 v145:=Tryz.zeroValue229
 t167:=Tryz.underlying205
 a167:=Tryz.isAgg205
 z167:=Tryz.sizeOf205
 v167:=Tryz.zeroValue205
 t168:=Tryz.underlying208
 a168:=Tryz.isAgg208
 z168:=Tryz.sizeOf208
 v168:=Tryz.zeroValue208
 t171:=Tryz.underlying188
 a171:=Tryz.isAgg188
 z171:=Tryz.sizeOf188
 v171:=Tryz.zeroValue188
 t173:=Tryz.underlying192
 a173:=Tryz.isAgg192
 z173:=Tryz.sizeOf192
 v173:=Tryz.zeroValue192
 t175:=Tryz.underlying206
 a175:=Tryz.isAgg206
 z175:=Tryz.sizeOf206
 v175:=Tryz.zeroValue206
 t210:=Tryz.underlying222
 a210:=Tryz.isAgg222
 z210:=Tryz.sizeOf222
 v210:=Tryz.zeroValue222
 t212:=Tryz.underlying213
 a212:=Tryz.isAgg213
 z212:=Tryz.sizeOf213
 v212:=Tryz.zeroValue213
 t213:=Tryz.underlying214
 a213:=Tryz.isAgg214
 z213:=Tryz.sizeOf214
 t232:=Tryz.underlying231
 a232:=Tryz.isAgg231
 z232:=Tryz.sizeOf231
 v232:=Tryz.zeroValue231
 t233:=Tryz.underlying232
 a233:=Tryz.isAgg232
 z233:=Tryz.sizeOf232
 v233:=Tryz.zeroValue232
 g15:=by kernel_rfl
 g16:=by kernel_rfl
 g17:=by kernel_rfl
 g18:=by kernel_rfl
 g19:=by kernel_rfl
 t80:=Tryz.underlying134
 a80:=Tryz.isAgg134
 z80:=Tryz.sizeOf134
 v80:=Tryz.zeroValue134
 i0:=by kernel_rfl
 i2:=by kernel_rfl
 i3:=by kernel_rfl
 i4:=by kernel_rfl
 i5:=by kernel_rfl
 i9:=by kernel_rfl
 i20:=by kernel_rfl
 i21:=by kernel_rfl
 i37:=by kernel_rfl
 i46:=by kernel_rfl
 i51:=by kernel_rfl
 i53:=by kernel_rfl
 i75:=by kernel_rfl
 i80:=by kernel_rfl
 i85:=by kernel_rfl
 i127:=by kernel_rfl
 i143:=by kernel_rfl
 i145:=by kernel_rfl
 i167:=by kernel_rfl
 i168:=by kernel_rfl
 i171:=by kernel_rfl
 i173:=by kernel_rfl
 i175:=by kernel_rfl
 i210:=by kernel_rfl
 i212:=by kernel_rfl
 i232:=by kernel_rfl
 i233:=by kernel_rfl
 m15:=by kernel_rfl
 m16:=by kernel_rfl
 m17:=by kernel_rfl
 m18:=by kernel_rfl
 m19:=by kernel_rfl
 c0:=by kernel_rfl
 c2:=by kernel_rfl
 c3:=by kernel_rfl
 c4:=by kernel_rfl
 c5:=by kernel_rfl
 c9:=by kernel_rfl
 c20:=by kernel_rfl
 c21:=by kernel_rfl
 c37:=by kernel_rfl
 c46:=by kernel_rfl
 c51:=by kernel_rfl
 c53:=by kernel_rfl
 c75:=by kernel_rfl
 c80:=by kernel_rfl
 c85:=by kernel_rfl
 c127:=by kernel_rfl
 c143:=by kernel_rfl
 c145:=by kernel_rfl
 c167:=by kernel_rfl
 c168:=by kernel_rfl
 c171:=by kernel_rfl
 c173:=by kernel_rfl
 c175:=by kernel_rfl
 c210:=by kernel_rfl
 c212:=by kernel_rfl
 c213:=by kernel_rfl
 c232:=by kernel_rfl
 c233:=by kernel_rfl }
theorem Qr(s:Bt)(O:s.size<=9223372036854775806)(v:Int)(h:Lib.parseIntB 64 s.data.toList=.ok v)(w:World):
  Calls Tp 147 #[.string s,.int .i64 10,.int .i64 64] w λe w'=>e=.returned (.tuple #[.int .i64 v,.nilIface])/\(w'=w\/∃t,w'=Lib.bytesWorld w 5 t):=Any.strconv_ParseInt_10_at64_ok ze4 s O v h w
theorem Zs(s:Bt)(O:s.size<=281474976710656)(h:Lib.parseIntB 64 s.data.toList=Lib.parseIntB 64 [])(ev:Value)(w:World)(hv:w.cell? ⟨4,0,none⟩=some ev)(Z:ev=.nilIface\/∃te pe,ev=.iface te pe):
  Calls Tp 147 #[.string s,.int .i64 10,.int .i64 64] w λe w'=>∃N,e=.returned (.tuple #[.int .i64 (0),.iface 208 (.pointer (some ⟨N,0,none⟩))])/\w.heap.size<=N/\w'.heap[N]?=some (.cells #[.string ⟨#[80,97,114,115,101,73,110,116]⟩,.string s,ev] 222 (0,0))/\Below w.heap.size w w':=Any.strconv_ParseInt_10_at64_syntax ze4 s O h ev w hv Z
theorem Zx(s:Bt)(O:s.size<=281474976710656)(h:Lib.parseIntB 64 s.data.toList=.range)(ev:Value)(w:World)(hv:w.cell? ⟨5,0,none⟩=some ev)(Z:ev=.nilIface\/∃te pe,ev=.iface te pe):
  Calls Tp 147 #[.string s,.int .i64 10,.int .i64 64] w λe w'=>∃N,e=.returned (.tuple #[.int .i64 (Lib.intSat 64 s.data.toList),.iface 208 (.pointer (some ⟨N,0,none⟩))])/\w.heap.size<=N/\w'.heap[N]?=some (.cells #[.string ⟨#[80,97,114,115,101,73,110,116]⟩,.string s,ev] 222 (0,0))/\Below w.heap.size w w':=Any.strconv_ParseInt_10_at64_range ze4 s O h ev w hv Z
def zmt:Go.Shelf.Ren:=⟨fun|101=>156|208=>192|206=>206|n=>n,fun|9=>9|4=>4|3=>3|n=>n,fun|n=>n⟩
theorem zyb:Go.Proofs.Lays.n101 Tp zmt:={
 mixed:=by kernel_rfl
 f101:=LF Tryz.func156
 f206:=LF Tryz.func206
 f208:=LF Tryz.func192
 t3:=BH
 a3:=Cx
 z3:=Cj
 v3:=BM
 t4:=BI
 a4:=CN
 z4:=Cu
 v4:=BU
 t9:=Bw
 a9:=Cy
 z9:=Ck
 v9:=BN }
open Go.RowKit Go.Lib in
theorem zas(s p:Bt)(w:World):
  Calls Tp 156 #[.string s,.string p] w λe w'=>e=.returned (.string ⟨(Lib.trimPrefix s.data.toList p.data.toList).toArray⟩)/\w'=w:=Any.strings_TrimPrefix zyb s p w
def zmu:Go.Shelf.Ren:=⟨fun|197=>142|260=>171|n=>n,fun|9=>9|21=>21|3=>3|4=>4|5=>5|105=>119|119=>172|0=>0|46=>176|139=>175|138=>174|n=>n,fun|3=>0|4=>1|n=>n⟩
theorem zyc:Go.Proofs.Lays.n197 Tp zmu:={
 mixed:=by kernel_rfl
 f197:=LF Tryz.func142
 f260:=LF Tryz.func171
 t0:=Cc
 a0:=Db
 z0:=C3
 v0:=Ci
 t3:=BH
 a3:=Cx
 z3:=Cj
 v3:=BM
 t4:=BI
 a4:=CN
 z4:=Cu
 v4:=BU
 t5:=BZ
 a5:=C5
 z5:=CJ
 v5:=Cb
 t9:=Bw
 a9:=Cy
 z9:=Ck
 v9:=BN
 t21:=CP
 a21:=DX
 z21:=Dz
 v21:=C8
 t46:=B7
 a46:=C6
 z46:=CO
 v46:=Cg
 t105:=Tryz.underlying119
 a105:=Tryz.isAgg119
 z105:=Tryz.sizeOf119
 v105:=Tryz.zeroValue119
 t119:=Tryz.underlying172
 a119:=Tryz.isAgg172
 z119:=Tryz.sizeOf172
 t138:=Tryz.underlying174
 a138:=Tryz.isAgg174
 z138:=Tryz.sizeOf174
 v138:=Tryz.zeroValue174
 t139:=Tryz.underlying175
 a139:=Tryz.isAgg175
 z139:=Tryz.sizeOf175
 v139:=Tryz.zeroValue175
 g3:=by kernel_rfl
 g4:=by kernel_rfl }
def zmv:Go.Shelf.Ren:=⟨fun|150=>172|153=>202|152=>222|226=>225|227=>158|228=>193|137=>191|119=>237|224=>232|225=>231|217=>221|266=>236|n=>n,fun|9=>9|4=>4|3=>3|5=>5|21=>21|117=>164|116=>163|0=>0|46=>176|124=>167|n=>n,fun|n=>n⟩
theorem zyd:Go.Proofs.Lays.n150 Tp zmv:={
 mixed:=by kernel_rfl
 f119:=LF Ef
 f137:=LF Eg
 f150:=LF Tryz.func172
 f152:=LF Eh
 f153:=LF Tryz.func202
 f217:=LF Ep
 f224:=LF Tryz.func232
 f225:=LF Tryz.func231
 f226:=LF Tryz.func225
 f227:=LF Tryz.func158
 f228:=LF Tryz.func193
 f266:=LF Er
 t0:=Cc
 a0:=Db
 z0:=C3
 v0:=Ci
 t3:=BH
 a3:=Cx
 z3:=Cj
 v3:=BM
 t4:=BI
 a4:=CN
 z4:=Cu
 v4:=BU
 t5:=BZ
 a5:=C5
 z5:=CJ
 v5:=Cb
 t9:=Bw
 a9:=Cy
 z9:=Ck
 v9:=BN
 t21:=CP
 a21:=DX
 z21:=Dz
 v21:=C8
 t46:=B7
 a46:=C6
 z46:=CO
 v46:=Cg
 t116:=Tryz.underlying163
 a116:=Tryz.isAgg163
 z116:=Tryz.sizeOf163
 t117:=Tryz.underlying164
 a117:=Tryz.isAgg164
 z117:=Tryz.sizeOf164
 v117:=Tryz.zeroValue164
 t124:=Tryz.underlying167
 a124:=Tryz.isAgg167
 z124:=Tryz.sizeOf167
 v124:=Tryz.zeroValue167 }
open Go.RowKit Go.Lib in
theorem Ys(s O:Bt)(w:World)(hs:s.size<4294967281)(ac:O.size<4294967281)(Z:∀(j:Nat) b,s.data.toList[j]?=some b->b.toNat<128)(aa:∀(j:Nat) b,O.data.toList[j]?=some b->b.toNat<128):
  Calls Tp 172 #[.string s,.string O] w λe w'=>e=.returned (.bool (Lib.containsAny s.data.toList O.data.toList))/\Below w.heap.size w w':=Any.strings_ContainsAny_laid zyd (by kernel_rfl) s O w hs ac Z aa
def zdr:Go.Shelf.Ren:=⟨fun|105=>146|212=>174|99=>175|165=>176|166=>121|170=>177|169=>123|263=>204|264=>205|206=>206|240=>148|241=>207|276=>180|277=>226|n=>n,fun|9=>9|3=>3|4=>4|20=>20|0=>0|46=>176|109=>178|5=>5|72=>127|76=>131|51=>200|146=>201|53=>189|148=>203|70=>125|37=>99|75=>129|127=>154|164=>183|80=>134|n=>n,fun|n=>n⟩
theorem zye:Go.Proofs.Lays.n105 Tp zdr:={
 mixed:=by kernel_rfl
 f99:=LF Tryz.func175
 f105:=LF Tryz.func146
 f165:=LF Tryz.func176
 f166:=LF Tryz.func121
 f169:=LF Tryz.func123
 f170:=LF Tryz.func177
 f206:=LF Tryz.func206
 f212:=LF Tryz.func174
 f240:=LF Tryz.func148
 f241:=LF Tryz.func207
 f263:=LF Tryz.func204
 f264:=LF Tryz.func205
 f276:=LF Tryz.func180
 f277:=LF Tryz.func226
 t0:=Cc
 a0:=Db
 z0:=C3
 v0:=Ci
 t3:=BH
 a3:=Cx
 z3:=Cj
 v3:=BM
 t4:=BI
 a4:=CN
 z4:=Cu
 v4:=BU
 t5:=BZ
 a5:=C5
 z5:=CJ
 v5:=Cb
 t9:=Bw
 a9:=Cy
 z9:=Ck
 v9:=BN
 t20:=Tryz.underlying20
 a20:=Tryz.isAgg20
 z20:=Tryz.sizeOf20
 v20:=Tryz.zeroValue20
 t37:=Tryz.underlying99
 a37:=Tryz.isAgg99
 z37:=Tryz.sizeOf99
 v37:=Tryz.zeroValue99
 t46:=B7
 a46:=C6
 z46:=CO
 v46:=Cg
 t51:=Tryz.underlying200
 a51:=Tryz.isAgg200
 z51:=Tryz.sizeOf200
 v51:=Tryz.zeroValue200
 t53:=Tryz.underlying189
 a53:=Tryz.isAgg189
 z53:=Tryz.sizeOf189
 v53:=Tryz.zeroValue189
 t70:=Tryz.underlying125
 a70:=Tryz.isAgg125
 z70:=Tryz.sizeOf125
 v70:=Tryz.zeroValue125
 t72:=Tryz.underlying127
 a72:=Tryz.isAgg127
 z72:=Tryz.sizeOf127
 v72:=Tryz.zeroValue127
 t75:=Dt
 a75:=Tryz.isAgg129
 z75:=Tryz.sizeOf129
 v75:=Tryz.zeroValue129
 t76:=Tryz.underlying131
 a76:=Tryz.isAgg131
 z76:=Tryz.sizeOf131
 v76:=Tryz.zeroValue131
 t109:=Tryz.underlying178
 a109:=Tryz.isAgg178
 z109:=Tryz.sizeOf178
 v109:=Tryz.zeroValue178
 t127:=Tryz.underlying154
 a127:=Tryz.isAgg154
 z127:=Tryz.sizeOf154
 v127:=Tryz.zeroValue154
 t146:=Tryz.underlying201
 a146:=Tryz.isAgg201
 z146:=Tryz.sizeOf201
 v146:=Tryz.zeroValue201
 t148:=Tryz.underlying203
 a148:=Tryz.isAgg203
 z148:=Tryz.sizeOf203
 v148:=Tryz.zeroValue203
 t164:=Tryz.underlying183
 a164:=Tryz.isAgg183
 z164:=Tryz.sizeOf183
 v164:=Tryz.zeroValue183 }
theorem zb2:Builder.Extra Tp zdr:={
 sizeBuilder:=by kernel_rfl
 liesBuilder:=by kernel_rfl
 t5:=BZ
 a5:=C5
 z5:=CJ
 v5:=Cb
 infoByte:=by kernel_rfl
 cellsByte:=by kernel_rfl
 sizeByte:=by kernel_rfl
 neB5:=by decide }
open Go.RowKit Go.Lib in
theorem zga(s:Bt)(c:Nat)(w:World)(hc:c<=9223372036854775807)(O:s.size*c<=140737488355328):
  Calls Tp 146 #[.string s,.int .i64 c] w λe w'=>e=.returned (.string ⟨(Lib.repeatL s.data.toList c).toArray⟩)/\Below w.heap.size w w':=Any.strings_Repeat zye zb2 s c w hc O
open Go.RowKit Go.Lib in
theorem Y8(s:Bt)(w:World)(hT:Lib.Utf8Tabs 0 1 w):
  Calls Tp 142 #[.string s] w λe w'=>e=.returned (.tuple #[.int .i32 (Lib.decodeGo s).1,.int .i64 (Lib.decodeGo s).2])/\Below w.heap.size w w':=Any.utf8_DecodeRuneInString zyc s w hT
def zmw:Go.Shelf.Ren:=⟨fun|109=>144|n=>n,fun|31=>22|9=>9|3=>3|0=>0|4=>4|n=>n,fun|n=>n⟩
theorem zo7:Go.Proofs.Lays.n109 Tp zmw:={
 mixed:=by kernel_rfl
 f109:=LF Tryz.func144
 t0:=Cc
 a0:=Db
 z0:=C3
 v0:=Ci
 t3:=BH
 a3:=Cx
 z3:=Cj
 v3:=BM
 t4:=BI
 a4:=CN
 z4:=Cu
 v4:=BU
 t9:=Bw
 a9:=Cy
 z9:=Ck
 v9:=BN
 t31:=Tryz.underlying22
 a31:=Tryz.isAgg22
 z31:=Tryz.sizeOf22
 v31:=Tryz.zeroValue22 }
open Go.Lib in
theorem Xo(b off n c:Nat)(zs:List Bt)(x:Bt)(w:World)(hz:n<=zs.length)(O:n<=9223372036854775807)(hc:∀j,j<zs.length->w.cell? ⟨b,off+j,none⟩=some (.string (zs.getD j D3))):
  Calls Tp 144 #[.slice (some ⟨b,off,none⟩) n c,.string x] w λe w'=>e=.returned (.int .i64 (Lib.idxOfS (zs.take n) x))/\w'=w:=Any.slices_Index_string zo7 b off n c zs x w hz O hc
open Go.Lib in
theorem Yk(a:Option Addr)(c:Nat)(x:Bt)(w:World):
  Calls Tp 144 #[.slice a 0 c,.string x] w λe w'=>e=.returned (.int .i64 (Lib.idxOfS [] x))/\w'=w:=Any.slices_Index_string_empty zo7 a c x w
end
end Go.X
end
section
namespace Go.X
open Go Go.X Go.Proofs Go.RowKit
section
variable {gl M:Fr} {R:Int -> Prop}
theorem Xp{s:Bt}{c:Int}(h:R (Lib.indexByte (lb s) c.toNat.toUInt8)):PC Tp gl 191 [Arg.mk .str s,Arg.mk (.int .u8) c] [.int .i64] R:=
 PC.of_same rfl (λ_=>zq9 _ _) h λw _=>x9 s c w
theorem zo8{s p:Bt}{R:Bt×Bool->Prop}(h:R (bl (Lib.trimPrefix (lb s) (lb p)),Lib.hasPrefix (lb s) (lb p))):PC Tp gl 154 [Arg.mk .str s,Arg.mk .str p] [.str,.bool] R:=
 PC.of_same rfl (λM=>⟨[_,_],⟨_,_,rfl,rfl,_,rfl,rfl⟩,rfl⟩) h λw _=>zb1 s p w
theorem zmx{s p:Bt}{R:Bt->Prop}(h:R (bl (Lib.trimPrefix (lb s) (lb p)))):PC Tp gl 156 [Arg.mk .str s,Arg.mk .str p] [.str] R:=
 PC.of_same rfl (λ_=>zh7 _) h λw _=>zas s p w
theorem zrc{s:Bt}{c:UInt8}(hc:c.toNat<128){R:Bt->Prop}(h:R (bl (Lib.trimLeftB (lb s) c))):PC Tp gl 131 [Arg.mk .str s,Arg.mk .str ⟨#[c]⟩] [.str] R:=
 PC.of_same rfl (λ_=>zh7 _) h λw _=>Ww s c hc w
theorem zo9{s:Bt}{c:UInt8}(hc:c.toNat<128)(hs:s.size<=9223372036854775807){R:Bt->Prop}(h:R (bl (Lib.trimRightB (lb s) c))):PC Tp gl 132 [Arg.mk .str s,Arg.mk .str ⟨#[c]⟩] [.str] R:=
 PC.of_same rfl (λ_=>zh7 _) h λw _=>Wl s c hc w hs
def z3z(gl:Fr):Prop:=∃(cs:Array Value) (m:Int),gl 2=some cs/\cs[0]?=some (.int .i64 m)
theorem zig(w:World)(n:Nat):Below w.heap.size w (w.drewN n):=⟨rfl,rfl,rfl,Ae _,λ_ _=>rfl⟩
theorem zyf{s:Bt}{c:Nat}(hc:c<=9223372036854775807)(O:s.size*c<=140737488355328){R:Bt->Prop}(h:R (bl (Lib.repeatL (lb s) c))):PC Tp gl 146 [Arg.mk .str s,Arg.mk (.int .i64) (c:Int)] [.str] R:=
 PC.of_scal rfl (λ_=>zh7 _) h λw hw=>zga s c w hc O
def Tabs(gl:Fr):Prop:=(∃cs:Array Value,gl 0=some cs/\∀c,c<256->cs[c]?=some (.int .u8 (Lib.firstT c)))/\∃cs:Array Value,gl 1=some cs/\∀i,i<16->cs[2*i]?=some (.int .u8 (Lib.accLo i))/\cs[2*i+1]?=some (.int .u8 (Lib.accHi i))
theorem Tabs.at(h:Tabs gl){w:World}(hw:AgM gl w.heap):Lib.Utf8Tabs 0 1 w:=by
 obtain⟨⟨c1,a1,b1⟩,c2,a2,b2⟩:=h
 exact⟨λc hc=>hw.glob a1 (b1 c hc),λi hi=>⟨hw.glob a2 (b2 i hi).1,hw.glob a2 (b2 i hi).2⟩⟩
theorem zyg(hg:Tabs gl){s:Bt}{R:Int×Int->Prop}(h:R ((Lib.decodeGo s).1,(Lib.decodeGo s).2)):PC Tp gl 142 [Arg.mk .str s] [.int .i32,.int .i64] R:=
 PC.of_scal rfl (λM=>⟨[_,_],⟨_,_,rfl,rfl,_,rfl,rfl⟩,rfl⟩) h λw hw=>Y8 s w (hg.at hw)
theorem zvf(w:World)(k:Nat)(os:Array Obj):Below w.heap.size w (Go.Sort.grow (w.drewN k) os):=⟨rfl,rfl,rfl,by simp[Go.Sort.grow,World.drewN],λi hi=>by
 show((w.drewN k).heap++os)[i]?=_
 exact Cs hi⟩
def Pow(gl : Fr): Prop := ∃ b cs, Tryz.prog.globalNamed "internal/strconv.uint64pow10" = some b ∧ gl b = some cs ∧ cs = (Lib.pow10Tab.map λz => Value.int .u64 z).toArray
theorem zyh(hg:Pow gl){n:Int}(h0:-9223372036854775808<=n)(h1:n<=9223372036854775807){R:Bt->Prop}(h:R (bl (Lib.itoa n))):PC Tp gl 97 [Arg.mk (.int .i64) n] [.str] R:=by
 obtain⟨b,cs,e1,e2,e3⟩:=hg
 refine PC.of_scal rfl (λ_=>zh7 _) h λw hw=>(zjz n h0 h1 w ?_).mono λe w' ⟨he,k,os,O⟩=>⟨he,O ▸ zvf w k os⟩
 obtain⟨T,m,e4⟩:=hw b cs e2
 unfold Lib.TabIs World.var?
 rw[e1]
 simp only[BW,e4,e3]
def z6b(l:List UInt8):Int×Bool:=match Lib.atoiAll l with
 |.ok v=>(v,true)
 |.range=>(Lib.atoiSat l,false)
 |_=>(0,false)
def zre(gl:Fr):Prop:=(∃(cs:Array Value) (e:Value),gl 4=some cs/\cs[0]?=some e/\(e=.nilIface\/∃te pe,e=.iface te pe))/\∃(cs:Array Value) (e:Value),gl 5=some cs/\cs[0]?=some e/\(e=.nilIface\/∃te pe,e=.iface te pe)
theorem zmy(k:IntKind)(i:Int)(t:TypeId)(u:Value):zht M [.int k,.err] (i,false) (.tuple #[.int k i,.iface t u]):=⟨[_,_],⟨_,_,rfl,rfl,.iface t u,rfl,⟨_,rfl,.inr ⟨rfl,_,_,rfl⟩⟩⟩,rfl⟩
theorem zpa(k:IntKind)(i:Int):zht M [.int k,.err] (i,true) (.tuple #[.int k i,.nilIface]):=⟨[_,_],⟨_,_,rfl,rfl,.nilIface,rfl,⟨_,rfl,.inl ⟨rfl,rfl⟩⟩⟩,rfl⟩
theorem z6c(hg:zre gl){s:Bt}(hs:s.size<=281474976710656){R:Int×Bool->Prop}(h:R (z6b (lb s))):PC Tp gl 173 [Arg.mk .str s] [.int .i64,.err] R:=by
 unfold z6b at h
 cases hx:Lib.atoiAll (lb s)with
 |ok v=>
  rw[hx]at h
  refine PC.of_ex rfl λw hw=>(ze3 s (by omega) v hx w).mono λe w' ⟨he,Z⟩=>⟨_,(v,true),he,λM=>zpa _ _,h,?_⟩
  rcases Z with rfl|⟨t,rfl⟩
  ·exact Below.refl _ _
  ·exact Lib.bytesWorld_below _ _ _
 |range=>
  rw[hx]at h
  obtain⟨_,⟨cs,ev,e1,e2,e3⟩⟩:=hg
  exact PC.of_ex rfl λw hw=>(zar s hs hx ev w (hw.glob e1 e2) e3).mono λe w' ⟨N,he,_,_,O⟩=>⟨_,(Lib.atoiSat (lb s),false),he,λM=>zmy _ _ _ _,h,O⟩
 |_=>
  rw[hx]at h
  obtain⟨⟨cs,ev,e1,e2,e3⟩,_⟩:=hg
  exact PC.of_ex rfl λw hw=>(Xn s hs hx ev w (hw.glob e1 e2) e3).mono λe w' ⟨N,he,_,_,O⟩=>⟨_,(0,false),he,λM=>zmy _ _ _ _,h,O⟩
def zih(l:List UInt8):Int×Bool:=match Lib.parseIntB 64 l with
 |.ok v=>(v,true)
 |.range=>(Lib.intSat 64 l,false)
 |_=>(0,false)
theorem zrf(hg:zre gl){s:Bt}(hs:s.size<=281474976710656){R:Int×Bool->Prop}(h:R (zih (lb s))):PC Tp gl 147 [Arg.mk .str s,Arg.mk (.int .i64) 10,Arg.mk (.int .i64) 64] [.int .i64,.err] R:=by
 unfold zih at h
 cases hx:Lib.parseIntB 64 (lb s)with
 |ok v=>
  rw[hx]at h
  refine PC.of_ex rfl λw hw=>(Qr s (by omega) v hx w).mono λe w' ⟨he,Z⟩=>⟨_,(v,true),he,λM=>zpa _ _,h,?_⟩
  rcases Z with rfl|⟨t,rfl⟩
  ·exact Below.refl _ _
  ·exact Lib.bytesWorld_below _ _ _
 |range=>
  rw[hx]at h
  obtain⟨_,⟨cs,ev,e1,e2,e3⟩⟩:=hg
  exact PC.of_ex rfl λw hw=>(Zx s hs hx ev w (hw.glob e1 e2) e3).mono λe w' ⟨N,he,_,_,O⟩=>⟨_,(Lib.intSat 64 (lb s),false),he,λM=>zmy _ _ _ _,h,O⟩
 |_=>
  rw[hx]at h
  obtain⟨⟨cs,ev,e1,e2,e3⟩,_⟩:=hg
  exact PC.of_ex rfl λw hw=>(Zs s hs hx ev w (hw.glob e1 e2) e3).mono λe w' ⟨N,he,_,_,O⟩=>⟨_,(0,false),he,λM=>zmy _ _ _ _,h,O⟩
theorem zj2{s c:Bt}(hs:s.size<4294967281)(hc:c.size<4294967281)(O:∀(j:Nat) b,(lb s)[j]?=some b->b.toNat<128)(Z:∀(j:Nat) b,(lb c)[j]?=some b->b.toNat<128){R:Bool->Prop}(h:R (Lib.containsAny (lb s) (lb c))):
  PC Tp gl 172 [Arg.mk .str s,Arg.mk .str c] [.bool] R:=
 PC.of_scal rfl (λ_=>z1p _) h λw hw=>Ys s c w hs hc O Z
theorem zaz{xs:List Bt}{x:Bt}(h:R (Lib.idxOfS xs x)):PC Tp gl 144 [Arg.mk (.row .str) xs,Arg.mk .str x] [.int .i64] R:=by
 intro hp M vs hM ag ha
 match vs,ha with
 |[u,v],⟨h1,h2,_⟩=>
  have Z:Rd M (.row .str) xs [u]:=by simpa[RdV,zcl]using h1
  have O:v=.string x:=by simpa[RdV,zcl,Rd]using h2
  subst O
  obtain⟨s,rfl,hl,hn,cells,hc,ha⟩:=Rd.rowC ag Z
  have:=zfu hc
  subst this
  have key:∀w:World,w.heap=hp->Calls Tp 144 #[slV s,.string x] w λe w'=>e=.returned (.int .i64 (Lib.idxOfS xs x))/\w'=w:=by
   intro w hw
   rcases ha with h0|⟨b,o,e1,e2,e3⟩
   ·have hx:xs=[]:=by simpa using h0
    subst hx
    have:=Yk s.a s.cap x w
    simp only[slV,hl];exact this
   ·have:=Xo b o s.len s.cap xs x w (by omega) (by omega) (λj hj=>by
     have:=e3 j (.string (xs.getD j D3)) (by rw[B5,Aj hj,Ct,Aj hj];rfl)
     rw[<-hw]at this
     exact this)
    rw[hl,AE]at this
    simp only[slV,e1,hl];exact this
  refine XC.of_calls λB d=>(key (mk B d hp) rfl).mono ?_
  rintro e w' ⟨rfl,rfl⟩
  exact⟨_,rfl,rfl,rfl,rfl,Keep.refl _ _,M,_,Fr.le.refl _,λ_ _=>rfl,ag,zq9 _ _,h⟩
end
end Go.X
end
section
namespace Go.X
open Go Go.Lib
section
theorem zv(l:Bs):(bl l).size=l.length:=by rw[<-Js,Zk]
theorem jg(l:Bs)(a b:Nat):(bl l).extract a b=bl ((l.drop a).take (b-a)):=by rw[<-zk9,zvc,Zk,Zk]
theorem ju(a b:Bs):bl a++bl b=bl (a++b):=by rw[<-zk9,zx1,Zk,Zk,Zk]
theorem yq(l:Bs)(i:Nat):zd (bl l) i=((l[i]?.getD 0).toNat:Int):=by rw[zie,Zk]
theorem xp(s:Bt):s.toList=lb s:=by
 cases s with
 |mk d=>exact Go.Lib.toList_data ⟨d⟩
theorem zds(a b:Bs):((bl a).toList==(bl b).toList)=decide (a=b):=by
 rw[xp,xp,Zk,Zk]
 rw[AB];simp
theorem zpb(l:Bs)(p:Nat):nxB (bl l) p=decide (p<l.length):=by
 rw[AB];simp[nxB,zv]
theorem zs4(l:Bs)(p:Nat):nxR (bl l) p=((dec (l.drop p)).1:Int):=by rw[nxR,zx2,Zk]
theorem zlb(l:Bs)(p:Nat)(h:p<l.length):nxP (bl l) p=p+(dec (l.drop p)).2:=by
 rw[nxP,zx2,Zk]
 have:Nat.blt p (bl l).size=true:=by simp[zv,h]
 rw[this];rfl
theorem zdt{l:Bs}{i:Nat}(h:i<l.length):l[i]?.getD 0=l[i]:=by rw[Aj h];rfl
theorem qci(c:UInt8):(c.toNat:Int)<256:=by have:=c.toNat_lt;omega
def qu(c:UInt8):Bool:=decide (48<=c.toNat)&&decide (c.toNat<=57)
def Z8(l:Bs):Bool:=l.all qu && !l.isEmpty
abbrev Nm:=Bool×Bs×Int
abbrev nmB(n:Nm):Bool×Bt×Int:=(n.1,(bl n.2.1,n.2.2))
def Wv(n:Nm):Bool:=!n.1&&(n.2.1.isEmpty&&n.2.2==0)
def yr(n:Nm):Bool:=Wv n||(Z8 n.2.1&&decide (n.2.1.length<=1000)&&n.2.1.head? != some 48&&n.2.1.getLast? != some 48&&decide (-1000000<=n.2.2)&&decide (n.2.2<=1000000))
def Yl(n:Nm):Bs:=if yr n then(if n.2.1=[]then [48]else(if n.1 then [45]else [])++n.2.1++(if n.2.2=0 then []else 101::Go.Lib.itoa n.2.2))else []
theorem zii{n:Nm}(h:yr n=true)(e:n.2.1=[]):Wv n=true:=by
 unfold yr at h
 rcases Cw _ _ ▸ h with h|h
 ·exact h
 ·simp[Z8,e]at h
theorem Wm{n:Nm}(h:yr n=true):n.2.1.length<=1000/\-1000000<=n.2.2/\n.2.2<=1000000:=by
 unfold yr Wv at h
 obtain⟨a,d,e⟩:=n
 simp at h
 rcases h with⟨_,h,h'⟩|h
 ·subst h;subst h';simp
 ·simp only;omega
def cutAt(p:UInt8->Bool):Bs->Bs×Bs×Bool
 |[]=>([],[],false)
 |c::l=>if p c then([],l,true)else(c::(cutAt p l).1,(cutAt p l).2)
theorem zab{p:UInt8->Bool}:∀{l},(∀c∈l,p c=false)->cutAt p l=(l,[],false)
 |[],_=>rfl
 |c::l,h=>by
  unfold cutAt
  rw[if_neg (by simp[h c (by simp)]),zab λc hc=>h c (by simp[hc])]
theorem zgs{p:UInt8->Bool}:∀{l:Bs} {k:Nat} (hk:k<l.length),(∀i (hi:i<k),p (l[i]'(by omega))=false)->p l[k]=true->cutAt p l=(l.take k,l.drop (k+1),true)
 |c::l,0,_,_,h=>by
  unfold cutAt
  rw[if_pos (by simpa using h)];simp
 |c::l,k+1,hk,h0,h=>by
  unfold cutAt
  have h1:p c=false:=h0 0 (by omega)
  rw[if_neg (by simp[h1]),zgs (k:=k) (by simpa using hk) (λi hi=>by simpa using h0 (i+1) (by omega)) (by simpa using h)]
  simp
structure Lit where
 neg:Bool
 whole:Bs
 rest:Bs
 low:Bool
 exp:Bs
def zs5(s:Bs):Bs:=if s.head?==some 45 then s.tail else s
def isE(c:UInt8):Bool:=c==101||c==69
def zpc(c:UInt8):Bool:=c==46
def Zl(s:Bs):Bs×Bs×Bool:=cutAt isE (zs5 s)
def Ym(s:Bs):Bool:=(Zl s).2.2&&(Zl s).2.1.head?==some 45
def zij(s:Bs):Bs:=if Ym s then(Zl s).2.1.tail else if(Zl s).2.1.head?==some 43 then(Zl s).2.1.tail else(Zl s).2.1
def we(s:Bs):Bs×Bs×Bool:=cutAt zpc (Zl s).1
def zdu(s:Bs):Bool:=(!(Zl s).2.2||Z8 (zij s))&&Z8 (we s).1&&(!(we s).2.2||Z8 (we s).2.1)&&((we s).1==[48]||(we s).1.head? != some 48)
def Y9(s:Bs):Lit:=⟨s.head?==some 45,(we s).1,(we s).2.1,Ym s,if(Zl s).2.2 then zij s else []⟩
def Jt(s:Bs):Option Lit:=if zdu s then some (Y9 s)else none
theorem zik{s:Bs}{x:Lit}(h:Jt s=some x):zdu s=true/\x=Y9 s:=by
 unfold Jt at h
 split at h
 ·rename_i e;exact⟨e,(Aw h).symm⟩
 ·exact absurd h (by simp)
theorem zac{p:UInt8->Bool}:∀{l:Bs},(cutAt p l).2.2=false->(cutAt p l).1=l/\(cutAt p l).2.1=[]
 |[],_=>⟨rfl,rfl⟩
 |c::l,h=>by
  unfold cutAt at h ⊢
  split
  ·rename_i e;rw[if_pos e]at h;exact absurd h (by simp)
  ·rename_i e
   rw[if_neg e]at h
   have:=zac h
   exact⟨by simp[this.1],this.2⟩
def jo(l:Bs):Bs:=((l.dropWhile (· == 48)).reverse.dropWhile (· == 48)).reverse
def zj(l:Bs):Nat:=l.foldl (λn c=>10*n+(c.toNat-48)) 0
def yb(s:Bs):Nm×Int:=match Jt s with
 |none=>((false,[],0),2)
 |some x=>
  if x.whole.length+x.rest.length>1000 then((false,[],0),3)
  else if(x.exp.dropWhile (· == 48)).length>9 then((false,[],0),4)
  else
   let e:Int:=if x.low then-(zj (x.exp.dropWhile (· == 48)):Int)else zj (x.exp.dropWhile (· == 48))
   let d:=(x.whole++x.rest).dropWhile (· == 48)
   let O:=jo (x.whole++x.rest)
   if d=[]then((false,[],0),0)
   else if -1000000<=e-x.rest.length+d.length-O.length/\e-x.rest.length+d.length-O.length<=1000000 then((x.neg,O,e-x.rest.length+d.length-O.length),0)
   else((false,[],0),4)
def zvg(n:Nm):Int×Bool:=
 if yr n&&decide (0<=n.2.2)&&decide ((n.2.1.length:Int)+n.2.2<=19)then
  let v:Int:=if n.1 then-((zj n.2.1*10 ^ n.2.2.toNat:Nat):Int)else(zj n.2.1*10 ^ n.2.2.toNat:Nat)
  if -9223372036854775808<=v/\v<=9223372036854775807 then(v,true)else(0,false)
 else(0,false)
end
end Go.X
end
