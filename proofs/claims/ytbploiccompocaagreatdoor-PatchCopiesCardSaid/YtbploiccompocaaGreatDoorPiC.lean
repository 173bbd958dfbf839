/- A part of the proof: nothing is stated here for its own sake. -/
import Derived.Test.YtbploiccompocaaGreatDoorPiB
import Derived.Deep.LoopGhost
import Derived.Below
import Derived.WalkKit
import Derived.ProofKit
import Derived.OpenShut
import Derived.ShutString
import Derived.ChangeOld
import Derived.ChangeArms
import Derived.SliceStrings
import Derived.SizedLaws
import Derived.LaidSub
import Derived.Lib.LaidU8
import Derived.Test.YtbploiccompocaaGreatDoorProg
import Derived.Lib.DecodeNEq
import Derived.Lib.Replace
import Derived.Lib.SplitLaws
import Derived.Lib.IndexMore
section
namespace Go.X
open Go
set_option linter.unusedVariables false
variable {h0 : Heap} {W : Nat → Prop} {M0 : Fr}
structure It where
 k:Nat
 dst:Option Nat
 ch:Chain
 av:AV
 nb:Option (Nat×Ch)
 us:Option Nat:=none
def itE:List It→EnvA
 | []=>[]
 | i::l=>match i.dst with
  | some s=>(s,i.ch,i.av)::itE l
  | none=>itE l
def itC:List It→CS
 | []=>[]
 | i::l=>match i.nb with
  | some b=>b::itC l
  | none=>itC l
theorem itE_mem {x:Nat×Chain×AV}:∀ {l:List It},x∈itE l↔∃ i∈l,i.dst=some x.1∧i.ch=x.2.1∧i.av=x.2.2
 | []=>by simp [itE]
 | i::l=>by
  simp only [itE]
  split
  ·rename_i s hs
   rw [List.mem_cons,itE_mem (l:=l)]
   constructor
   ·rintro(rfl | ⟨j,hj,h⟩)
    ·exact⟨i,List.mem_cons_self,hs,rfl,rfl⟩
    ·exact⟨j,List.mem_cons_of_mem _ hj,h⟩
   ·rintro⟨j,hj,h1,h2,h3⟩
    rcases List.mem_cons.1 hj with rfl | hj
    ·left;rw [hs] at h1;cases h1;rw [h2,h3]
    ·exact .inr ⟨j,hj,h1,h2,h3⟩
  ·rename_i hs
   rw [itE_mem (l:=l)]
   constructor
   ·rintro⟨j,hj,h⟩;exact⟨j,List.mem_cons_of_mem _ hj,h⟩
   ·rintro⟨j,hj,h1,h2,h3⟩
    rcases List.mem_cons.1 hj with rfl | hj
    ·rw [hs] at h1;cases h1
    ·exact⟨j,hj,h1,h2,h3⟩
def restrE (S:List Nat):EnvA→EnvA
 | []=>[]
 | (i,c,v)::e=>bif memN S i then(i,c,v)::restrE S e else restrE S e
theorem restrE_mem {S:List Nat} {x:Nat×Chain×AV}:∀ {e:EnvA},x∈restrE S e→x∈e∧x.1∈S
 | [],h=>by cases h
 | (i,c,v)::e,h=>by
  simp only [restrE] at h
  cases hm:memN S i with
  | true=>
   rw [hm] at h
   rcases List.mem_cons.1 h with rfl | h
   ·exact⟨List.mem_cons_self,memN_true hm⟩
   ·exact⟨List.mem_cons_of_mem _ (restrE_mem h).1,(restrE_mem h).2⟩
  | false=>rw [hm] at h;exact⟨List.mem_cons_of_mem _ (restrE_mem h).1,(restrE_mem h).2⟩
def litD (P:Program) (tr:TypeId) (t:TypeId) (n:Nat) (ps:List (Nat×AV)) (cs:CS) (K:AV→Prop):Prop:=
 match elOk P t with
 | some el=>match tyOf P tr 8 el,zerosOf P el (n*szOf P el) with
  | some ty,some zs=>bif Nat.beq (szOf P el) (sz ty) then(bif Nat.ble (n*szOf P el) 16777216 then(bif Nat.blt 0 (szOf P el) then(match fillA (fun i=>some (i*szOf P el,szOf P el)) (zs.map .v) ps with
   | some r=>match collectN cs ty n r with
    | some (ys,[])=>K (.g (.a (.dc ty ys)))
    | _=>False
   | none=>False) else False) else False) else False
  | _,_=>False
 | none=>False
theorem buildSlice_run {P:Program} {t el:TypeId} (hu:P.underlying t=some (.slice el)) (hok:okInfo P el=true) {n:Nat} (hb1:n*szOf P el≤16777216) {zs:List Value} (hzs:zerosOf P el (n*szOf P el)=some zs) {ps:Array (Nat×Value)} {c1:List Value}
  (e6:Instr.fill (fun i=>some (i*szOf P el,szOf P el)) zs.toArray ps.toList=some c1.toArray) (B:World) (e:Nat) (h:Heap):
  (Instr.buildSlice t n ps).run P (mk B e h)=.ok (.slice (some ⟨h.size,0,none⟩) n n) (mk B e (h.push (.cells c1.toArray el))):=by
 have hq:=QExec.underlying (h:=h) hu B e
 have hs:=QExec.sizeOf (P:=P) (h:=h) (okInfo_some hok).choose_spec B e
 unfold Instr.buildSlice
 rw [Sem.run_bind,hq]
 simp only [Result.andThen_ok]
 rw [Sem.run_bind,hs]
 simp only [Result.andThen_ok]
 rw [if_neg (by omega)]
 unfold zerosOf at hzs
 by_cases h0':n*szOf P el=0
 ·rw [if_pos h0']
  rw [h0'] at hzs ⊢
  simp at hzs
  subst hzs
  simp only [Sem.run_bind,Sem.run_pure,Result.andThen_ok]
  have e7:Array.map (fun x=>(#[]:Array Value)[x % (#[]:Array Value).size]!) (Array.range 0)=([]:List Value).toArray:=by simp
  rw [e7,e6]
  rfl
 ·rw [if_neg h0']
  have hb:Nat.beq (n*szOf P el) 0=false:=by
   cases hh:Nat.beq (n*szOf P el) 0 with
   | false=>rfl
   | true=>exact absurd (Nat.eq_of_beq_eq_true hh) h0'
  rw [hb] at hzs
  simp only [cond_false] at hzs
  split at hzs
  ·rename_i z hz'
   have hzr:=zeroOf_run hz' h B e
   simp only [Option.some.injEq] at hzs
   rw [Sem.run_bind,hzr]
   simp only [Result.andThen_ok,Sem.run_bind,Sem.run_pure]
   have e7:Array.map (fun x=>z.cells[x % z.cells.size]!) (Array.range (n*szOf P el))=zs.toArray:=by
    rw [← hzs]
   rw [e7,e6]
   rfl
  ·cases hzs
theorem Inv.newFrozen {cs:CS} {γ:Gh} {h:Heap} (I:Inv h0 W M0 cs γ h) (blk':Array Value) (el:TypeId):Inv h0 W M0 cs (setM γ h.size blk') (h.push (.cells blk' el))∧Gx none γ (setM γ h.size blk')∧(setM γ h.size blk').M h.size=some blk':=by
 have hMn:γ.M h.size=none:=I.ag.none (Nat.le_refl _)
 have hM:Fr.le γ.M (setM γ h.size blk').M:=by
  intro b cc eM
  have:Nat.beq b h.size=false:=by
   cases hb:Nat.beq b h.size with
   | false=>rfl
   | true=>rw [Nat.eq_of_beq_eq_true hb,hMn] at eM;cases eM
  simp [setM,this,eM]
 have hag:AgM (setM γ h.size blk').M (h.push (.cells blk' el)):=by
  intro b cc eM
  by_cases hb:b=h.size
  ·subst hb
   have:cc=blk':=by simp [setM] at eM;exact eM.symm
   subst this
   exact⟨_,_,get_push _ _⟩
  ·have:Nat.beq b h.size=false:=by
    cases hb':Nat.beq b h.size with
    | false=>rfl
    | true=>exact absurd (Nat.eq_of_beq_eq_true hb') hb
   simp only [setM,this,cond_false] at eM
   obtain⟨T',m,e'⟩:=I.ag b cc eM
   exact⟨T',m,by rw [Array.getElem?_push,if_neg hb];exact e'⟩
 refine⟨I.call (Keep.push h _ (Nat.le_refl _)) hM (fun b hb=>?_) hag,⟨hM,fun _ _=>⟨rfl,rfl⟩⟩,by simp [setM]⟩
 have:Nat.beq b h.size=false:=by
  cases hb':Nat.beq b h.size with
  | false=>rfl
  | true=>have:=Nat.eq_of_beq_eq_true hb';omega
 simp [this]
def delO:Option (Nat×Ch)→CS→CS
 | none,C=>C
 | some c,C=>delC c.1 C
def StepEx (h0:Heap) (W:Nat→Prop) (M0:Fr) (P:Program) (o:Oper) (a:Act) (γ:Gh) (h:Heap) (cs:CS) (nb:Option (Nat×Ch)) (Ka:AV→Prop) (eat:Option (Nat×Ch):=none):Prop:=
 ExA P (execOp a.eval o) h fun v h'=>∃ av γ',Ka av∧DenV γ' av v∧Inv h0 W M0 (nb.toList++delO eat cs) γ' h'∧Gx (nb.map (·.1)) γ γ'
theorem litD_ex {P:Program} {tr t:TypeId} {n:Nat} {parts:Array (Nat×Operand)} {o:Oper} (ho:o.op=.buildSlice t n parts) {ps:List (Nat×AV)} {ρ:Operand→Option AV} (hps:partsA ρ parts.toList=some ps) {cs:CS} {K:AV→Prop} (H:litD P tr t n ps cs K):
  ∃ av,K av∧∀ (γ:Gh) (h:Heap) (a:Act) (Y:CS),Inv h0 W M0 (Y++cs) γ h→(∀ x av,ρ x=some av→DenV γ av (a.eval x))→StepEx h0 W M0 P o a γ h (Y++cs) none (· = av):=by
 unfold litD at H
 split at H
 ·rename_i el hel
  obtain⟨hu,hok⟩:=elOk_some hel
  split at H
  ·rename_i ty zs hty hzs
   cases hz:Nat.beq (szOf P el) (sz ty) with
   | false=>rw [hz] at H;exact H.elim
   | true=>
   rw [hz] at H
   cases hb1:Nat.ble (n*szOf P el) 16777216 with
   | false=>rw [hb1] at H;exact H.elim
   | true=>
   rw [hb1] at H
   cases hb2:Nat.blt 0 (szOf P el) with
   | false=>rw [hb2] at H;exact H.elim
   | true=>
   rw [hb2] at H
   simp only [cond_true] at H
   split at H
   ·rename_i r hr
    split at H
    ·rename_i ys hys
     refine⟨_,H,fun γ h a Y I hρ=>?_⟩
     have I1:Inv h0 W M0 cs γ h:=I.sub (by simp)
     obtain⟨ws,e1,e2⟩:=fillA_sound hr (map_v_den γ zs) (partsA_den hρ hps)
     obtain⟨c1,c2,rfl,r3,r4,r5⟩:=collectN_rd I1.fz hys e2
     cases c2 with
     | cons _ _=>exact r5.elim
     | nil=>
     rw [List.append_nil] at *
     have hsz:=Nat.eq_of_beq_eq_true hz
     have hpos:0 < szOf P el:=by simpa [Nat.blt_eq] using hb2
     have hbn:n*szOf P el≤16777216:=Nat.le_of_ble_eq_true hb1
     have hn:n≤n*szOf P el:=Nat.le_mul_of_pos_right _ hpos
     have hcl:c1.length=n*szOf P el:=by rw [r3.1,r4,hsz]
     obtain⟨I2,g2,hM2⟩:=I.newFrozen c1.toArray el
     intro B e
     refine .inl ⟨.slice (some ⟨h.size,0,none⟩) n n,e,_,?_,_,_,rfl,?_,I2,g2⟩
     ·have e5:(parts.map fun x=>(x.1,a.eval x.2)).toList=parts.toList.map fun x=>(x.1,a.eval x.2):=by rw [Array.toList_map]
      simp only [execOp,ho]
      refine run_v ?_
      exact buildSlice_run hu hok hbn hzs (by
       show Instr.fill _ _ (parts.map fun x=>(x.1,a.eval x.2)).toList=_
       rw [e5];exact e1) B e h
     ·have hrr:=(r3.mono g2.1).rd (b:=h.size) (o:=0) (c:=n) (cs:=c1.toArray) hM2 (by rw [List.drop_zero,List.take_of_length_le (by rw [r4,← hsz];simp;omega)]) ⟨by omega,by omega⟩
      rw [r4] at hrr
      exact⟨⟨some ⟨h.size,0,none⟩,n,n⟩,rfl,rfl,hrr⟩
    ·exact H.elim
   ·exact H.elim
  ·exact H.elim
 ·exact H.elim
def isDc:AV→Bool
 | .g (.a (.dc _ _))=>true
 | _=>false
theorem appD_ex {P:Program} {tr t tx:TypeId} {bv sv:AV} {o:Oper} {c:Call} (ho:o.op=.call c) (hc:c.callee=.builtin .append) {s x:Operand} (hargs:c.args.toList=[s,x]) (htys:c.argTypes.toList=[t,tx]) {cs:CS} {K:AV→Prop} (hdc:isDc bv=true)
  (H:appendA P tr t tx bv sv 0 [] cs (fun av _ _=>K av)) {ρ:Operand→Option AV} (hs:ρ s=some bv) (hx:ρ x=some sv):
  ∀ (γ:Gh) (h:Heap) (a:Act) (Y:CS),Inv h0 W M0 (Y++cs) γ h→(∀ x av,ρ x=some av→DenV γ av (a.eval x))→StepEx h0 W M0 P o a γ h (Y++cs) none K:=by
 intro γ h a Y I hρ
 have hu':=hρ _ _ hs
 have hv':=hρ _ _ hx
 have I1:Inv h0 W M0 ([]++cs) γ h:=I.sub (by simp)
 have key:∀ {K':Value→Heap→Prop},XRun P (Builtin.append_ #[t,tx] o.type #[a.eval s,a.eval x]) h K'→ExA P (execOp a.eval o) h K':=by
  intro K' hx' B e
  obtain⟨v,d',h',r,hp⟩:=hx' B e
  refine .inl ⟨v,d',h',?_,hp⟩
  have ee:execOp a.eval o=(Builtin.append_ c.argTypes o.type (c.args.map a.eval) >>= fun x=>(Pure.pure (Next.value x):Sem Next)):=by
   simp only [execOp,ho,resolve,hc]
   rfl
  rw [ee,toList_eq hargs,toList_eq htys]
  refine run_v ?_
  simpa using r
 refine key ?_
 clear key
 unfold appendA at H
 split at H
 ·rename_i el hel
  obtain⟨hu,hok⟩:=elOk_some hel
  split at H
  ·rename_i ty hty
   split at H
   ·rename_i b ys hb hys
    obtain⟨⟨z,T⟩,hpos⟩:=elemInfo_T hu hb
    obtain⟨news,hrow,hsrc⟩:=srcA_den I1 hys T.pos hv'
    split at H
    ·cases hdc
    ·cases hdc
    ·rename_i t' xs0
     split at H
     ·rename_i xs hcast
      obtain⟨hbd,hK⟩:=H
      have hle:=le_of_mul hpos hbd
      obtain⟨e1,e2⟩:=castE_row hcast
      subst e1
      simp only at e2
      subst e2
      generalize a.eval s=u at *
      generalize a.eval x=v at *
      obtain⟨s2,e,hcl,hrd⟩:=(show ∃ s:Sl,u=slV s∧s.cap=s.len∧Rd γ.M (.row t') xs [u] from hu')
      subst e
      obtain⟨s3,e,hl0,hn0,cells,hrow0,harr⟩:=hrd.rowC I.ag
      have e':s2=s3:=by cases s2;cases s3;simp only [slV,Value.slice.injEq] at e;simp [e]
      subst e'
      have hcl0:cells.length=s2.len*sz t':=by rw [hl0];exact hrow0.1
      intro B dr
      by_cases hm:ys.length=0
      ·have hy0:ys=[]:=List.eq_nil_of_length_eq_zero hm
       subst hy0
       have hn2:news=[]:=List.eq_nil_of_length_eq_zero (by rw [hrow.1];simp)
       subst hn2
       have hr:=append_room (P:=P) (ty:=o.type) T (s:=s2) (h':=h) (hsrc B dr) (by simp;omega) (fun p hp=>by simp [storeCells]) (fun _=>rfl)
       refine⟨_,dr,h,hr,_,γ,hK,?_,I,Gx.refl _ _⟩
       rw [List.append_nil]
       exact hrd
      ·obtain⟨cp,blk',hr,hc1,hc2,hc3,hc4⟩:=append_grow (P:=P) (ty:=o.type) (base:=0) T hcl0 (fun B d=>first_run harr hcl0 T.pos B d) hsrc (by rw [hl0];exact hbd) (by rw [hl0];exact hle) (Nat.zero_le _) (by omega) B dr
       obtain⟨I2,g2,hM2⟩:=I.newFrozen blk' el
       refine⟨_,dr+1,_,hr,_,_,hK,?_,I2,g2⟩
       have hrr:=((hrow0.append hrow).mono g2.1).rd (b:=h.size) (o:=0) (c:=cp) (cs:=blk') hM2 (by rw [List.drop_zero,List.length_append,← hl0];exact hc4) (by rw [List.length_append,← hl0];exact⟨by rw [hl0];exact hle,hc1⟩)
       rw [List.length_append,← hl0] at hrr
       exact hrr
     ·exact H.elim
    ·exact H.elim
   ·exact H.elim
  ·exact H.elim
 ·exact H.elim
def callD (P:Program) (gl:Fr) (tr:TypeId) (o:Oper) (ρ:Operand→Option AV) (cs:CS) (K:AV→Prop):Prop:=
 match o.op with
 | .call c=>match c.callee with
  | .value x=>match fnOf x with
   | some f=>bif callable P f then(match sigOf P tr f,argsA ρ c.args.toList with
    | some (ts,rt),some vs=>match collectArgs cs ts vs with
     | some args=>PC P gl f args rt fun r=>K (retA rt r)
     | none=>False
    | _,_=>False) else False
   | none=>False
  | _=>False
 | _=>False
theorem callD_ex {P:Program} {gl:Fr} (hgl:Fr.le gl M0) {tr:TypeId} {o:Oper} {ρ:Operand→Option AV} {cs:CS} {K:AV→Prop} (H:callD P gl tr o ρ cs K):
  ∀ (γ:Gh) (h:Heap) (a:Act) (Y:CS),Inv h0 W M0 (Y++cs) γ h→(∀ x av,ρ x=some av→DenV γ av (a.eval x))→StepEx h0 W M0 P o a γ h (Y++cs) none K:=by
 intro γ h a Y I hρ
 unfold callD at H
 split at H
 ·rename_i c ho
  split at H
  ·rename_i x hx
   split at H
   ·rename_i f hf
    cases hcal:callable P f with
    | false=>rw [hcal] at H;exact H.elim
    | true=>
     rw [hcal] at H
     simp only [cond_true] at H
     split at H
     ·rename_i ts rt vs hs hvs
      split at H
      ·rename_i args hargs
       intro B d
       have e:=fnOf_eq hf
       subst e
       have I1:Inv h0 W M0 cs γ h:=I.sub (by simp)
       have ha:=collectArgs_rd I1.fz hargs (argsA_den hρ hvs)
       refine .inr (.inr ⟨f,c.args.map a.eval,enter_run ho hx hcal rfl _,?_⟩)
       have e2:c.args.map a.eval=(c.args.toList.map a.eval).toArray:=by rw [← Array.toList_map]
       rw [e2]
       refine(call_ex hgl H I ha).mono ?_
       rintro v h' ⟨r,γ',h1,h2,h3,h4,_⟩
       exact⟨_,γ',h1,h2,h3,h4⟩
      ·exact H.elim
     ·exact H.elim
   ·exact H.elim
  ·exact H.elim
 ·exact H.elim
theorem callG_step {P:Program} {gl:Fr} (hgl:Fr.le gl M0) {tr:TypeId} {o:Oper} {ρ:Operand→Option AV} {b:Bool} {cs:CS} {K:AV→Prop} (H:callG P gl tr o ρ b cs K) (hb:b=true):
  ∀ (γ:Gh) (h:Heap) (a:Act) (Y:CS),Inv h0 W M0 (Y++cs) γ h→(∀ x av,ρ x=some av→DenV γ av (a.eval x))→StepEx h0 W M0 P o a γ h (Y++cs) none K:=by
 intro γ h a Y I hρ
 unfold callG at H
 split at H
 ·rename_i c ho
  split at H
  ·rename_i x hx
   split at H
   ·rename_i f hf
    cases hcal:callable P f with
    | false=>rw [hcal] at H;exact H.elim
    | true=>
     rw [hcal] at H
     simp only [cond_true] at H
     split at H
     ·rename_i ts rt vs hs hvs
      split at H
      ·rename_i args hargs
       obtain⟨J,h1,h2⟩:=H
       intro B d
       have e:=fnOf_eq hf
       subst e
       have I1:Inv h0 W M0 cs γ h:=I.sub (by simp)
       have ha:=collectArgs_rd I1.fz hargs (argsA_den hρ hvs)
       refine .inr (.inr ⟨f,c.args.map a.eval,enter_run ho hx hcal rfl _,?_⟩)
       have e2:c.args.map a.eval=(c.args.toList.map a.eval).toArray:=by rw [← Array.toList_map]
       rw [e2]
       refine(call_ex hgl (h1 hb) I ha).mono ?_
       rintro v h' ⟨r,γ',g1,g2,g3,g4,_⟩
       exact⟨_,γ',h2 r (fun _=>g1),g2,g3,g4⟩
      ·exact H.elim
     ·exact H.elim
   ·exact H.elim
  ·exact H.elim
 ·exact H.elim
theorem allocD_ex {P:Program} {t:TypeId} {o:Oper} (ho:o.op=.alloc t) {z:Value} (hz:zeroOf P t=some z) (hit:itB (z.cells.toList.map .v)=false) {d:Nat} {cs:CS}:
  ∀ (γ:Gh) (h:Heap) (a:Act) (Y:CS),Inv h0 W M0 (Y++cs) γ h→noneC d (Y++cs)=true→StepEx h0 W M0 P o a γ h (Y++cs) (some (d,.box (z.cells.toList.map .v))) (· = .g (.a (.box d 0))):=by
 intro γ h a Y I hR B e
 refine .inl ⟨.pointer (some ⟨h.size,0,none⟩),e,h.push (.cells z.cells t),?_,_,setβ γ d h.size,rfl,?_,?_,setβ_gx _ _ _⟩
 ·have hzr:=zeroOf_run hz h B e
  simp only [execOp,ho]
  refine run_v ?_
  unfold Instr.alloc
  rw [Sem.run_bind,hzr]
  simp only [Result.andThen_ok]
  rw [Sem.run_bind,newVar_run]
  rfl
 ·simp only [DenV,DenG,DenA,setβ_same]
 ·have:=Inv.newBox (C:=[]) (R:=Y++cs) (by simpa using I) (c:=d) hR (map_v_den γ z.cells.toList) (menL_map_v d _) hit t
  simpa [purgeC,delO] using this
theorem boxD_ex {P:Program} {t:TypeId} {x:Operand} {o:Oper} (ho:o.op=.box t x) {d:Nat} {l:List AA} (hm:menL d l=false) (hit:itB l=false) {cs:CS}:
  ∀ (γ:Gh) (h:Heap) (a:Act) (Y:CS),Inv h0 W M0 (Y++cs) γ h→noneC d (Y++cs)=true→All2 (DenA γ) l (a.eval x).cells.toList→StepEx h0 W M0 P o a γ h (Y++cs) (some (d,.box l)) (· = .g (.a (.box d 0))):=by
 intro γ h a Y I hR hl B e
 refine .inl ⟨.pointer (some ⟨h.size,0,none⟩),e,h.push (.cells (a.eval x).cells t),?_,_,setβ γ d h.size,rfl,?_,?_,setβ_gx _ _ _⟩
 ·simp only [execOp,ho]
  refine run_v ?_
  unfold Instr.box
  rw [Sem.run_bind,newVar_run]
  rfl
 ·simp only [DenV,DenG,DenA,setβ_same]
 ·have:=Inv.newBox (C:=[]) (R:=Y++cs) (by simpa using I) (c:=d) hR hl hm hit t
  simpa [purgeC,delO] using this
def isAnchor (o:Oper):Bool:=match o.op with
 | .call c=>match c.callee with
  | .builtin .append=>true
  | .builtin _=>false
  | _=>true
 | _=>false
def noMenL:List AA→Bool
 | []=>true
 | .v _::l=>noMenL l
 | .d _ _::l=>noMenL l
 | .elt _ _ _::l=>noMenL l
 | .dc _ _::l=>noMenL l
 | _::_=>false
theorem noMenL_men {c:Nat}:∀ {l:List AA},noMenL l=true→menL c l=false
 | [],_=>rfl
 | .v _::l,h=>by simp only [menL,menA,cond_false];exact noMenL_men (l:=l) h
 | .d _ _::l,h=>by simp only [menL,menA,cond_false];exact noMenL_men (l:=l) h
 | .elt _ _ _::l,h=>by simp only [menL,menA,cond_false];exact noMenL_men (l:=l) h
 | .dc _ _::l,h=>by simp only [menL,menA,cond_false];exact noMenL_men (l:=l) h
 | .box _ _::_,h=>by cases h
 | .own _::_,h=>by cases h
 | .oelt _ _ _ _::_,h=>by cases h
theorem noMenL_map_v:∀ l:List Value,noMenL (l.map .v)=true
 | []=>rfl
 | _::l=>noMenL_map_v l
def dStep (P:Program) (gl:Fr) (tr:TypeId) (o:Oper) (e:EnvA) (ch:Chain) (cs:CS) (K:AV→Option (Nat×Ch)→Prop):Prop:=
 match o.op with
 | .alloc t=>match ch,o.dst,zeroOf P t with
  | [],some d,some z=>bif noneC d cs then(bif itB (z.cells.toList.map .v) then False else K (.g (.a (.box d 0))) (some (d,.box (z.cells.toList.map .v)))) else False
  | _,_,_=>False
 | .box t x=>match ch,o.dst,opdA e [] x with
  | [],some d,some av=>match flatV av with
   | some l=>bif noneC d cs then(bif noMenL l then(bif itB l then False else K (.g (.a (.box d 0))) (some (d,.box l))) else False) else False
   | none=>False
  | _,_,_=>False
 | .buildSlice t n parts=>match ch,partsA (opdA e []) parts.toList with
  | [],some ps=>litD P tr t n ps cs fun av=>K av none
  | _,_=>False
 | .call c=>match c.callee with
  | .builtin .append=>match ch,c.args.toList,c.argTypes.toList with
   | [],[s,x],[t,tx]=>match opdA e [] s,opdA e [] x with
    | some bv,some sv=>bif isDc bv then appendA P tr t tx bv sv 0 [] cs (fun av _ _=>K av none) else False
    | _,_=>False
   | _,_,_=>False
  | .builtin _=>opQA P gl o e ch cs fun av=>K av none
  | _=>match ch with
   | []=>callD P gl tr o (opdA e []) cs fun av=>K av none
   | _=>match condOptA e ch with
    | some (some b)=>callG P gl tr o (opdA e ch) b cs fun av=>K av none
    | _=>False
 | _=>opQA P gl o e ch cs fun av=>K av none
structure Spec (h0:Heap) (W:Nat→Prop) (M0:Fr) (P:Program) (o:Oper) (e:EnvA) (ch:Chain) (cs:CS) (nb:Option (Nat×Ch)) (Kan:AV→Prop) (eat:Option (Nat×Ch):=none):Prop where
 yes:∀ (n:Nat) (γ:Gh) (h:Heap) (a:Act) (Y:CS),SatA n e γ a→Inv h0 W M0 (Y++cs) γ h→(∀ b,nb=some b→noneC b.1 (Y++cs)=true)→(∀ c,eat=some c→c∈Y++cs∧∀ x∈Y++cs,x.1=c.1→x.2=c.2)→(∀ d,o.dst=some d→eat≠none→noneC d (Y++cs)=true)→valid (vals a) ch→StepEx h0 W M0 P o a γ h (Y++cs) nb Kan eat
 no:∀ (n:Nat) (γ:Gh) (a:Act),SatA n e γ a→¬ valid (vals a) ch→nb=none∧eat=none∧∃ av,Kan av
 box:∀ b,nb=some b→noneC b.1 cs=true∧o.dst=some b.1∧(((∃ l,b.2=.box l∧noMenL l=true)∧Kan=(· = .g (.a (.box b.1 0))))∨((∃ e t xs,b.2=.row e t xs)∧Kan=(· = .g (.a (.own b.1)))))
 dn:eat≠none→∃ d,o.dst=some d∧noneC d cs=true
theorem Spec.ofQ {P:Program} {gl:Fr} (hgl:Fr.le gl M0) {o:Oper} {e:EnvA} {ch:Chain} {cs:CS} {K:AV→Option (Nat×Ch)→Prop} (H:opQA P gl o e ch cs fun av=>K av none):∃ nb Kan,Spec h0 W M0 P o e ch cs nb Kan∧(∀ av,Kan av→K av nb)∧∃ av,Kan=(· = av):=by
 obtain⟨av,h1,h2⟩:=opQA_sound (h0:=h0) (W:=W) (M0:=M0) hgl H
 refine⟨none,(· = av),⟨fun n γ h a Y hs I _ _ _ hv=>?_,fun n γ a hs hv=>⟨rfl,rfl,av,rfl⟩,fun b hb=>(by cases hb),fun hx=>absurd rfl hx⟩,fun av' e=>e ▸ h1,av,rfl⟩
 obtain⟨v,hd,hq⟩:=h2 n γ a h hs (I.sub (by simp)) hv
 exact fun B d=>.inl ⟨v,d,h,hq B d,av,γ,rfl,hd,I,Gx.refl _ _⟩
theorem dStep_sound {P:Program} {gl:Fr} (hgl:Fr.le gl M0) {tr:TypeId} {o:Oper} {e:EnvA} {ch:Chain} {cs:CS} {K:AV→Option (Nat×Ch)→Prop} (H:dStep P gl tr o e ch cs K):
  ∃ nb Kan,Spec h0 W M0 P o e ch cs nb Kan∧(∀ av,Kan av→K av nb)∧(isAnchor o=false→∃ av,Kan=(· = av)):=by
 unfold dStep at H
 split at H
 ·rename_i t ho
  split at H
  ·rename_i d z hd hz
   cases hR:noneC d cs with
   | false=>rw [hR] at H;exact H.elim
   | true=>
    rw [hR] at H
    cases hit:itB (z.cells.toList.map .v) with
    | true=>rw [hit] at H;exact H.elim
    | false=>
    rw [hit] at H
    refine⟨_,(· = .g (.a (.box d 0))),⟨fun n γ h a Y hs I hn _ _ _=>allocD_ex ho hz hit γ h a Y I (hn _ rfl),fun n γ a hs hv=>absurd trivial hv,fun b hb=>?_,fun hx=>absurd rfl hx⟩,fun av e=>e ▸ H,fun _=>⟨_,rfl⟩⟩
    cases hb
    exact⟨hR,hd,.inl ⟨⟨_,rfl,noMenL_map_v _⟩,rfl⟩⟩
  ·exact H.elim
 ·rename_i t x ho
  split at H
  ·rename_i d av hd hav
   split at H
   ·rename_i l hl
    cases hR:noneC d cs with
    | false=>rw [hR] at H;exact H.elim
    | true=>
     rw [hR] at H
     cases hm:noMenL l with
     | false=>rw [hm] at H;exact H.elim
     | true=>
      rw [hm] at H
      cases hit:itB l with
      | true=>rw [hit] at H;exact H.elim
      | false=>
      rw [hit] at H
      refine⟨_,(· = .g (.a (.box d 0))),⟨fun n γ h a Y hs I hn _ _ _=>boxD_ex ho (noMenL_men hm) hit γ h a Y I (hn _ rfl) (flatV_den hl (opdA_sound hs (c:=[]) trivial hav)),fun n γ a hs hv=>absurd trivial hv,fun b hb=>?_,fun hx=>absurd rfl hx⟩,fun av e=>e ▸ H,fun _=>⟨_,rfl⟩⟩
      cases hb
      exact⟨hR,hd,.inl ⟨⟨_,rfl,hm⟩,rfl⟩⟩
   ·exact H.elim
  ·exact H.elim
 ·rename_i t n parts ho
  split at H
  ·rename_i ps hps
   obtain⟨av,h1,h2⟩:=litD_ex (h0:=h0) (W:=W) (M0:=M0) ho hps H
   exact⟨none,(· = av),⟨fun n γ h a Y hs I _ _ _ _=>h2 γ h a Y I fun x av hx=>opdA_sound hs (c:=[]) trivial hx,fun n γ a hs hv=>absurd trivial hv,fun b hb=>(by cases hb),fun hx=>absurd rfl hx⟩,fun av' e=>e ▸ h1,fun _=>⟨_,rfl⟩⟩
  ·exact H.elim
 ·rename_i c ho
  split at H
  ·rename_i hc
   have hanch:isAnchor o=true:=by simp [isAnchor,ho,hc]
   split at H
   ·rename_i s x t tx hargs htys
    split at H
    ·rename_i bv sv hbv hsv
     cases hdc:isDc bv with
     | false=>rw [hdc] at H;exact H.elim
     | true=>
      rw [hdc] at H
      simp only [cond_true] at H
      exact⟨none,fun av=>K av none,⟨fun n γ h a Y hs I _ _ _ _=>appD_ex ho hc hargs htys hdc H hbv hsv γ h a Y I fun x av hx=>opdA_sound hs (c:=[]) trivial hx,fun n γ a hs hv=>absurd trivial hv,fun b hb=>(by cases hb),fun hx=>absurd rfl hx⟩,fun av e=>e,fun hn=>by rw [hanch] at hn;cases hn⟩
    ·exact H.elim
   ·exact H.elim
  ·obtain⟨nb,Kan,h1,h2,h3⟩:=Spec.ofQ (h0:=h0) (W:=W) (M0:=M0) hgl H
   exact⟨nb,Kan,h1,h2,fun _=>h3⟩
  ·rename_i hne1 hne2
   have hanch:isAnchor o=true:=by
    simp only [isAnchor,ho]
   split at H
   ·exact⟨none,fun av=>K av none,⟨fun n γ h a Y hs I _ _ _ _=>callD_ex hgl H γ h a Y I fun x av hx=>opdA_sound hs (c:=[]) trivial hx,fun n γ a hs hv=>absurd trivial hv,fun b hb=>(by cases hb),fun hx=>absurd rfl hx⟩,fun av e=>e,fun hn=>by rw [hanch] at hn;cases hn⟩
   ·split at H
    ·rename_i b hb
     refine⟨none,fun av=>K av none,⟨fun n γ h a Y hs I _ _ _ hv=>callG_step hgl H (condOptA_yes hs hb hv) γ h a Y I fun x av hx=>opdA_sound hs hv hx,fun n γ a hs hv=>⟨rfl,rfl,?_⟩,fun b hb=>(by cases hb),fun hx=>absurd rfl hx⟩,fun av e=>e,fun hn=>by rw [hanch] at hn;cases hn⟩
     have:=condOptA_no hs hb hv
     simp only [Option.some.injEq] at this
     exact(callG_sound (h0:=#[]) (W:=fun _=>False) (M0:=fun _=>none) H).1 this
    ·exact H.elim
 ·obtain⟨nb,Kan,h1,h2,h3⟩:=Spec.ofQ (h0:=h0) (W:=W) (M0:=M0) hgl H
  exact⟨nb,Kan,h1,h2,fun _=>h3⟩
def uCode:List Nat→Nat→Option (Option Nat)
 | [],_=>none
 | x::l,k=>bif Nat.ble 2000000 x then(bif Nat.beq (x - 2000000) k then some none else uCode l k) else(bif Nat.ble 1000000 x then(bif Nat.beq ((x - 1000000) / 1000) k then some (some ((x - 1000000) % 1000)) else uCode l k) else uCode l k)
def findUse (k:Nat):List It→Option (Nat×Ch)
 | []=>none
 | i::l=>bif (match i.us with
  | some j=>Nat.beq j k
  | none=>false) then(match i.nb with
  | some b=>some b
  | none=>findUse k l) else findUse k l
theorem findUse_mem {k:Nat} {c:Nat×Ch}:∀ {l:List It},findUse k l=some c→∃ i∈l,i.nb=some c∧i.us=some k
 | [],h=>by cases h
 | i::l,h=>by
  simp only [findUse] at h
  cases hb:(match i.us with
   | some j=>Nat.beq j k
   | none=>false) with
  | false=>
   rw [hb] at h
   obtain⟨x,hx,q⟩:=findUse_mem h
   exact⟨x,List.mem_cons_of_mem _ hx,q⟩
  | true=>
   rw [hb] at h
   simp only [cond_true] at h
   split at h
   ·rename_i b hnb
    cases h
    refine⟨i,List.mem_cons_self,hnb,?_⟩
    split at hb
    ·rename_i j hj;rw [hj,Nat.eq_of_beq_eq_true hb]
    ·cases hb
   ·obtain⟨x,hx,q⟩:=findUse_mem h
    exact⟨x,List.mem_cons_of_mem _ hx,q⟩
def uLit (P:Program) (tr:TypeId) (t:TypeId) (n:Nat) (K:Ch→Prop):Prop:=bif Nat.beq n 0 then(match elOk P t with
 | some el=>match tyOf P tr 8 el,zerosOf P el (0*szOf P el) with
  | some ty,some []=>bif Nat.beq (szOf P el) (sz ty) then(bif Nat.ble (0*szOf P el) 16777216 then(bif Nat.blt 0 (szOf P el) then K (.row el ty []) else False) else False) else False
  | _,_=>False
 | none=>False) else False
theorem uLit_ex {P:Program} {tr t:TypeId} {n:Nat} {parts:Array (Nat×Operand)} {o:Oper} (ho:o.op=.buildSlice t n parts) (hp:parts.toList=[]) {d:Nat} {K:Ch→Prop} (H:uLit P tr t n K):
  ∃ el ty,K (.row el ty [])∧∀ (γ:Gh) (h:Heap) (a:Act) (L:CS),Inv h0 W M0 L γ h→noneC d L=true→ExA P (execOp a.eval o) h (PostA h0 W M0 L γ fun av C' c=>av=.g (.a (.own d))∧C'=[(d,.row el ty [])]∧c=some d):=by
 unfold uLit at H
 cases hn:Nat.beq n 0 with
 | false=>rw [hn] at H;exact H.elim
 | true=>
  rw [hn] at H
  obtain rfl:=Nat.eq_of_beq_eq_true hn
  simp only [cond_true] at H
  split at H
  ·rename_i el hel
   split at H
   ·rename_i ty hty hzs
    cases h1:Nat.beq (szOf P el) (sz ty) with
    | false=>rw [h1] at H;exact H.elim
    | true=>
     rw [h1] at H
     cases h2:Nat.ble (0*szOf P el) 16777216 with
     | false=>rw [h2] at H;exact H.elim
     | true=>
      rw [h2] at H
      cases h3:Nat.blt 0 (szOf P el) with
      | false=>rw [h3] at H;exact H.elim
      | true=>
       rw [h3] at H
       refine⟨el,ty,H,fun γ h a L I hd=>?_⟩
       refine buildSliceA_ex (tr:=tr) (ps:=[]) ho (ρ:=fun _=>none) (by rw [hp];rfl) (C:=[]) (R:=L) (d:=d) ?_ (by simpa using I) (fun x av hx=>by cases hx)
       unfold buildSliceA
       rw [hel]
       simp only
       rw [hty,hzs]
       simp only
       rw [h1,h2,h3,hd]
       simp [fillA,collectN,sndL,ownsVs,frzL,purgeC]
   ·exact H.elim
  ·exact H.elim
def srcU (P:Program) (tx:TypeId) (ty:Ty):AV→Option (List (El ty))
 | .g (.a (.d (.row t) xs))=>match P.underlying tx with
  | some (.slice _)=>castE (.row t) (.row ty) xs
  | _=>none
 | .g (.a (.dc t xs))=>match P.underlying tx with
  | some (.slice _)=>castE (.row t) (.row ty) xs
  | _=>none
 | .g (.a (.v (.slice none 0 0)))=>match P.underlying tx with
  | some (.slice _)=>some []
  | _=>none
 | _=>none
def uApp (P:Program) (tr:TypeId) (t tx:TypeId) (e0:TypeId) (t0:Ty) (xs:List (El t0)) (sv:AV) (K:TypeId→(ty:Ty)→List (El ty)→Prop):Prop:=match elOk P t with
 | some el=>match tyOf P tr 8 el with
  | some ty=>match elemInfo P el ty,srcU P tx ty sv with
   | some b,some ys=>match castE (.row t0) (.row ty) xs with
    | some xs=>bif Nat.beq e0 el then((xs.length+ys.length)*b≤140737488355328∧K el ty (xs++ys)) else False
    | none=>False
   | _,_=>False
  | none=>False
 | none=>False
theorem srcU_srcA {P:Program} {L:CS} {tx:TypeId} {ty:Ty} {sv:AV} {ys:List (El ty)} (h:srcU P tx ty sv=some ys):srcA P L tx ty sv=some ys:=by
 unfold srcU at h
 split at h
 ·rename_i t xs
  split at h
  ·rename_i e he
   simp only [srcA,he,rowOf]
   exact h
  ·cases h
 ·rename_i t xs
  split at h
  ·rename_i e he
   simp only [srcA,he,rowOf]
   exact h
  ·cases h
 ·split at h
  ·rename_i e he
   simp only [srcA,he]
   exact h
  ·cases h
 ·cases h
theorem purgeC_id {c:Nat}:∀ {l:CS},noneC c l=true→purgeC c l=l
 | [],_=>rfl
 | (j,k)::l,h=>by
  simp only [noneC] at h
  cases hb:(bif Nat.beq j c then true else menCh c k) with
  | true=>rw [hb] at h;cases h
  | false=>
   rw [hb] at h
   simp only [purgeC]
   rw [hb,cond_false,purgeC_id h]
theorem noneC_del {c d:Nat}:∀ {l:CS},noneC c l=true→noneC c (delC d l)=true
 | [],_=>rfl
 | (j,k)::l,h=>by
  simp only [noneC] at h
  cases hb:(bif Nat.beq j c then true else menCh c k) with
  | true=>rw [hb] at h;cases h
  | false=>
   rw [hb] at h
   simp only [delC]
   cases Nat.beq j d with
   | true=>exact noneC_del h
   | false=>
    simp only [cond_false,noneC]
    rw [hb]
    exact noneC_del h
theorem findC_uniq {c:Nat×Ch}:∀ {l:CS},c∈l→(∀ x∈l,x.1=c.1→x.2=c.2)→findC l c.1=some c.2
 | [],h,_=>by cases h
 | (j,k)::l,h,hu=>by
  simp only [findC]
  cases hb:Nat.beq c.1 j with
  | true=>
   have:=Nat.eq_of_beq_eq_true hb
   have:=hu (j,k) List.mem_cons_self this.symm
   simp only at this
   rw [cond_true,this]
  | false=>
   rw [cond_false]
   rcases List.mem_cons.1 h with rfl | h
   ·simp at hb
   ·exact findC_uniq h fun x hx=>hu x (List.mem_cons_of_mem _ hx)
theorem uApp_ex {P:Program} {tr t tx:TypeId} {o:Oper} {c:Call} (ho:o.op=.call c) (hc:c.callee=.builtin .append) {s x:Operand} (hargs:c.args.toList=[s,x]) (htys:c.argTypes.toList=[t,tx]) {e0:TypeId} {t0:Ty} {xs:List (El t0)} {sv:AV} {d:Nat} {K:TypeId→(ty:Ty)→List (El ty)→Prop}
  (H:uApp P tr t tx e0 t0 xs sv K):∃ el ty ys,K el ty ys∧∀ (γ:Gh) (h:Heap) (a:Act) (L:CS) (c0:Nat),Inv h0 W M0 L γ h→findC L c0=some (.row e0 t0 xs)→DenV γ (.g (.a (.own c0))) (a.eval s)→DenV γ sv (a.eval x) →
   ExA P (execOp a.eval o) h (PostA h0 W M0 [] γ fun av C' cc=>av=.g (.a (.own d))∧C'=(d,.row el ty ys)::purgeC d (delC c0 L)∧cc=some d):=by
 unfold uApp at H
 split at H
 ·rename_i el hel
  split at H
  ·rename_i ty hty
   split at H
   ·rename_i b ys hb hys
    split at H
    ·rename_i xs' hcast
     cases hee:Nat.beq e0 el with
     | false=>rw [hee] at H;exact H.elim
     | true=>
      rw [hee] at H
      obtain⟨hbd,hK⟩:=H
      refine⟨el,ty,xs'++ys,hK,fun γ h a L c0 I hf hs hx=>?_⟩
      have hap:appendA P tr t tx (.g (.a (.own c0))) sv d L [] (fun av C' cc=>av=.g (.a (.own d))∧C'=(d,.row el ty (xs'++ys))::purgeC d (delC c0 L)∧cc=some d):=by
       unfold appendA
       rw [hel]
       simp only
       rw [hty]
       simp only
       rw [hb,List.append_nil,srcU_srcA hys]
       simp only
       rw [hf]
       simp only
       rw [hcast]
       simp only
       rw [hee]
       first | exact⟨hbd,rfl,rfl,rfl⟩| exact⟨hbd,trivial,trivial,trivial⟩| exact⟨hbd,by simp⟩
      have:=appendA_ex (ty':=o.type) hap (by simpa using I) hs hx
      intro B e
      obtain⟨v,d',h',r,hp⟩:=this B e
      refine .inl ⟨v,d',h',?_,hp⟩
      have ee:execOp a.eval o=(Builtin.append_ c.argTypes o.type (c.args.map a.eval) >>= fun x=>(Pure.pure (Next.value x):Sem Next)):=by
       simp only [execOp,ho,resolve,hc]
       rfl
      rw [ee,toList_eq hargs,toList_eq htys]
      refine run_v ?_
      simpa using r
    ·exact H.elim
   ·exact H.elim
  ·exact H.elim
 ·exact H.elim
def uStep (P:Program) (tr:TypeId) (o:Oper) (k:Nat) (e:EnvA) (IL:List It) (cs:CS) (own:Bool) (K:AV→Option (Nat×Ch)→Option (Nat×Ch)→Prop):Prop:=
 match o.op,o.dst with
 | .buildSlice t n parts,some d=>bif own then(bif noneC d cs then(match parts.toList with
  | []=>uLit P tr t n fun ch=>K (.g (.a (.own d))) (some (d,ch)) none
  | _=>False) else False) else False
 | .call c,some d=>match c.callee,c.args.toList,c.argTypes.toList,findUse k IL with
  | .builtin .append,[s,x],[t,tx],some (c0,.row e0 t0 xs)=>match opdA e [] s,opdA e [] x with
   | some (.g (.a (.own c1))),some sv=>bif Nat.beq c1 c0 then(bif noneC d cs then uApp P tr t tx e0 t0 xs sv (fun el ty ys=>bif own then K (.g (.a (.own d))) (some (d,.row el ty ys)) (some (c0,.row e0 t0 xs)) else K (.g (.a (.d (.row ty) ys))) none (some (c0,.row e0 t0 xs))) else False) else False
   | _,_=>False
  | _,_,_,_=>False
 | _,_=>False
theorem uStep_sound {P:Program} {tr:TypeId} {o:Oper} {k:Nat} {e:EnvA} {IL:List It} {cs:CS} {own:Bool} {K:AV→Option (Nat×Ch)→Option (Nat×Ch)→Prop} (H:uStep P tr o k e IL cs own K):
  ∃ nb eat av,Spec h0 W M0 P o e [] cs nb (· = av) eat∧K av nb eat∧∀ c,eat=some c→findUse k IL=some c:=by
 unfold uStep at H
 split at H
 ·rename_i t n parts d ho hd
  cases own with
  | false=>exact H.elim
  | true=>
   simp only [cond_true] at H
   cases hR:noneC d cs with
   | false=>rw [hR] at H;exact H.elim
   | true=>
    rw [hR] at H
    simp only [cond_true] at H
    split at H
    ·rename_i hp
     obtain⟨el,ty,hK,hx⟩:=uLit_ex (h0:=h0) (W:=W) (M0:=M0) (d:=d) ho hp H
     refine⟨_,none,_,⟨fun n γ h a Y hs I hn _ _ _=>?_,fun n γ a hs hv=>absurd trivial hv,fun b hb=>?_,fun hx=>absurd rfl hx⟩,hK,fun c hc=>by cases hc⟩
     ·refine(hx γ h a (Y++cs) I (hn _ rfl)).mono ?_
      rintro v h' ⟨av,C',c,γ',⟨rfl,rfl,rfl⟩,h2,h3,h4⟩
      exact⟨_,γ',rfl,h2,h3,h4⟩
     ·cases hb
      exact⟨hR,hd,.inr ⟨⟨_,_,_,rfl⟩,rfl⟩⟩
    ·exact H.elim
 ·rename_i c d ho hd
  split at H
  ·rename_i s x t tx c0 e0 t0 xs hc hargs htys hfu
   split at H
   ·rename_i c1 sv hs1 hsv
    cases hb:Nat.beq c1 c0 with
    | false=>rw [hb] at H;exact H.elim
    | true=>
     obtain rfl:=Nat.eq_of_beq_eq_true hb
     rw [hb] at H
     simp only [cond_true] at H
     cases hR:noneC d cs with
     | false=>rw [hR] at H;exact H.elim
     | true=>
      rw [hR] at H
      simp only [cond_true] at H
      obtain⟨el,ty,ys,hK,hx⟩:=uApp_ex (h0:=h0) (W:=W) (M0:=M0) (d:=d) ho hc hargs htys H
      have run:∀ (n:Nat) (γ:Gh) (h:Heap) (a:Act) (Y:CS),SatA n e γ a→Inv h0 W M0 (Y++cs) γ h→(∀ cc,(some (c1,Ch.row e0 t0 xs):Option (Nat×Ch))=some cc→cc∈Y++cs∧∀ x∈Y++cs,x.1=cc.1→x.2=cc.2)→noneC d (Y++cs)=true →
        ExA P (execOp a.eval o) h fun v h'=>∃ γ',DenV γ' (.g (.a (.own d))) v∧Inv h0 W M0 ((d,.row el ty ys)::delC c1 (Y++cs)) γ' h'∧Gx (some d) γ γ':=by
       intro n γ h a Y hs I he hn
       obtain⟨h1,h2⟩:=he _ rfl
       have hf:=findC_uniq h1 h2
       refine(hx γ h a (Y++cs) c1 I hf (opdA_sound hs (c:=[]) trivial hs1) (opdA_sound hs (c:=[]) trivial hsv)).mono ?_
       rintro v h' ⟨av,C',cc,γ',⟨rfl,rfl,rfl⟩,q2,q3,q4⟩
       rw [List.append_nil,purgeC_id (noneC_del hn)] at q3
       exact⟨γ',q2,q3,q4⟩
      cases own with
      | true=>
       refine⟨some (d,.row el ty ys),some (c1,.row e0 t0 xs),.g (.a (.own d)),⟨fun n γ h a Y hs I hn he hdn _=>?_,fun n γ a hs hv=>absurd trivial hv,fun b hb=>?_,fun _=>⟨d,hd,hR⟩⟩,hK,fun c hc=>by cases hc;exact hfu⟩
       ·refine(run n γ h a Y hs I he (hn _ rfl)).mono ?_
        rintro v h' ⟨γ',q2,q3,q4⟩
        exact⟨_,γ',rfl,q2,q3,q4⟩
       ·cases hb
        exact⟨hR,hd,.inr ⟨⟨_,_,_,rfl⟩,rfl⟩⟩
      | false=>
       refine⟨none,some (c1,.row e0 t0 xs),.g (.a (.d (.row ty) ys)),⟨fun n γ h a Y hs I hn he hdn _=>?_,fun n γ a hs hv=>absurd trivial hv,fun b hb=>(by cases hb),fun _=>⟨d,hd,hR⟩⟩,hK,fun c hc=>by cases hc;exact hfu⟩
       have hnd:=hdn d hd (by simp)
       refine(run n γ h a Y hs I he hnd).mono ?_
       rintro v h' ⟨γ',q2,q3,q4⟩
       obtain⟨γ2,I2,g2⟩:=Inv.freeze1 (A:=[]) q3
       have hrd:Rd γ2.M (.row ty) ys [slV (γ2.σ d)]:=I2.den (d,.fz ty ys) (by simp)
       have hv:v=slV (γ'.σ d):=q2
       have hσ:γ2.σ d=γ'.σ d:=(g2.2 d (by simp)).2
       have hnn:=noneC_mem (noneC_del (d:=c1) hnd)
       refine⟨_,{ γ2 with β:=γ.β,σ:=γ.σ },rfl,?_,?_,⟨q4.1.trans g2.1,fun i _=>⟨rfl,rfl⟩⟩⟩
       ·show Rd γ2.M (.row ty) ys [v]
        rw [hv,← hσ];exact hrd
       ·refine I2.rest (by simp [delO]) (c:=some d) ⟨Fr.le.refl _,fun i hi=>?_⟩ (fun x hx=>⟨(hnn x hx).1,(hnn x hx).2⟩) (fun x hx b hb=>⟨rfl,(I2.sep x (by simp;exact .inr hx) b hb).2⟩) I2.ag (fun _ _ _=>rfl) (Nat.le_refl _) (fun _ _=>rfl)
        have a1:=q4.2 i hi
        have a2:=g2.2 i (by simp)
        exact⟨a1.1.symm.trans a2.1.symm,a1.2.symm.trans a2.2.symm⟩
   ·exact H.elim
  ·exact H.elim
 ·exact H.elim
def headDs (ops:Array Oper) (m:Nat):List Nat:=dsts (ops.toList.take m)
def noMenS (av:AV):List Nat→Bool
 | []=>true
 | s::l=>bif menV s av then false else noMenS av l
theorem noMenS_mem {av:AV}:∀ {l:List Nat},noMenS av l=true→∀ s∈l,menV s av=false
 | [],_,s,hs=>by cases hs
 | x::l,h,s,hs=>by
  simp only [noMenS] at h
  cases hb:menV x av with
  | true=>rw [hb] at h;cases h
  | false=>
   rw [hb] at h
   rcases List.mem_cons.1 hs with rfl | hs
   ·exact hb
   ·exact noMenS_mem h s hs
def baseE (S:List Nat):EnvA→EnvA
 | []=>[]
 | (i,[],v)::e=>bif memN S i then baseE S e else(bif noMenS v S then(i,[],v)::baseE S e else baseE S e)
 | (_,_::_,_)::e=>baseE S e
theorem baseE_mem {S:List Nat} {x:Nat×Chain×AV}:∀ {e:EnvA},x∈baseE S e→x∈e∧x.2.1=[]∧x.1∉S∧noMenS x.2.2 S=true
 | [],h=>by cases h
 | (i,[],v)::e,h=>by
  simp only [baseE] at h
  cases hm:memN S i with
  | true=>rw [hm] at h;exact⟨List.mem_cons_of_mem _ (baseE_mem h).1,(baseE_mem h).2⟩
  | false=>
   rw [hm] at h
   simp only [cond_false] at h
   cases hn:noMenS v S with
   | false=>rw [hn] at h;exact⟨List.mem_cons_of_mem _ (baseE_mem h).1,(baseE_mem h).2⟩
   | true=>
    rw [hn] at h
    rcases List.mem_cons.1 h with rfl | h
    ·exact⟨List.mem_cons_self,rfl,memN_false hm,hn⟩
    ·exact⟨List.mem_cons_of_mem _ (baseE_mem h).1,(baseE_mem h).2⟩
 | (_,_::_,_)::e,h=>⟨List.mem_cons_of_mem _ (baseE_mem (e:=e) h).1,(baseE_mem (e:=e) h).2⟩
def chOK (ops:Array Oper) (o:Oper):Chain→Bool
 | []=>true
 | [(g,_)]=>match o.guard with
  | some (j,_)=>match dstOf ops j with
   | some g'=>Nat.beq g g'
   | none=>false
  | none=>false
 | _=>false
def listEq:List Nat→Nat→Bool
 | [x],k=>Nat.beq x k
 | _,_=>false
def inL:List Nat→Nat→Bool
 | [],_=>false
 | x::l,k=>bif Nat.beq x k then true else inL l k
theorem inL_mem {k:Nat}:∀ {l:List Nat},inL l k=true→k∈l
 | [],h=>by cases h
 | x::l,h=>by
  simp only [inL] at h
  cases hb:Nat.beq x k with
  | true=>rw [Nat.eq_of_beq_eq_true hb];exact List.mem_cons_self
  | false=>rw [hb] at h;exact List.mem_cons_of_mem _ (inL_mem h)
def stepOK (ops:Array Oper) (m:Nat) (o:Oper) (k:Nat) (pl:Array Bool):Bool:=
 bif Nat.blt k m then(bif slotsOK ops k (opSlots ops o) m then(bif isAnchor o then listEq (Region.ready .any ops pl) k else inL (Region.ready .any ops pl) k) else false) else false
def itemOK (S:List Nat) (av:AV) (nb:Option (Nat×Ch)):Bool:=match nb with
 | none=>noMenS av S
 | some _=>true
def allPl (pl:Array Bool):Nat→Bool
 | 0=>true
 | k+1=>bif pl.getD k false then allPl pl k else false
theorem allPl_spec {pl:Array Bool}:∀ {m:Nat},allPl pl m=true→∀ k,k < m→pl.getD k false=true
 | 0,_,k,hk=>by omega
 | m+1,h,k,hk=>by
  simp only [allPl] at h
  cases hb:pl.getD m false with
  | false=>rw [hb] at h;cases h
  | true=>
   rw [hb] at h
   rcases Nat.lt_or_ge k m with h1 | h1
   ·exact allPl_spec h k h1
   ·have:k=m:=by omega
    subst this;exact hb
def exactB (P:Program) (ρ:Operand→Option AV) (o:Oper):Bool:=bif famOk o then(bif isQ P o then(bif noSel o.op then knownX ρ o.op.operands.toList else false) else false) else false
def pureB (P:Program) (e:EnvA) (c:Chain) (o:Oper):Bool:=match o.op with
 | .pick _ _ _=>true
 | .move _=>true
 | .assign _=>true
 | .extract _ _=>true
 | .alloc _=>false
 | .box _ _=>false
 | .buildSlice _ _ _=>false
 | .call _=>false
 | .load _ _=>false
 | .indexAddr _ _ _=>false
 | _=>exactB P (opdA e c) o
theorem pureB_anchor {P:Program} {e:EnvA} {c:Chain} {o:Oper} (h:pureB P e c o=true):isAnchor o=false:=by
 unfold isAnchor
 split
 ·rename_i c ho;rw [pureB,ho] at h;cases h
 ·rfl
def PureSpec (P:Program) (o:Oper) (e:EnvA) (ch:Chain) (Kan:AV→Prop):Prop:=
 ∀ av,Kan av→∀ (n:Nat) (γ:Gh) (a:Act),SatA n e γ a→valid (vals a) ch→∃ v,DenV γ av v∧∀ w,(execOp a.eval o).run P w=.ok (.value v) w
theorem QExec.all {P:Program} {α:Type} {s:Sem α} {x:α} (H:∀ h,QExec P s h x) (w:World):s.run P w=.ok x w:=H w.heap w w.drawn
theorem opQA_pure {P:Program} {gl:Fr} {o:Oper} {e:EnvA} {c:Chain} {cs:CS} {K:AV→Prop} (H:opQA P gl o e c cs K) (hp:pureB P e c o=true):∃ av,K av∧PureSpec P o e c (· = av):=by
 unfold opQA at H
 split at H
 ·rename_i x y z ho
  obtain⟨av,h1,h2⟩:=pickA_sound H
  refine⟨av,h1,fun av' e' n γ a hs hv=>?_⟩
  obtain⟨t,h3,h4⟩:=h2 n γ a hs hv
  subst e'
  refine⟨_,h4,QExec.all fun h B d=>?_⟩
  simp only [execOp,ho,h3,asBool,Sem.run_bind,Sem.run_pure,Result.andThen_ok]
 ·rename_i hnp
  split at H
  ·rename_i g hg
   unfold qA at H
   split at H
   ·rename_i b hb
    exact⟨_,H,fun av' e' n γ a hs hv=>⟨_,e' ▸ (show DenV γ (.g (.a (.v (.bool b)))) _ from rfl),QExec.all fun h=>eqA_sound hb (fun x av hx=>opdA_sound hs hv hx) h⟩⟩
   split at H
   ·rename_i b hb
    exact⟨_,H,fun av' e' n γ a hs hv=>⟨_,e' ▸ (show DenV γ (.g (.a (.v (.bool b)))) _ from rfl),QExec.all fun h=>errA_sound hb (fun x av hx=>opdA_sound hs hv hx) h⟩⟩
   split at H
   ·rename_i t b off hg'
    exfalso
    unfold globP at hg'
    split at hg'
    ·rename_i t' x ho;rw [pureB,ho] at hp;cases hp
    ·cases hg'
   split at H
   ·rename_i b off n len z hg'
    exfalso
    unfold globI at hg'
    split at hg'
    ·rename_i t' x i ho;rw [pureB,ho] at hp;cases hp
    ·cases hg'
   unfold qA0 at H
   cases hb:exactB P (opdA e c) o with
   | true=>
    unfold exactB at hb
    rw [hb] at H
    cases hfam:famOk o with
    | false=>rw [hfam] at hb;cases hb
    | true=>
     cases hq:isQ P o with
     | false=>rw [hfam,hq] at hb;cases hb
     | true=>
      cases hns:noSel o.op with
      | false=>rw [hfam,hq,hns] at hb;cases hb
      | true=>
       rw [hfam,hq,hns] at hb
       simp only [cond_true] at hb H
       obtain⟨v,h1,h2⟩:=stepQ_keep hfam H
       refine⟨_,h1,fun av' e' n γ a hs hv=>⟨v,e' ▸ ofVal_den γ v,QExec.all fun h=>?_⟩⟩
       rw [exec_rhoX (γ:=γ) (fun x av hx=>opdA_sound hs hv hx) hns hb]
       exact h2 (condOptA_yes hs hg hv) h ⟨by simp,fun i hi=>absurd hi (by simp)⟩
   | false=>
    have hb':=hb
    unfold exactB at hb'
    rw [hb'] at H
    simp only [cond_false] at H
    unfold pureB at hp
    split at hp
    ·rename_i x y z ho;exact absurd ho (hnp x y z)
    ·rename_i x ho
     rw [ho] at H
     simp only at H
     split at H
     ·rename_i av hav
      exact⟨av,H,fun av' e' n γ a hs hv=>⟨_,e' ▸ opdA_sound hs hv hav,QExec.all fun h=>by simp only [execOp,ho];exact QExec.pure _⟩⟩
     ·exact H.elim
    ·rename_i x ho
     rw [ho] at H
     simp only at H
     split at H
     ·rename_i av hav
      exact⟨av,H,fun av' e' n γ a hs hv=>⟨_,e' ▸ opdA_sound hs hv hav,QExec.all fun h=>by simp only [execOp,ho];exact QExec.pure _⟩⟩
     ·exact H.elim
    ·rename_i x i ho
     rw [ho] at H
     simp only at H
     split at H
     ·rename_i l hav
      split at H
      ·rename_i ag hag
       refine⟨_,H,fun av' e' n γ a hs hv=>?_⟩
       subst e'
       obtain⟨us,e1,h2⟩:=opdA_sound hs hv hav
       obtain⟨u,hu,hd⟩:=h2.get hag
       refine⟨u,hd,QExec.all fun h=>?_⟩
       simp only [execOp,ho,e1]
       refine QExec.val fun B d=>?_
       unfold Instr.extract
       simp [hu]
      ·exact H.elim
     ·rename_i b p c hav
      split at H
      ·refine⟨_,H,fun av' e' n γ a hs hv=>⟨_,e' ▸ (show DenV γ (.g (.a (.v (.bool b)))) _ from rfl),QExec.all fun h=>?_⟩⟩
       obtain⟨e1,e2⟩:=opdA_sound hs hv hav
       simp only [execOp,ho]
       refine QExec.val fun B d=>?_
       cases b with
       | true=>rw [e1 rfl];rfl
       | false=>rw [e2 rfl];rfl
      ·refine⟨_,H.2,fun av' e' n γ a hs hv=>⟨_,e' ▸ (show DenV γ (.g (.a (.v (.int .i64 p)))) _ from rfl),QExec.all fun h=>?_⟩⟩
       obtain⟨e1,_⟩:=opdA_sound hs hv hav
       simp only [execOp,ho,e1 (H.1.out (condOptA_yes hs hg hv))]
       exact QExec.val fun B d=>rfl
      ·refine⟨_,H.2,fun av' e' n γ a hs hv=>⟨_,e' ▸ (show DenV γ (.g (.a (.v (.int .i32 c)))) _ from rfl),QExec.all fun h=>?_⟩⟩
       obtain⟨e1,_⟩:=opdA_sound hs hv hav
       simp only [execOp,ho,e1 (H.1.out (condOptA_yes hs hg hv))]
       exact QExec.val fun B d=>rfl
      ·exact H.elim
     ·exact H.elim
    ·cases hp
    ·cases hp
    ·cases hp
    ·cases hp
    ·cases hp
    ·cases hp
    ·rw [hb] at hp;cases hp
  ·exact H.elim
theorem dStep_pure {P:Program} {gl:Fr} {tr:TypeId} {o:Oper} {e:EnvA} {ch:Chain} {cs:CS} {K:AV→Option (Nat×Ch)→Prop} (H:dStep P gl tr o e ch cs K) (hp:pureB P e ch o=true):
  ∃ av,Spec h0 W M0 P o e ch cs none (· = av)∧K av none∧PureSpec P o e ch (· = av):=by
 have H':opQA P gl o e ch cs fun av=>K av none:=by
  unfold dStep at H
  split at H
  ·rename_i t ho;rw [pureB,ho] at hp;cases hp
  ·rename_i t x ho;rw [pureB,ho] at hp;cases hp
  ·rename_i t n ps ho;rw [pureB,ho] at hp;cases hp
  ·rename_i c ho;rw [pureB,ho] at hp;cases hp
  ·exact H
 obtain⟨av,h1,h2⟩:=opQA_pure H' hp
 refine⟨av,⟨fun n γ h a Y hs I _ _ _ hv=>?_,fun n γ a hs hv=>⟨rfl,rfl,av,rfl⟩,fun b hb=>(by cases hb),fun hx=>absurd rfl hx⟩,h1,h2⟩
 obtain⟨v,hd,hq⟩:=h2 av rfl n γ a hs hv
 exact fun B d=>.inl ⟨v,d,h,hq _,av,γ,rfl,hd,I,Gx.refl _ _⟩
def freeAt (ops:Array Oper) (k:Nat) (o:Oper) (j:Nat):Bool:=bif Nat.beq j k then true else bif Region.waitsFor .any ops j k then true else bif Region.waitsFor .any ops k j then true else match ops[j]? with
 | some oj=>o.apart ops oj
 | none=>true
def freeS (ops:Array Oper) (k:Nat) (o:Oper):Nat→Bool
 | 0=>true
 | j+1=>bif freeAt ops k o j then freeS ops k o j else false
theorem freeS_spec {ops:Array Oper} {k:Nat} {o:Oper}:∀ {n:Nat},freeS ops k o n=true→∀ j oj,j < n→ops[j]?=some oj→j≠k→Region.waitsFor .any ops j k=false→Region.waitsFor .any ops k j=false→o.apart ops oj=true
 | 0,_,j,oj,hj,_,_,_,_=>by omega
 | n+1,h,j,oj,hj,ho,h1,h2,h3=>by
  simp only [freeS] at h
  cases hx:freeAt ops k o n with
  | false=>rw [hx] at h;cases h
  | true=>
   rw [hx] at h
   rcases Nat.lt_or_ge j n with hjn | hjn
   ·exact freeS_spec h j oj hjn ho h1 h2 h3
   ·have:j=n:=by omega
    subst this
    have e1:Nat.beq j k=false:=by
     cases hb:Nat.beq j k with
     | false=>rfl
     | true=>exact absurd (Nat.eq_of_beq_eq_true hb) h1
    unfold freeAt at hx
    rw [e1,h2,h3,ho] at hx
    exact hx
def pureOK (P:Program) (ops:Array Oper) (pu:List Nat) (o:Oper) (k:Nat) (e:EnvA) (ch:Chain):Bool:=
 bif memN pu k then(bif pureB P e ch o then freeS ops k o ops.size else false) else true
def useOK (ops:Array Oper) (m k:Nat):Option Nat→Bool
 | none=>true
 | some j=>bif Nat.blt j m then Region.waitsFor .any ops j k else false
def uC (pu:List Nat) (k:Nat):Option (Option Nat):=bif memN pu k then none else uCode pu k
def finI:List It→List It
 | []=>[]
 | i::l=>(match i.us with
  | some _=>{ i with nb:=none }
  | none=>i)::finI l
def dW (P:Program) (gl:Fr) (tr:TypeId) (n:Nat) (ops:Array Oper) (m:Nat) (pu:List Nat) (e0:EnvA) (cs:CS) (Kt:List It→Prop):List Nat→Array Bool→List It→Prop
 | [],pl,IL=>bif allPl pl m then Kt (finI IL) else False
 | k::ord,pl,IL=>match ops[k]? with
  | none=>False
  | some o=>bif stepOK ops m o k pl then(match chainOfA ops (restrE (opSlots ops o) (itE IL++e0)) o.guard with
   | some ch=>bif chOK ops o ch then(bif okDst n ch o.dst then(bif pureOK P ops pu o k (restrE (opSlots ops o) (itE IL++e0)) ch then(match uC pu k with
    | none=>dStep P gl tr o (restrE (opSlots ops o) (itE IL++e0)) ch cs (fun av nb=>bif itemOK (headDs ops m) av nb then dW P gl tr n ops m pu e0 cs Kt ord (pl.setIfInBounds k true) (⟨k,o.dst,ch,av,nb,none⟩::IL) else False)
    | some us=>bif useOK ops m k us then(match ch with
     | []=>uStep P tr o k (restrE (opSlots ops o) (itE IL++e0)) IL cs us.isSome (fun av nb _=>bif itemOK (headDs ops m) av nb then dW P gl tr n ops m pu e0 cs Kt ord (pl.setIfInBounds k true) (⟨k,o.dst,[],av,nb,us⟩::IL) else False)
     | _=>False) else False) else False) else False) else False
   | none=>False) else False
def strip (listed:Array Bool) (i:It):It:=match i.us with
 | some j=>bif listed.getD j false then { i with nb:=none } else i
 | none=>i
theorem strip_f (listed:Array Bool) (i:It):(strip listed i).k=i.k∧(strip listed i).dst=i.dst∧(strip listed i).ch=i.ch∧(strip listed i).av=i.av∧(strip listed i).us=i.us∧((strip listed i).nb=i.nb∨(strip listed i).nb=none):=by
 unfold strip
 split
 ·cases listed.getD _ false with
  | true=>exact⟨rfl,rfl,rfl,rfl,rfl,.inr rfl⟩
  | false=>exact⟨rfl,rfl,rfl,rfl,rfl,.inl rfl⟩
 ·exact⟨rfl,rfl,rfl,rfl,rfl,.inl rfl⟩
def cutU (k:Nat) (i:It):It:=match i.us with
 | some j=>bif Nat.beq j k then { i with nb:=none } else i
 | none=>i
theorem cutU_f (k:Nat) (i:It):(cutU k i).k=i.k∧(cutU k i).dst=i.dst∧(cutU k i).ch=i.ch∧(cutU k i).av=i.av∧(cutU k i).us=i.us∧((cutU k i).nb=i.nb∨(cutU k i).nb=none):=by
 unfold cutU
 split
 ·cases Nat.beq _ k with
  | true=>exact⟨rfl,rfl,rfl,rfl,rfl,.inr rfl⟩
  | false=>exact⟨rfl,rfl,rfl,rfl,rfl,.inl rfl⟩
 ·exact⟨rfl,rfl,rfl,rfl,rfl,.inl rfl⟩
def actI (listed:Array Bool):List It→List It
 | []=>[]
 | i::l=>bif listed.getD i.k false then strip listed i::actI listed l else actI listed l
theorem actI_of {listed:Array Bool} {i:It}:∀ {l:List It},i∈l→listed.getD i.k false=true→strip listed i∈actI listed l
 | j::l,h,hl=>by
  simp only [actI]
  rcases List.mem_cons.1 h with rfl | h
  ·rw [hl];exact List.mem_cons_self
  ·cases listed.getD j.k false with
   | true=>exact List.mem_cons_of_mem _ (actI_of h hl)
   | false=>exact actI_of h hl
theorem actI_mem {listed:Array Bool} {x:It}:∀ {l:List It},x∈actI listed l→∃ i∈l,listed.getD i.k false=true∧x=strip listed i
 | j::l,h=>by
  simp only [actI] at h
  cases hl:listed.getD j.k false with
  | true=>
   rw [hl] at h
   rcases List.mem_cons.1 h with rfl | h
   ·exact⟨j,List.mem_cons_self,hl,rfl⟩
   ·obtain⟨i,hi,q⟩:=actI_mem h
    exact⟨i,List.mem_cons_of_mem _ hi,q⟩
  | false=>
   rw [hl] at h
   obtain⟨i,hi,q⟩:=actI_mem h
   exact⟨i,List.mem_cons_of_mem _ hi,q⟩
structure ItOK (h0:Heap) (W:Nat→Prop) (M0:Fr) (P:Program) (n:Nat) (ops:Array Oper) (m:Nat) (pu:List Nat) (e0:EnvA) (cs:CS) (IL:List It) (it:It) (Kan:AV→Prop):Prop where
 lt:it.k < m
 dst:dstOf ops it.k=it.dst
 ok:okDst n it.ch it.dst=true
 chw:∀ x∈it.ch,∀ p,p < m→dstOf ops p=some x.1→Region.waitsFor .any ops it.k p=true
 ex:∃ o e eat,ops[it.k]?=some o∧chainOfA ops e o.guard=some it.ch∧Spec h0 W M0 P o e it.ch cs it.nb Kan eat ∧
  (∀ x∈e,x∈e0∨(x∈itE IL∧∀ p,p < m→dstOf ops p=some x.1→Region.waitsFor .any ops it.k p=true)) ∧
  (memN pu it.k=true→it.nb=none∧PureSpec P o e it.ch Kan∧freeS ops it.k o ops.size=true∧isAnchor o=false) ∧
  (∀ c,eat=some c→∃ i∈IL,i.nb=some c∧i.us=some it.k)
 use:∀ j,it.us=some j→j < m∧Region.waitsFor .any ops j it.k=true
 men:∀ av,Kan av→it.nb=none→noMenS av (headDs ops m)=true
theorem ItOK.mono {P:Program} {n:Nat} {ops:Array Oper} {m:Nat} {pu:List Nat} {e0:EnvA} {cs:CS} {IL IL':List It} {it:It} {Kan:AV→Prop} (H:ItOK h0 W M0 P n ops m pu e0 cs IL it Kan) (hs:∀ i∈IL,i∈IL'):ItOK h0 W M0 P n ops m pu e0 cs IL' it Kan:=
 {lt:=H.lt,dst:=H.dst,ok:=H.ok,chw:=H.chw,men:=H.men,use:=H.use,ex:=by
   obtain⟨o,e,eat,h1,h2,h3,h4,h4',h4''⟩:=H.ex
   refine⟨o,e,eat,h1,h2,h3,fun x hx=>(h4 x hx).imp id fun⟨h5,h6⟩=>⟨?_,h6⟩,h4',fun c hc=>by
    obtain⟨i,hi,q⟩:=h4'' c hc
    exact⟨i,hs i hi,q⟩⟩
   obtain⟨i,hi,q⟩:=itE_mem.1 h5
   exact itE_mem.2 ⟨i,hs i hi,q⟩ }
theorem waits_listed {ops:Array Oper} {listed:Array Bool} {i p:Nat} (hi:i∈Region.ready .any ops listed) (hw:Region.waitsFor .any ops i p=true):listed.getD p false=true:=by
 obtain⟨oj,hoj,e,he,hb,hon⟩:=Region.waitsFor_spec hw
 obtain⟨_,o,ho,hall⟩:=mem_ready.1 hi
 have:oj=o:=Option.some.inj (hoj.symm.trans ho)
 subst this
 rw [← hon];exact hall e he hb
structure Mid (h0:Heap) (W:Nat→Prop) (M0:Fr) (P:Program) (n:Nat) (ops:Array Oper) (m:Nat) (e0:EnvA) (cs:CS) (listed:Array Bool) (IL:List It) (γ:Gh) (a:Act) (h:Heap):Prop where
 sat:SatA n (itE (actI listed IL)++e0) γ a
 inv:Inv h0 W M0 (itC (actI listed IL)++cs) γ h
theorem dstOf_eq {ops:Array Oper} {k:Nat} {o:Oper} (h:ops[k]?=some o):dstOf ops k=o.dst:=by simp [dstOf,h]
theorem headDs_mem {ops:Array Oper} {m k t:Nat} (hk:k < m) (h:dstOf ops k=some t):t∈headDs ops m:=by
 unfold dstOf at h
 split at h
 ·rename_i o ho
  unfold headDs
  have hmem:o∈ops.toList.take m:=by
   rw [List.mem_iff_getElem?]
   exact⟨k,by rw [List.getElem?_take,if_pos hk];simpa using ho⟩
  generalize ops.toList.take m=l at hmem
  induction l with
  | nil=>cases hmem
  | cons x l ih=>
   simp only [dsts]
   rcases List.mem_cons.1 hmem with rfl | hmem
   ·rw [h];exact List.mem_cons_self
   ·split
    ·exact List.mem_cons_of_mem _ (ih hmem)
    ·exact ih hmem
 ·cases h
theorem itC_mem {x:Nat×Ch}:∀ {l:List It},x∈itC l↔∃ i∈l,i.nb=some x
 | []=>by simp [itC]
 | i::l=>by
  simp only [itC]
  split
  ·rename_i b hb
   rw [List.mem_cons,itC_mem (l:=l)]
   constructor
   ·rintro(rfl | ⟨j,hj,h⟩)
    ·exact⟨i,List.mem_cons_self,hb⟩
    ·exact⟨j,List.mem_cons_of_mem _ hj,h⟩
   ·rintro⟨j,hj,h⟩
    rcases List.mem_cons.1 hj with rfl | hj
    ·left;rw [hb] at h;exact(Option.some.inj h).symm
    ·exact .inr ⟨j,hj,h⟩
  ·rename_i hb
   rw [itC_mem (l:=l)]
   constructor
   ·rintro⟨j,hj,h⟩;exact⟨j,List.mem_cons_of_mem _ hj,h⟩
   ·rintro⟨j,hj,h⟩
    rcases List.mem_cons.1 hj with rfl | hj
    ·rw [hb] at h;cases h
    ·exact⟨j,hj,h⟩
theorem noneC_of {c:Nat}:∀ {l:CS},(∀ x∈l,x.1≠c∧menCh c x.2=false)→noneC c l=true
 | [],_=>rfl
 | (j,k)::l,h=>by
  obtain⟨h1,h2⟩:=h _ List.mem_cons_self
  simp only [noneC]
  have:Nat.beq j c=false:=by
   cases hb:Nat.beq j c with
   | false=>rfl
   | true=>exact absurd (Nat.eq_of_beq_eq_true hb) h1
  rw [this,h2]
  exact noneC_of fun x hx=>h x (List.mem_cons_of_mem _ hx)
theorem item_state {P:Program} {n:Nat} {ops:Array Oper} {m:Nat} {pu:List Nat} {e0:EnvA} {cs:CS} (hnd:ndDsts ops m=true) (he0:∀ x∈e0,x.2.1=[]∧x.1∉headDs ops m∧noMenS x.2.2 (headDs ops m)=true)
  {IL:List It} (hIL:∀ i∈IL,∃ Kan,ItOK h0 W M0 P n ops m pu e0 cs IL i Kan∧Kan i.av) {listed:Array Bool} (hdist:∀ i∈IL,∀ j∈IL,i.k=j.k→i=j) (hcl:HeadInv .any ops m listed) {γ:Gh} {a:Act} {h:Heap} (M:Mid h0 W M0 P n ops m e0 cs listed IL γ a h)
  {it:It} {Kan:AV→Prop} (T:ItOK h0 W M0 P n ops m pu e0 cs IL it Kan) (hr:it.k∈Region.ready .any ops listed):
  ∃ o e eat,ops[it.k]?=some o∧o.dst=it.dst∧SatA n e γ a∧chainOfA ops e o.guard=some it.ch∧Spec h0 W M0 P o e it.ch cs it.nb Kan eat∧(memN pu it.k=true→it.nb=none∧PureSpec P o e it.ch Kan∧freeS ops it.k o ops.size=true∧isAnchor o=false) ∧
   (∀ b,it.nb=some b→noneC b.1 (itC (actI listed IL)++cs)=true) ∧
   (∀ c,eat=some c→c∈itC (actI listed IL)++cs∧∀ x∈itC (actI listed IL)++cs,x.1=c.1→x.2=c.2)∧(∀ d,o.dst=some d→eat≠none→noneC d (itC (actI listed IL)++cs)=true) ∧
   ∀ av u γ' h',Kan av→(valid (vals a) it.ch→DenV γ' av u)→(¬ valid (vals a) it.ch→u=undef)→Inv h0 W M0 (it.nb.toList++delO eat (itC (actI listed IL)++cs)) γ' h'→Gx (it.nb.map (·.1)) γ γ' →
    ∀ L':List It,L'.Perm ({ it with av:=av }::(actI listed IL).map (cutU it.k))→SatA n (itE L'++e0) γ' (a.put it.dst u)∧Inv h0 W M0 (itC L'++cs) γ' h':=by
 obtain⟨o,e,eat,ho,hch,sp,henv,hpur,heat⟩:=T.ex
 have hod:o.dst=it.dst:=by rw [← dstOf_eq ho];exact T.dst
 have hun:listed.getD it.k true=false:=(mem_ready.1 hr).1
 have hsat:SatA n e γ a:=M.sat.sub fun x hx=>by
  rcases henv x hx with h1 | ⟨h1,h2⟩
  ·exact List.mem_append_right _ h1
  ·refine List.mem_append_left _ ?_
   obtain⟨i,hi,q⟩:=itE_mem.1 h1
   obtain⟨Ki,Ti,_⟩:=hIL i hi
   have hw:=h2 i.k Ti.lt (by rw [Ti.dst];exact q.1)
   obtain⟨f1,f2,f3,f4,_⟩:=strip_f listed i
   exact itE_mem.2 ⟨strip listed i,actI_of hi (waits_listed hr hw),by rw [f2];exact q.1,by rw [f3];exact q.2.1,by rw [f4];exact q.2.2⟩
 have hw:=wantedA_sound hsat hch
 have hoth:∀ i∈actI listed IL,i.k≠it.k:=by
  intro x hi e
  obtain⟨i,hi1,this,rfl⟩:=actI_mem hi
  rw [(strip_f listed i).1] at e
  rw [e] at this
  have h2:=getD_both hun
  rw [h2] at this
  cases this
 have hnew:∀ d,o.dst=some d→noneC d cs=true→noneC d (itC (actI listed IL)++cs)=true:=by
  intro d h2 h1
  refine noneC_of fun x hx=>?_
  rcases List.mem_append.1 hx with hx | hx
  ·obtain⟨i',hi,hnb'⟩:=itC_mem.1 hx
   obtain⟨i,hi1,hi2,rfl⟩:=actI_mem hi
   have hne:=hoth _ hi
   obtain⟨f1,_,_,_,_,f6⟩:=strip_f listed i
   have hnb:i.nb=some x:=by
    rcases f6 with f6 | f6
    ·rw [← f6];exact hnb'
    ·rw [f6] at hnb';cases hnb'
   obtain⟨Ki,Ti,hKi⟩:=hIL i hi1
   obtain⟨oi,ei,eti,hoi,_,spi,_,_⟩:=Ti.ex
   obtain⟨_,h4,h5⟩:=spi.box x hnb
   refine⟨fun e=>hne ?_,?_⟩
   ·rw [f1]
    refine ndDsts_spec hnd i.k it.k d Ti.lt T.lt ?_ (by rw [T.dst,← hod];exact h2)
    rw [dstOf_eq hoi,h4,e]
   ·rcases h5 with⟨⟨l,h5,h6⟩,_⟩| ⟨⟨e',t',xs',h5⟩,_⟩
    ·rw [h5];exact noMenL_men h6
    ·rw [h5];rfl
  ·obtain⟨e1,e2⟩:=noneC_mem h1 x hx
   exact⟨fun e=>e1 (by rw [e]),e2⟩
 have hbox:∀ b,it.nb=some b→noneC b.1 (itC (actI listed IL)++cs)=true:=by
  intro b hb
  obtain⟨h1,h2,_⟩:=sp.box b hb
  exact hnew b.1 h2 h1
 have hdn:∀ d,o.dst=some d→eat≠none→noneC d (itC (actI listed IL)++cs)=true:=by
  intro d hd he
  obtain⟨d',hd',hn⟩:=sp.dn he
  have:d'=d:=Option.some.inj (hd'.symm.trans hd)
  subst this
  exact hnew d' hd hn
 have huq:∀ c,eat=some c→∀ i∈IL,∀ b,i.nb=some b→b.1=c.1→i.us=some it.k∧b=c:=by
  intro c hc i hi b hb e1
  obtain⟨i3,hi3,q1,q2⟩:=heat c hc
  obtain⟨Ki,Ti,_⟩:=hIL i hi
  obtain⟨K3,T3,_⟩:=hIL i3 hi3
  obtain⟨oi,ei,eti,hoi,_,spi,_⟩:=Ti.ex
  obtain⟨o3,e3,et3,ho3,_,sp3,_⟩:=T3.ex
  obtain⟨_,d1,_⟩:=spi.box b hb
  obtain⟨_,d3,_⟩:=sp3.box c q1
  have hk:i.k=i3.k:=ndDsts_spec hnd i.k i3.k c.1 Ti.lt T3.lt (by rw [dstOf_eq hoi,d1,e1]) (by rw [dstOf_eq ho3,d3])
  have:i=i3:=hdist i hi i3 hi3 hk
  subst this
  exact⟨q2,Option.some.inj (hb.symm.trans q1)⟩
 have hcc:∀ c,eat=some c→noneC c.1 cs=true:=by
  intro c hc
  obtain⟨i3,hi3,q1,q2⟩:=heat c hc
  obtain⟨K3,T3,_⟩:=hIL i3 hi3
  obtain⟨o3,e3,et3,ho3,_,sp3,_⟩:=T3.ex
  exact(sp3.box c q1).1
 have hin:∀ x∈itC (actI listed IL),∃ i∈IL,i.nb=some x:=by
  intro x hx
  obtain⟨i',hi,hnb'⟩:=itC_mem.1 hx
  obtain⟨i,hi1,hi2,rfl⟩:=actI_mem hi
  rcases(strip_f listed i).2.2.2.2.2 with f6 | f6
  ·exact⟨i,hi1,by rw [← f6];exact hnb'⟩
  ·rw [f6] at hnb';cases hnb'
 have heats:∀ c,eat=some c→c∈itC (actI listed IL)++cs∧∀ x∈itC (actI listed IL)++cs,x.1=c.1→x.2=c.2:=by
  intro c hc
  refine⟨List.mem_append_left _ ?_,fun x hx e=>?_⟩
  ·obtain⟨i3,hi3,q1,q2⟩:=heat c hc
   obtain⟨K3,T3,_⟩:=hIL i3 hi3
   have hw:=(T3.use _ q2).2
   have hl:=waits_listed hr hw
   refine itC_mem.2 ⟨strip listed i3,actI_of hi3 hl,?_⟩
   unfold strip
   rw [q2]
   simp only
   rw [getD_both hun]
   exact q1
  ·rcases List.mem_append.1 hx with hx | hx
   ·obtain⟨i,hi,hnb⟩:=hin x hx
    rw [(huq c hc i hi x hnb e).2]
   ·exact absurd (by rw [e]) (noneC_mem (hcc c hc) x hx).1
 refine⟨o,e,eat,ho,hod,hsat,hch,sp,hpur,hbox,heats,hdn,?_⟩
 ·intro av u γ' h' hKan hy hn I' g L' hp
  refine⟨?_,?_⟩
  ·refine⟨by rw [defers_put];exact M.sat.defers,by rw [size_put];exact M.sat.size,fun x hx=>?_⟩
   have old:∀ x:Nat×Chain×AV,x∈itE (actI listed IL)++e0→(∀ s,it.dst=some s→x.1≠s∧mentions x.2.1 s=false)→menO menV (it.nb.map (·.1)) x.2.2=false→factA γ' (vals (a.put it.dst u)) x:=by
    intro x hx hs hm
    have hf:=M.sat.all x hx
    cases hd:it.dst with
    | none=>
     exact⟨fun hv=>(hf.1 hv).gx g hm,hf.2⟩
    | some s=>
     obtain⟨h1,h2⟩:=hs s hd
     have hv:=valid_congr (σ:=vals (a.put (some s) u)) (τ:=vals a) h2 (fun j hj=>vals_put_ne hj)
     refine⟨fun hc=>?_,fun hc=>?_⟩
     ·rw [vals_put_ne h1];exact(hf.1 (hv.1 hc)).gx g hm
     ·exact(vals_put_ne h1).trans (hf.2 fun hc'=>hc (hv.2 hc'))
   have sIn:∀ s,it.dst=some s→s∈headDs ops m:=fun s hs=>headDs_mem T.lt (by rw [T.dst];exact hs)
   have nbIn:∀ av',(noMenS av' (headDs ops m)=true)→menO menV (it.nb.map (·.1)) av'=false:=by
    intro av' h1
    cases hnb:it.nb with
    | none=>rfl
    | some b=>
     obtain⟨_,h2,_⟩:=sp.box b hnb
     exact noMenS_mem h1 b.1 (sIn _ (by rw [← hod];exact h2))
   rcases List.mem_append.1 hx with hx | hx
   ·obtain⟨i,hi,q1,q2,q3⟩:=itE_mem.1 hx
    rcases List.mem_cons.1 (hp.subset hi) with rfl | hi'
    ·-- the new fact
     simp only at q1 q2 q3
     have hsz:x.1 < a.tmps.size:=by
      rw [M.sat.size]
      have:=T.ok
      rw [q1] at this
      simp only [okDst] at this
      cases hm:mentions it.ch x.1 with
      | true=>rw [hm] at this;cases this
      | false=>rw [hm] at this;simpa [Nat.blt_eq] using this
     have hmen:mentions it.ch x.1=false:=by
      have:=T.ok
      rw [q1] at this
      simp only [okDst] at this
      cases hm:mentions it.ch x.1 with
      | true=>rw [hm] at this;cases this
      | false=>rfl
     rw [q1]
     have hv:=valid_congr (σ:=vals (a.put (some x.1) u)) (τ:=vals a) hmen (fun j hj=>vals_put_ne hj)
     refine⟨fun hc=>?_,fun hc=>?_⟩
     ·rw [vals_put hsz,← q3];rw [← q2] at hc;exact hy (hv.1 hc)
     ·rw [vals_put hsz];rw [← q2] at hc;exact hn fun hc'=>hc (hv.2 hc')
    ·obtain⟨i1,hi'',rfl⟩:=List.mem_map.1 hi'
     obtain⟨c1,c2,c3,c4,_⟩:=cutU_f it.k i1
     rw [c2] at q1
     rw [c3] at q2
     rw [c4] at q3
     have hi':=hi''
     obtain⟨i,hi1,hi2,rfl⟩:=actI_mem hi'
     obtain⟨f1,f2,f3,f4,_⟩:=strip_f listed i
     have hxi:=itE_mem.2 ⟨strip listed i,hi',q1,q2,q3⟩
     rw [f2] at q1
     rw [f3] at q2
     rw [f4] at q3
     have hne:i.k≠it.k:=by rw [← f1];exact hoth _ hi'
     obtain⟨Ki,Ti,hKi⟩:=hIL i hi1
     obtain⟨oi,ei,eti,hoi,_,spi,_,_⟩:=Ti.ex
     refine old x (List.mem_append_left _ hxi) (fun s hs=>⟨fun e=>hne ?_,?_⟩) ?_
     ·exact ndDsts_spec hnd i.k it.k s Ti.lt T.lt (by rw [Ti.dst,q1,e]) (by rw [T.dst];exact hs)
     ·cases hm:mentions x.2.1 s with
      | false=>rfl
      | true=>
       exfalso
       rw [← q2] at hm
       have:∃ y∈i.ch,y.1=s:=by
        have key:∀ c:Chain,mentions c s=true→∃ y∈c,y.1=s:=by
         intro c
         induction c with
         | nil=>intro h;cases h
         | cons y c ih=>
          intro h
          obtain⟨g,p⟩:=y
          simp only [mentions] at h
          cases hb:Nat.beq s g with
          | true=>exact⟨(g,p),List.mem_cons_self,(Nat.eq_of_beq_eq_true hb).symm⟩
          | false=>
           rw [hb] at h
           obtain⟨y,hy,e⟩:=ih h
           exact⟨y,List.mem_cons_of_mem _ hy,e⟩
        exact key _ hm
       obtain⟨y,hy',hys⟩:=this
       have hwt:=Ti.chw y hy' it.k T.lt (by rw [T.dst,hs,hys])
       obtain⟨oj,hoj,e',he',hb',hon⟩:=Region.waitsFor_spec hwt
       have:=hcl.closed i.k oj hoj hi2 e' he' hb'
       rw [hon,getD_both hun] at this
       cases this
     ·rw [← q3]
      cases hnbi:i.nb with
      | none=>exact nbIn _ (Ti.men _ hKi hnbi)
      | some bi=>
       obtain⟨_,h4,h5⟩:=spi.box bi hnbi
       have hav:i.av=.g (.a (.box bi.1 0))∨i.av=.g (.a (.own bi.1)):=by
        have:=hKi
        rcases h5 with⟨_,h5⟩| ⟨_,h5⟩
        ·rw [h5] at this;exact .inl this
        ·rw [h5] at this;exact .inr this
       cases hnb:it.nb with
       | none=>rfl
       | some b=>
        obtain⟨_,h2,_⟩:=sp.box b hnb
        have:Nat.beq bi.1 b.1=false→menO menV (Option.map (fun x=>x.fst) (some b)) i.av=false:=fun hq=>by
         rcases hav with hav | hav
         ·rw [hav];exact hq
         ·rw [hav];exact hq
        apply this
        cases hb:Nat.beq bi.1 b.1 with
        | false=>rfl
        | true=>
         exfalso
         have:=Nat.eq_of_beq_eq_true hb
         exact hne (ndDsts_spec hnd i.k it.k b.1 Ti.lt T.lt (by rw [dstOf_eq hoi,h4,this]) (by rw [T.dst,← hod];exact h2))
   ·obtain⟨b1,b2,b3⟩:=he0 x hx
    exact old x (List.mem_append_right _ hx) (fun s hs=>⟨fun e=>b2 (e ▸ sIn s hs),by rw [b1];rfl⟩) (nbIn _ b3)
  ·have e1:itC ({ it with av:=av }::(actI listed IL).map (cutU it.k))=it.nb.toList++itC ((actI listed IL).map (cutU it.k)):=by
    simp only [itC]
    cases it.nb <;> rfl
   have permC:∀ {l l':List It},l.Perm l'→(itC l).Perm (itC l'):=by
    intro l l' hp
    induction hp with
    | nil=>exact .nil
    | cons x p ih=>simp only [itC];split;exact ih.cons _;exact ih
    | swap x y l=>
     simp only [itC]
     split <;> split <;> first | exact .swap _ _ _ | exact .refl _
    | trans _ _ i1 i2=>exact i1.trans i2
   have sub:(itC ((actI listed IL).map (cutU it.k))++cs).Sublist (delO eat (itC (actI listed IL)++cs)):=by
    have s0:∀ l:List It,(itC (l.map (cutU it.k))).Sublist (itC l):=by
     intro l
     induction l with
     | nil=>exact .slnil
     | cons x l ih=>
      simp only [List.map_cons,itC]
      rcases(cutU_f it.k x).2.2.2.2.2 with f | f
      ·rw [f]
       split
       ·exact ih.cons_cons _
       ·exact ih
      ·rw [f]
       simp only
       split
       ·exact ih.cons _
       ·exact ih
    cases he:eat with
    | none=>exact(s0 _).append_right cs
    | some c=>
     show(_:CS).Sublist (delC c.1 (itC (actI listed IL)++cs))
     have hd:delC c.1 (itC (actI listed IL)++cs)=delC c.1 (itC (actI listed IL))++cs:=by
      have ha:∀ l m:CS,delC c.1 (l++m)=delC c.1 l++delC c.1 m:=by
       intro l m
       induction l with
       | nil=>rfl
       | cons x l ih=>
        simp only [List.cons_append,delC]
        cases Nat.beq x.1 c.1 with
        | true=>exact ih
        | false=>simp only [cond_false,ih,List.cons_append]
      have hb:∀ l:CS,(∀ x∈l,x.1≠c.1)→delC c.1 l=l:=by
       intro l
       induction l with
       | nil=>intro _;rfl
       | cons x l ih=>
        intro hx
        simp only [delC]
        cases hq:Nat.beq x.1 c.1 with
        | true=>exact absurd (Nat.eq_of_beq_eq_true hq) (hx x List.mem_cons_self)
        | false=>rw [cond_false,ih fun y hy=>hx y (List.mem_cons_of_mem _ hy)]
      rw [ha,hb cs fun x hx e=>(noneC_mem (hcc c he) x hx).1 (by rw [e])]
     rw [hd]
     refine List.Sublist.append_right ?_ cs
     have s1:∀ l:List It,(∀ i∈l,∀ b,i.nb=some b→b.1=c.1→i.us=some it.k)→(itC (l.map (cutU it.k))).Sublist (delC c.1 (itC l)):=by
      intro l
      induction l with
      | nil=>intro _;exact .slnil
      | cons x l ih=>
       intro hl
       have ih':=ih fun i hi=>hl i (List.mem_cons_of_mem _ hi)
       simp only [List.map_cons,itC]
       cases hnb:x.nb with
       | none=>
        have:(cutU it.k x).nb=none:=by
         rcases(cutU_f it.k x).2.2.2.2.2 with f | f
         ·rw [f,hnb]
         ·exact f
        rw [this]
        exact ih'
       | some b=>
        simp only [delC]
        cases hq:Nat.beq b.1 c.1 with
        | true=>
         have hu:=hl x List.mem_cons_self b hnb (Nat.eq_of_beq_eq_true hq)
         have:(cutU it.k x).nb=none:=by
          unfold cutU
          rw [hu]
          simp
         rw [this,cond_true]
         exact ih'
        | false=>
         rw [cond_false]
         rcases(cutU_f it.k x).2.2.2.2.2 with f | f
         ·rw [f,hnb];exact ih'.cons_cons _
         ·rw [f];exact ih'.cons _
     refine s1 _ fun x hx b hb e=>?_
     obtain⟨i,hi1,hi2,rfl⟩:=actI_mem hx
     obtain⟨_,_,_,_,f5,f6⟩:=strip_f listed i
     rw [f5]
     rcases f6 with f6 | f6
     ·exact(huq c he i hi1 b (by rw [← f6];exact hb) e).1
     ·rw [f6] at hb;cases hb
   have I2:Inv h0 W M0 (it.nb.toList++(itC ((actI listed IL).map (cutU it.k))++cs)) γ' h':=I'.sub (sub.append_left _)
   rw [← List.append_assoc,← e1] at I2
   exact I2.perm ((permC hp.symm).append_right cs)
theorem exec_item {P:Program} {n:Nat} {ops:Array Oper} {m:Nat} {pu:List Nat} {e0:EnvA} {cs:CS} {Q:Exit→Act→World→Prop} (hnd:ndDsts ops m=true) (he0:∀ x∈e0,x.2.1=[]∧x.1∉headDs ops m∧noMenS x.2.2 (headDs ops m)=true)
  {IL:List It} (hIL:∀ i∈IL,∃ Kan,ItOK h0 W M0 P n ops m pu e0 cs IL i Kan∧Kan i.av) {listed:Array Bool} (hdist:∀ i∈IL,∀ j∈IL,i.k=j.k→i=j) (hcl:HeadInv .any ops m listed) {γ:Gh} {a:Act} {h:Heap} (M:Mid h0 W M0 P n ops m e0 cs listed IL γ a h)
  {it:It} {Kan:AV→Prop} (T:ItOK h0 W M0 P n ops m pu e0 cs IL it Kan) (hr:it.k∈Region.ready .any ops listed) {Kp:Act→World→Prop} (B:World) (d:Nat)
  (hK:∀ av u γ' h' d',Kan av→(∀ L':List It,L'.Perm ({ it with av:=av }::(actI listed IL).map (cutU it.k))→SatA n (itE L'++e0) γ' (a.put it.dst u)∧Inv h0 W M0 (itC L'++cs) γ' h')→Gx (it.nb.map (·.1)) γ γ'→Kp (a.put it.dst u) (mk B d' h')):
  wpOp P ops Q it.k Kp a (mk B d h):=by
 obtain⟨o,e,eat,ho,hod,hsat,hch,sp,hpur,hbox,heats,hdn,fin⟩:=item_state hnd he0 hIL hdist hcl M T hr
 have hw:=wantedA_sound hsat hch
 unfold wpOp
 rw [ho]
 simp only
 by_cases hv:valid (vals a) it.ch
 ·rw [if_pos (hw.2 hv)]
  left
  have hx:=sp.yes n γ h a (itC (actI listed IL)) hsat M.inv hbox heats hdn hv
  refine(ExA.upon hx B d ?_)
  rintro v d' h' ⟨av,γ',g1,g2,g3,g4⟩
  rw [hod]
  exact hK av v γ' h' d' g1 (fin av v γ' h' g1 (fun _=>g2) (fun hv'=>absurd hv hv') g3 g4) g4
 ·rw [if_neg fun hx=>hv (hw.1 hx)]
  obtain⟨hnb,heat,av,hKan⟩:=sp.no n γ a hsat hv
  rw [hod]
  have g4:Gx (it.nb.map (·.1)) γ γ:=by rw [hnb];exact Gx.refl _ _
  exact hK av undef γ h d hKan (fin av undef γ h hKan (fun hv'=>absurd hv' hv) (fun _=>rfl) (by rw [hnb,heat];exact M.inv) g4) g4
theorem exec_pure {P:Program} {n:Nat} {ops:Array Oper} {m:Nat} {pu:List Nat} {e0:EnvA} {cs:CS} {Q:Exit→Act→World→Prop} (hnd:ndDsts ops m=true) (he0:∀ x∈e0,x.2.1=[]∧x.1∉headDs ops m∧noMenS x.2.2 (headDs ops m)=true)
  {IL:List It} (hIL:∀ i∈IL,∃ Kan,ItOK h0 W M0 P n ops m pu e0 cs IL i Kan∧Kan i.av) {listed:Array Bool} (hdist:∀ i∈IL,∀ j∈IL,i.k=j.k→i=j) (hcl:HeadInv .any ops m listed) {γ:Gh} {a:Act} {h:Heap} (M:Mid h0 W M0 P n ops m e0 cs listed IL γ a h)
  {it:It} {Kan:AV→Prop} (T:ItOK h0 W M0 P n ops m pu e0 cs IL it Kan) (hav:Kan it.av) (hr:it.k∈Region.ready .any ops listed) (hpu:memN pu it.k=true) (hsel:Region.noSelect ops=true) (hQ:∀ c a w,¬ Q (.panic c) a w) (B:World) (d:Nat) {f:Nat}
  (hK:∀ u,(∀ L':List It,L'.Perm (it::(actI listed IL).map (cutU it.k))→SatA n (itE L'++e0) γ (a.put it.dst u)∧Inv h0 W M0 (itC L'++cs) γ h)→Gx (it.nb.map (·.1)) γ γ→wpAny P .any ops Q f (listed.setIfInBounds it.k true) (a.put it.dst u) (mk B d h)):
  wpAny P .any ops Q (f+1) listed a (mk B d h):=by
 obtain⟨o,e,eat,ho,hod,hsat,hch,sp,hpur,hbox,heats,hdn,fin⟩:=item_state hnd he0 hIL hdist hcl M T hr
 obtain⟨hnb,hps,hfree,_⟩:=hpur hpu
 have hinv:Inv h0 W M0 (it.nb.toList++delO eat (itC (actI listed IL)++cs)) γ h:=by
  rw [hnb]
  refine M.inv.sub ?_
  cases eat with
  | none=>exact List.Sublist.refl _
  | some c=>exact delC_sub c.1 _
 have hw:=wantedA_sound hsat hch
 have g4:Gx (it.nb.map (·.1)) γ γ:=by rw [hnb];exact Gx.refl _ _
 have hfr:∀ j oj,ops[j]?=some oj→j≠it.k→listed.getD j true=false→(∀ e∈oj.after,Region.binds .any e=true→e.on≠it.k)→o.apart ops oj=true:=by
  intro j oj hj hji hun hno
  have hlt:j < ops.size:=(Array.getElem?_eq_some_iff.1 hj).1
  refine freeS_spec hfree j oj hlt hj hji ?_ ?_
  ·cases hb:Region.waitsFor .any ops j it.k with
   | false=>rfl
   | true=>
    obtain⟨oj',hj',e',he',hb',hon⟩:=Region.waitsFor_spec hb
    have:oj'=oj:=Option.some.inj (hj'.symm.trans hj)
    subst this
    exact absurd hon (hno e' he' hb')
  ·cases hb:Region.waitsFor .any ops it.k j with
   | false=>rfl
   | true=>
    have:=waits_listed hr hb
    rw [getD_both hun] at this;cases this
 by_cases hv:valid (vals a) it.ch
 ·obtain⟨v,hd,hx⟩:=hps it.av hav n γ a hsat hv
  refine wpAny_first ho (Region.noSelect_spec hsel) (fun c a w hq=>absurd hq (hQ c _ w)) f listed a (mk B d h) hfr hr (.inl ⟨hw.2 hv,hx⟩) ?_
  rw [hod]
  exact hK v (fin it.av v γ h hav (fun _=>hd) (fun hv'=>absurd hv hv') hinv g4) g4
 ·refine wpAny_first ho (Region.noSelect_spec hsel) (fun c a w hq=>absurd hq (hQ c _ w)) f listed a (mk B d h) hfr hr (.inr ⟨by simpa using fun hx=>hv (hw.1 hx),rfl⟩) ?_
  rw [hod]
  exact hK undef (fin it.av undef γ h hav (fun hv'=>absurd hv' hv) (fun _=>rfl) hinv g4) g4
structure GInv (h0:Heap) (W:Nat→Prop) (M0:Fr) (P:Program) (n:Nat) (ops:Array Oper) (m:Nat) (pu:List Nat) (e0:EnvA) (cs:CS) (listed pl:Array Bool) (IL:List It):Prop where
 size:pl.size=ops.size
 mem:∀ k,pl.getD k false=true↔∃ i∈IL,i.k=k
 dist:IL.Pairwise fun i j=>i.k≠j.k
 items:∀ i∈IL,∃ Kan,ItOK h0 W M0 P n ops m pu e0 cs IL i Kan∧Kan i.av∧(listed.getD i.k false=false→Kan=(· = i.av))
 sub:∀ k,listed.getD k false=true→pl.getD k false=true
def anchored (ops:Array Oper):List Nat→Bool
 | []=>true
 | k::_=>match ops[k]? with
  | some o=>isAnchor o
  | none=>false
theorem getD_lt {pl:Array Bool} {k:Nat} (h:k < pl.size):pl.getD k true=pl.getD k false:=by simp [h]
theorem item_of {P:Program} {gl:Fr} (hgl:Fr.le gl M0) {tr:TypeId} {n:Nat} {ops:Array Oper} {m:Nat} {pu:List Nat} {e0:EnvA} {cs:CS} {Kt:List It→Prop} {k:Nat} {ord:List Nat} {pl:Array Bool} {IL:List It} (H:dW P gl tr n ops m pu e0 cs Kt (k::ord) pl IL):
  ∃ o ch nb us Kan,ops[k]?=some o∧stepOK ops m o k pl=true∧(∀ av,ItOK h0 W M0 P n ops m pu e0 cs IL ⟨k,o.dst,ch,av,nb,us⟩ Kan)∧(∀ av,Kan av→dW P gl tr n ops m pu e0 cs Kt ord (pl.setIfInBounds k true) (⟨k,o.dst,ch,av,nb,us⟩::IL))∧(isAnchor o=false→∃ av,Kan=(· = av)):=by
 unfold dW at H
 split at H
 ·exact H.elim
 ·rename_i o ho
  cases hst:stepOK ops m o k pl with
  | false=>rw [hst] at H;exact H.elim
  | true=>
   rw [hst] at H
   simp only [cond_true] at H
   split at H
   ·rename_i ch hch
    cases hco:chOK ops o ch with
    | false=>rw [hco] at H;exact H.elim
    | true=>
     rw [hco] at H
     cases hok:okDst n ch o.dst with
     | false=>rw [hok] at H;exact H.elim
     | true=>
      rw [hok] at H
      simp only [cond_true] at H
      cases hpo:pureOK P ops pu o k (restrE (opSlots ops o) (itE IL++e0)) ch with
      | false=>rw [hpo] at H;exact H.elim
      | true=>
      rw [hpo] at H
      simp only [cond_true] at H
      have hstep:∃ nb us eat Kan,Spec h0 W M0 P o (restrE (opSlots ops o) (itE IL++e0)) ch cs nb Kan eat∧(∀ av,Kan av→(bif itemOK (headDs ops m) av nb then dW P gl tr n ops m pu e0 cs Kt ord (pl.setIfInBounds k true) (⟨k,o.dst,ch,av,nb,us⟩::IL) else False))∧(isAnchor o=false→∃ av,Kan=(· = av)) ∧
        (memN pu k=true→nb=none∧PureSpec P o (restrE (opSlots ops o) (itE IL++e0)) ch Kan∧freeS ops k o ops.size=true∧isAnchor o=false) ∧
        (∀ c,eat=some c→∃ i∈IL,i.nb=some c∧i.us=some k)∧(∀ j,us=some j→j < m∧Region.waitsFor .any ops j k=true):=by
       unfold pureOK at hpo
       unfold uC at H
       cases hmp:memN pu k with
       | false=>
        rw [hmp,cond_false] at H
        split at H
        ·obtain⟨nb,Kan,h1,h2,h3⟩:=dStep_sound (h0:=h0) (W:=W) (M0:=M0) hgl H
         exact⟨nb,none,none,Kan,h1,h2,h3,fun hc=>(by cases hc),fun c hc=>(by cases hc),fun j hj=>by cases hj⟩
        ·rename_i us hus
         cases huo:useOK ops m k us with
         | false=>rw [huo] at H;exact H.elim
         | true=>
          rw [huo,cond_true] at H
          split at H
          ·obtain⟨nb,eat,av,h1,h2,h3⟩:=uStep_sound (h0:=h0) (W:=W) (M0:=M0) H
           refine⟨nb,us,eat,(· = av),h1,fun av' e=>e ▸ h2,fun _=>⟨av,rfl⟩,fun hc=>(by cases hc),fun c hc=>findUse_mem (h3 c hc),fun j hj=>?_⟩
           subst hj
           simp only [useOK] at huo
           cases hq:Nat.blt j m with
           | false=>rw [hq] at huo;cases huo
           | true=>rw [hq] at huo;exact⟨by simpa [Nat.blt_eq] using hq,huo⟩
          ·exact H.elim
       | true=>
        rw [hmp] at hpo
        simp only [cond_true] at hpo
        rw [hmp,cond_true] at H
        simp only at H
        cases hpb:pureB P (restrE (opSlots ops o) (itE IL++e0)) ch o with
        | false=>rw [hpb] at hpo;cases hpo
        | true=>
         rw [hpb] at hpo
         obtain⟨av,h1,h2,h3⟩:=dStep_pure (h0:=h0) (W:=W) (M0:=M0) H hpb
         exact⟨none,none,none,(· = av),h1,fun av' e=>e ▸ h2,fun _=>⟨av,rfl⟩,fun _=>⟨rfl,h3,hpo,pureB_anchor hpb⟩,fun c hc=>(by cases hc),fun j hj=>by cases hj⟩
      obtain⟨nb,us,eat,Kan,sp,hK,hdet,hpur,heat,huse⟩:=hstep
      have hso:slotsOK ops k (opSlots ops o) m=true:=by
       unfold stepOK at hst
       cases h1:Nat.blt k m with
       | false=>rw [h1] at hst;cases hst
       | true=>
        rw [h1] at hst
        cases h2:slotsOK ops k (opSlots ops o) m with
        | false=>rw [h2] at hst;cases hst
        | true=>rfl
      have hlt:k < m:=by
       unfold stepOK at hst
       cases h1:Nat.blt k m with
       | false=>rw [h1] at hst;cases hst
       | true=>simpa [Nat.blt_eq] using h1
      have hK':∀ av,Kan av→itemOK (headDs ops m) av nb=true∧dW P gl tr n ops m pu e0 cs Kt ord (pl.setIfInBounds k true) (⟨k,o.dst,ch,av,nb,us⟩::IL):=by
       intro av hav
       have:=hK av hav
       cases hio:itemOK (headDs ops m) av nb with
       | false=>rw [hio] at this;exact this.elim
       | true=>rw [hio] at this;exact⟨rfl,this⟩
      refine⟨o,ch,nb,us,Kan,ho,hst,fun av=>⟨hlt,dstOf_eq ho,hok,?_,⟨o,_,eat,ho,hch,sp,fun x hx=>?_,hpur,heat⟩,huse,fun av' hav hnb=>?_⟩,fun av hav=>(hK' av hav).2,hdet⟩
      ·-- the chain's slots
       intro x hx p hp hd
       refine slotsOK_spec hso p x.1 hp hd ?_
       unfold chOK at hco
       split at hco
       ·cases hx
       ·rename_i g q
        have hxe:x=(g,q):=by simpa using hx
        subst hxe
        split at hco
        ·rename_i j pp hgd
         split at hco
         ·rename_i g' hg'
          have e:=Nat.eq_of_beq_eq_true hco
          unfold opSlots
          rw [hgd]
          simp only [hg']
          rw [e]
          exact List.mem_append_left _ List.mem_cons_self
         ·cases hco
        ·cases hco
       ·cases hco
      ·obtain⟨h1,h2⟩:=restrE_mem hx
       rcases List.mem_append.1 h1 with h1 | h1
       ·exact .inr ⟨h1,fun p hp hd=>slotsOK_spec hso p x.1 hp hd h2⟩
       ·exact .inl h1
      ·have:=(hK' av' hav).1
       simp only at hnb
       subst hnb
       exact this
   ·exact H.elim
theorem rdy_of {ops:Array Oper} {m:Nat} {o:Oper} {k:Nat} {pl:Array Bool} (h:stepOK ops m o k pl=true):k∈Region.ready .any ops pl∧(isAnchor o=true→Region.ready .any ops pl=[k]):=by
 unfold stepOK at h
 cases h1:Nat.blt k m with
 | false=>rw [h1] at h;cases h
 | true=>
  rw [h1] at h
  cases h2:slotsOK ops k (opSlots ops o) m with
  | false=>rw [h2] at h;cases h
  | true=>
   rw [h2] at h
   simp only [cond_true] at h
   cases ha:isAnchor o with
   | false=>rw [ha] at h;exact⟨inL_mem h,fun hc=>by cases hc⟩
   | true=>
    rw [ha] at h
    simp only [cond_true] at h
    have:Region.ready .any ops pl=[k]:=by
     unfold listEq at h
     split at h
     ·rename_i x _ hx;rw [hx,Nat.eq_of_beq_eq_true h]
     ·cases h
    exact⟨by rw [this];exact List.mem_cons_self,fun _=>this⟩
theorem absorb {P:Program} {gl:Fr} (hgl:Fr.le gl M0) {tr:TypeId} {n:Nat} {ops:Array Oper} {m:Nat} {pu:List Nat} {e0:EnvA} {cs:CS} {Kt:List It→Prop} {listed:Array Bool}:∀ {ord:List Nat} {pl:Array Bool} {IL:List It},dW P gl tr n ops m pu e0 cs Kt ord pl IL→GInv h0 W M0 P n ops m pu e0 cs listed pl IL →
  ∃ ord' pl' new,dW P gl tr n ops m pu e0 cs Kt ord' pl' (new++IL)∧GInv h0 W M0 P n ops m pu e0 cs listed pl' (new++IL)∧anchored ops ord'=true∧∀ i∈new,listed.getD i.k false=false
 | [],pl,IL,H,G=>⟨[],pl,[],H,G,rfl,fun i hi=>by cases hi⟩
 | k::ord,pl,IL,H,G=>by
  obtain⟨o,ch,nb,us,Kan,ho,hst,hit,hK,hdet⟩:=item_of (h0:=h0) (W:=W) (M0:=M0) hgl H
  cases ha:isAnchor o with
  | true=>exact⟨k::ord,pl,[],H,G,by simp [anchored,ho,ha],fun i hi=>by cases hi⟩
  | false=>
   obtain⟨av,rfl⟩:=hdet ha
   have hrd:=(rdy_of hst).1
   have hkp:pl.getD k true=false:=(mem_ready.1 hrd).1
   have hks:k < pl.size:=by
    rcases Nat.lt_or_ge k pl.size with h | h
    ·exact h
    ·simp [Array.getElem?_eq_none h] at hkp
   have hkpf:pl.getD k false=false:=by rw [← getD_lt hks];exact hkp
   have hkl:listed.getD k false=false:=by
    cases hb:listed.getD k false with
    | false=>rfl
    | true=>rw [G.sub k hb] at hkpf;cases hkpf
   have hkn:∀ i∈IL,i.k≠k:=fun i hi e=>by
    have:=(G.mem k).2 ⟨i,hi,e⟩
    rw [this] at hkpf;cases hkpf
   have G':GInv h0 W M0 P n ops m pu e0 cs listed (pl.setIfInBounds k true) (⟨k,o.dst,ch,av,nb,us⟩::IL):=by
    refine⟨by simp [G.size],fun j=>?_,List.pairwise_cons.2 ⟨fun j hj=>(hkn j hj).symm,G.dist⟩,fun i hi=>?_,fun j hj=>?_⟩
    ·by_cases hjk:k=j
     ·subst hjk
      simp only [List.mem_cons,exists_eq_or_imp,true_or,iff_true]
      simp [hks]
     ·rw [getD_set_ne false hjk,G.mem j]
      simp only [List.mem_cons,exists_eq_or_imp,hjk,false_or]
    ·rcases List.mem_cons.1 hi with rfl | hi
     ·exact⟨(· = av),(hit av).mono fun i hi=>List.mem_cons_of_mem _ hi,rfl,fun _=>rfl⟩
     ·obtain⟨Ki,h1,h2,h3⟩:=G.items i hi
      exact⟨Ki,h1.mono fun i hi=>List.mem_cons_of_mem _ hi,h2,h3⟩
    ·by_cases hjk:k=j
     ·subst hjk;simp [hks]
     ·rw [getD_set_ne false hjk];exact G.sub j hj
   obtain⟨ord',pl',new,h1,h2,h3,h4⟩:=absorb hgl (hK av rfl) G'
   refine⟨ord',pl',new++[⟨k,o.dst,ch,av,nb,us⟩],by simpa using h1,by simpa using h2,h3,fun i hi=>?_⟩
   rcases List.mem_append.1 hi with hi | hi
   ·exact h4 i hi
   ·simp only [List.mem_singleton] at hi;subst hi;exact hkl
theorem strip_set {listed:Array Bool} {k:Nat} (hk:k < listed.size) (hun:listed.getD k false=false) (i:It):strip (listed.setIfInBounds k true) i=cutU k (strip listed i):=by
 unfold strip cutU
 cases hu:i.us with
 | none=>simp [hu]
 | some j=>
  simp only
  by_cases hjk:j=k
  ·subst hjk
   have e1:(listed.setIfInBounds j true).getD j false=true:=by simp [hk]
   rw [e1,hun]
   simp [hu]
  ·rw [getD_set_ne false (Ne.symm hjk)]
   have hb:Nat.beq j k=false:=by
    cases hq:Nat.beq j k with
    | false=>rfl
    | true=>exact absurd (Nat.eq_of_beq_eq_true hq) hjk
   cases listed.getD j false with
   | true=>simp [hu,hb]
   | false=>simp [hu,hb]
theorem actI_ne {listed:Array Bool} {k:Nat} (hk:k < listed.size) (hun:listed.getD k false=false):∀ {l:List It},(∀ j∈l,k≠j.k)→actI (listed.setIfInBounds k true) l=(actI listed l).map (cutU k)
 | [],_=>rfl
 | j::l,hj=>by
  simp only [actI]
  rw [getD_set_ne false (hj j List.mem_cons_self),actI_ne hk hun fun x hx=>hj x (List.mem_cons_of_mem _ hx)]
  cases listed.getD j.k false with
  | true=>simp only [cond_true,List.map_cons];rw [strip_set hk hun]
  | false=>rfl
theorem strip_un {listed:Array Bool} {it:It} (hu:∀ j,it.us=some j→listed.getD j false=false):strip listed it=it:=by
 unfold strip
 split
 ·rename_i j hj;rw [hu j hj];rfl
 ·rfl
theorem actI_set {listed:Array Bool} {it:It} (hk:it.k < listed.size) (hun:listed.getD it.k false=false) (hu:∀ j,it.us=some j→(listed.setIfInBounds it.k true).getD j false=false):∀ {IL:List It},IL.Pairwise (fun i j=>i.k≠j.k)→it∈IL→(actI (listed.setIfInBounds it.k true) IL).Perm (it::(actI listed IL).map (cutU it.k))
 | [],_,h=>by cases h
 | i::l,hd,h=>by
  rw [List.pairwise_cons] at hd
  simp only [actI]
  rcases List.mem_cons.1 h with rfl | h
  ·have e1:(listed.setIfInBounds it.k true).getD it.k false=true:=by simp [hk]
   rw [e1,hun,actI_ne hk hun hd.1,strip_un hu]
   exact .refl _
  ·have hne:i.k≠it.k:=hd.1 it h
   rw [getD_set_ne false (Ne.symm hne)]
   have ih:=actI_set hk hun hu hd.2 h
   cases listed.getD i.k false with
   | true=>
    simp only [cond_true,List.map_cons]
    rw [strip_set hk hun]
    exact(ih.cons _).trans (.swap _ _ _)
   | false=>exact ih
theorem actI_new {listed:Array Bool} {IL:List It}:∀ {new:List It},(∀ i∈new,listed.getD i.k false=false)→actI listed (new++IL)=actI listed IL
 | [],_=>rfl
 | i::l,h=>by
  simp only [List.cons_append,actI]
  rw [h i List.mem_cons_self]
  exact actI_new fun x hx=>h x (List.mem_cons_of_mem _ hx)
theorem actI_all {listed:Array Bool}:∀ {l:List It},(∀ i∈l,listed.getD i.k false=true∧∀ j,i.us=some j→listed.getD j false=true)→actI listed l=finI l
 | [],_=>rfl
 | i::l,h=>by
  simp only [actI,finI]
  obtain⟨h1,h2⟩:=h i List.mem_cons_self
  rw [h1,actI_all fun x hx=>h x (List.mem_cons_of_mem _ hx),cond_true]
  congr 1
  unfold strip
  split
  ·rename_i j hj;rw [h2 j hj];rfl
  ·rfl
theorem GInv.ready_pl {P:Program} {n:Nat} {ops:Array Oper} {m:Nat} {pu:List Nat} {e0:EnvA} {cs:CS} {listed pl:Array Bool} {IL:List It} (G:GInv h0 W M0 P n ops m pu e0 cs listed pl IL) {i:Nat} (hi:i∈Region.ready .any ops listed) (hp:pl.getD i false=false):i∈Region.ready .any ops pl:=by
 obtain⟨_,o,ho,hall⟩:=mem_ready.1 hi
 have hlt:i < ops.size:=(Array.getElem?_eq_some_iff.1 ho).1
 exact mem_ready.2 ⟨by rw [getD_lt (by rw [G.size];exact hlt)];exact hp,o,ho,fun e he hb=>G.sub _ (hall e he hb)⟩
theorem some_ready {ops:Array Oper} {m:Nat} (hm:m≤ops.size) (hback:edgesBack ops ops.size=true) {listed:Array Bool} (hsz:listed.size=ops.size) (hex:∃ k,k < m∧listed.getD k false=false):∃ k,k < m∧k∈Region.ready .any ops listed:=by
 obtain⟨k,⟨h1,h2⟩,h3⟩:=exists_least hex
 refine⟨k,h1,mem_ready.2 ⟨by rw [getD_lt (by omega)];exact h2,ops[k],Array.getElem?_eq_getElem (by omega),fun e he hb=>?_⟩⟩
 have hlt:=edgesBack_spec hback k ops[k] (by omega) (Array.getElem?_eq_getElem (by omega)) e he hb
 cases hb':listed.getD e.on false with
 | true=>rfl
 | false=>
  have:=h3 e.on ⟨by omega,hb'⟩
  omega
def headDone (N m:Nat):Array Bool:=((List.range N).map fun k=>Nat.blt k m).toArray
theorem headDone_eq {ops:Array Oper} {m:Nat} (hm:m≤ops.size) {listed:Array Bool} (inv:HeadInv .any ops m listed) (hall:∀ k,k < m→listed.getD k false=true):listed=headDone ops.size m:=by
 refine Array.ext (by simp [headDone,inv.size]) fun i h1 h2=>?_
 have hi:i < ops.size:=by rw [← inv.size];exact h1
 have e:(headDone ops.size m)[i]=Nat.blt i m:=by simp [headDone]
 rw [e]
 rcases Nat.lt_or_ge i m with h | h
 ·have:=hall i h
  simp only [Array.getD,h1,dite_true] at this
  rw [show Nat.blt i m=true by simpa [Nat.blt_eq] using h]
  exact this
 ·have:=inv.tail i h hi
  simp only [Array.getD,h1,dite_true] at this
  have e2:Nat.blt i m=false:=by
   cases hb:Nat.blt i m with
   | false=>rfl
   | true=>have:=Nat.blt_eq.mp hb;omega
  rw [e2]
  exact this
def sinkJ (ops:Array Oper) (pu:List Nat) (m i:Nat):Nat→Bool
 | 0=>false
 | j+1=>bif (bif Region.waitsFor .any ops j i then(bif Nat.beq j m then true else !(memN pu j)) else false) then Nat.blt i j else sinkJ ops pu m i j
theorem sinkJ_spec {ops:Array Oper} {pu:List Nat} {m i:Nat}:∀ {n:Nat},sinkJ ops pu m i n=true→∃ j,j < n∧i < j∧Region.waitsFor .any ops j i=true∧(j=m∨memN pu j=false)
 | 0,h=>by cases h
 | n+1,h=>by
  simp only [sinkJ] at h
  cases hb:(bif Region.waitsFor .any ops n i then(bif Nat.beq n m then true else !(memN pu n)) else false) with
  | false=>
   rw [hb] at h
   obtain⟨j,h1,h2⟩:=sinkJ_spec h
   exact⟨j,by omega,h2⟩
  | true=>
   rw [hb] at h
   refine⟨n,by omega,by simpa [Nat.blt_eq] using h,?_⟩
   cases hw:Region.waitsFor .any ops n i with
   | false=>rw [hw] at hb;cases hb
   | true=>
    rw [hw] at hb
    refine⟨rfl,?_⟩
    cases hm:Nat.beq n m with
    | true=>exact .inl (Nat.eq_of_beq_eq_true hm)
    | false=>rw [hm] at hb;exact .inr (by simpa using hb)
def sinkP (ops:Array Oper) (pu:List Nat) (m:Nat):Nat→Bool
 | 0=>true
 | i+1=>bif (bif memN pu i then true else sinkJ ops pu m i (m+1)) then sinkP ops pu m i else false
theorem sinkP_spec {ops:Array Oper} {pu:List Nat} {m:Nat}:∀ {n:Nat},sinkP ops pu m n=true→∀ i,i < n→memN pu i=false→∃ j,j≤m∧i < j∧Region.waitsFor .any ops j i=true∧(j=m∨memN pu j=false)
 | 0,_,i,hi,_=>by omega
 | n+1,h,i,hi,hp=>by
  simp only [sinkP] at h
  cases hb:(bif memN pu n then true else sinkJ ops pu m n (m+1)) with
  | false=>rw [hb] at h;cases h
  | true=>
   rw [hb] at h
   rcases Nat.lt_or_ge i n with h1 | h1
   ·exact sinkP_spec h i h1 hp
   ·have:i=n:=by omega
    subst this
    rw [hp] at hb
    obtain⟨j,a1,a2⟩:=sinkJ_spec hb
    exact⟨j,by omega,a2⟩
def endsB (ops:Array Oper) (pu:List Nat) (m:Nat):Bool:=bif Nat.beq m ops.size then true else bif sinkP ops pu m m then Region.chainB .any ops m else false
theorem tail_waitsP {ops:Array Oper} {pu:List Nat} {m:Nat} (hm:m < ops.size) (hs:sinkP ops pu m m=true) (hc:Region.chainB .any ops m=true) {listed:Array Bool} (inv:HeadInv .any ops m listed):
  ∀ (d i:Nat),m - i=d→i < m→listed.getD i false=false→memN pu i=false→∀ t,m≤t→t∉Region.ready .any ops listed:=by
 intro d
 induction d using Nat.strongRecOn with
 | _ d ih=>
  intro i hd hi hun hip t ht hr
  obtain⟨_,ot,hot,hall⟩:=mem_ready.1 hr
  have htlt:t < ops.size:=(Array.getElem?_eq_some_iff.1 hot).1
  by_cases htn:t=m
  ·subst htn
   obtain⟨j,h1,h2,h3,h4⟩:=sinkP_spec hs i hi hip
   by_cases hjt:j=t
   ·subst hjt
    rw [waits_listed hr h3] at hun;cases hun
   ·have hjp:memN pu j=false:=h4.resolve_left hjt
    cases hl:listed.getD j false with
    | true=>
     obtain⟨oj,hoj,e,he,hb,hon⟩:=Region.waitsFor_spec h3
     have:=inv.closed j oj hoj hl e he hb
     rw [hon,hun] at this
     cases this
    | false=>exact ih (t - j) (by omega) j rfl (by omega) hl hjp t (Nat.le_refl _) hr
  ·have h1:=List.all_eq_true.1 hc t (List.mem_range.2 htlt)
   simp only [Bool.or_eq_true,decide_eq_true_eq] at h1
   rcases h1 with h1 | h1
   ·omega
   ·have:=waits_listed hr h1
    rw [getD_both (inv.tail (t - 1) (by omega) (by omega))] at this
    cases this
theorem ready_lt {ops:Array Oper} {pu:List Nat} {m:Nat} (hm:m≤ops.size) (he:endsB ops pu m=true) {listed:Array Bool} (inv:HeadInv .any ops m listed) (hex:∃ k,k < m∧k∈Region.ready .any ops listed∧memN pu k=false):∀ i∈Region.ready .any ops listed,i < m:=by
 intro i hi
 obtain⟨_,o,ho,_⟩:=mem_ready.1 hi
 have hlt:i < ops.size:=(Array.getElem?_eq_some_iff.1 ho).1
 rcases Nat.lt_or_ge i m with h | h
 ·exact h
 ·exfalso
  unfold endsB at he
  cases hb:Nat.beq m ops.size with
  | true=>have:=Nat.eq_of_beq_eq_true hb;omega
  | false=>
   rw [hb] at he
   simp only [cond_false] at he
   cases hs:sinkP ops pu m m with
   | false=>rw [hs] at he;cases he
   | true=>
    rw [hs] at he
    obtain⟨k,h1,h2,h3⟩:=hex
    exact tail_waitsP (by omega) hs he inv _ k rfl h1 (getD_both (mem_ready.1 h2).1) h3 i h hi
theorem dHead {P:Program} {gl:Fr} (hgl:Fr.le gl M0) {tr:TypeId} {n:Nat} {ops:Array Oper} {m:Nat} {pu:List Nat} {e0:EnvA} {cs:CS} {Kt:List It→Prop} {Q:Exit→Act→World→Prop} (hm:m≤ops.size) (hnd:ndDsts ops m=true) (hback:edgesBack ops ops.size=true) (hends:endsB ops pu m=true) (hsel:Region.noSelect ops=true) (hQp:∀ c a w,¬ Q (.panic c) a w)
    (he0:∀ x∈e0,x.2.1=[]∧x.1∉headDs ops m∧noMenS x.2.2 (headDs ops m)=true) (B:World) {g:Nat} {a0:Act} {γ0:Gh}
    (hQ:∀ IL γ a d h,SatA n (itE IL++e0) γ a→Inv h0 W M0 (itC IL++cs) γ h→Same (headDs ops m) a0 a→GxS (headDs ops m) γ0 γ→Kt IL→wpAny P .any ops Q g (headDone ops.size m) a (mk B d h)):
    ∀ (N:Nat) (U:List Nat) (listed:Array Bool) (ord:List Nat) (pl:Array Bool) (IL:List It) (γ:Gh) (a:Act) (d:Nat) (h:Heap),U.length=N→U.Nodup→(∀ k,k∈U↔k < m∧listed.getD k false=false)→HeadInv .any ops m listed →
      dW P gl tr n ops m pu e0 cs Kt ord pl IL→anchored ops ord=true→GInv h0 W M0 P n ops m pu e0 cs listed pl IL→Mid h0 W M0 P n ops m e0 cs listed IL γ a h→Same (headDs ops m) a0 a→GxS (headDs ops m) γ0 γ →
      wpAny P .any ops Q (N+g) listed a (mk B d h):=by
  intro N
  induction N with
  | zero=>
    intro U listed ord pl IL γ a d h hU _ hmem inv H hanch G M hsame hgx
    have hUn:U=[]:=List.length_eq_zero_iff.1 hU
    subst hUn
    have hall:∀ k,k < m→listed.getD k false=true:=fun k hk=>by
      cases hb:listed.getD k false with
      | true=>rfl
      | false=>exact absurd ((hmem k).2 ⟨hk,hb⟩) (by simp)
    have hKt:Kt (finI IL):=by
      cases ord with
      | nil=>
        unfold dW at H
        cases hb:allPl pl m with
        | true=>rw [hb] at H;exact H
        | false=>rw [hb] at H;exact H.elim
      | cons k ord=>
        exfalso
        obtain⟨o,ch,nb,us,Kan,ho,hst,hit,_,_⟩:=item_of (h0:=h0) (W:=W) (M0:=M0) hgl H
        have hk:k < m:=(hit (.g (.a (.v undef)))).lt
        have h1:=(mem_ready.1 (rdy_of hst).1).1
        rw [getD_lt (by rw [G.size];omega),G.sub k (hall k hk)] at h1
        cases h1
    have hact:actI listed IL=finI IL:=actI_all fun i hi=>by
      obtain⟨Ki,Ti,_⟩:=G.items i hi
      exact⟨hall _ Ti.lt,fun j hj=>hall j (Ti.use j hj).1⟩
    have h1:=M.sat
    have h2:=M.inv
    rw [hact] at h1 h2
    rw [Nat.zero_add,headDone_eq hm inv hall]
    exact hQ (finI IL) γ a d h h1 h2 hsame hgx hKt
  | succ N ih=>
    intro U listed ord pl IL γ a d h hU hdup hmem inv H hanch G M hsame hgx
    have hex:∃ k,k < m∧listed.getD k false=false:=by
      cases U with
      | nil=>cases hU
      | cons k U=>exact⟨k,(hmem k).1 List.mem_cons_self⟩
    obtain⟨k0,hk0m,hk0⟩:=some_ready hm hback inv.size hex
    rw [show N+1+g=(N+g)+1 by omega]
    have gen:∀ i,i∈Region.ready .any ops listed→i < m→(memN pu i=true→wpAny P .any ops Q (N+g+1) listed a (mk B d h))∧wpOp P ops Q i (wpAny P .any ops Q (N+g) (listed.setIfInBounds i true)) a (mk B d h):=by
      intro i hi him
      have hun:listed.getD i false=false:=getD_both (mem_ready.1 hi).1
      have hils:i < listed.size:=by rw [inv.size];omega
      have hU':(U.erase i).length=N:=by rw [List.length_erase_of_mem ((hmem i).2 ⟨him,hun⟩),hU];rfl
      have hdup':(U.erase i).Nodup:=hdup.erase i
      have hmem':∀ k,k∈U.erase i↔k < m∧(listed.setIfInBounds i true).getD k false=false:=fun k=>by
        rw [hdup.mem_erase_iff,hmem k]
        by_cases hk:i=k
        · subst hk;simp [hils]
        · rw [getD_set_ne false hk];exact⟨fun hx=>hx.2,fun hx=>⟨fun e=>hk e.symm,hx⟩⟩
      have inv':=inv.set hi him
      have toS:∀ {it:It} {Kan:AV→Prop},ItOK h0 W M0 P n ops m pu e0 cs IL it Kan→∀ {γ':Gh},Gx (it.nb.map (·.1)) γ γ'→GxS (headDs ops m) γ γ':=by
        intro it Kan T γ' gx
        refine⟨gx.1,fun j hj=>?_⟩
        refine gx.2 j fun hc=>hj ?_
        obtain⟨o,e,eat,ho,_,sp,_,_⟩:=T.ex
        cases hnb:it.nb with
        | none=>rw [hnb] at hc;cases hc
        | some b=>
          rw [hnb] at hc
          have:b.1=j:=by simpa using hc
          subst this
          obtain⟨_,h2,_⟩:=sp.box b hnb
          exact headDs_mem T.lt (by rw [dstOf_eq ho];exact h2)
      have toSame:∀ {it:It} {Kan:AV→Prop},ItOK h0 W M0 P n ops m pu e0 cs IL it Kan→∀ u,Same (headDs ops m) a (a.put it.dst u):=fun {it} {Kan} T u=>
        Same.put a it.dst u fun j hj=>headDs_mem T.lt (by rw [T.dst];exact hj)
      have hILk:∀ x∈IL,∃ Kan,ItOK h0 W M0 P n ops m pu e0 cs IL x Kan∧Kan x.av:=fun x hx=>by
        obtain⟨Kx,h1,h2,_⟩:=G.items x hx
        exact⟨Kx,h1,h2⟩
      have hdist:∀ x∈IL,∀ y∈IL,x.k=y.k→x=y:=by
        have key:∀ l:List It,l.Pairwise (fun i j=>i.k≠j.k)→∀ x∈l,∀ y∈l,x.k=y.k→x=y:=by
          intro l
          induction l with
          | nil=>intro _ x hx;cases hx
          | cons z l ihl=>
            intro hp x hx y hy e
            rw [List.pairwise_cons] at hp
            rcases List.mem_cons.1 hx with hx1 | hx1
            · rcases List.mem_cons.1 hy with hy1 | hy1
              · rw [hx1,hy1]
              · rw [hx1] at e;exact absurd e (hp.1 y hy1)
            · rcases List.mem_cons.1 hy with hy1 | hy1
              · rw [hy1] at e;exact absurd e.symm (hp.1 x hx1)
              · exact ihl hp.2 x hx1 y hy1 e
        exact key IL G.dist
      cases hpl:pl.getD i false with
      | true=>
        obtain⟨it,hit,hik⟩:=(G.mem i).1 hpl
        subst hik
        obtain⟨Kan,T,_,hdet⟩:=G.items it hit
        have fwd:∀ u γ' h' d',(∀ L':List It,L'.Perm (it::(actI listed IL).map (cutU it.k))→SatA n (itE L'++e0) γ' (a.put it.dst u)∧Inv h0 W M0 (itC L'++cs) γ' h')→Gx (it.nb.map (·.1)) γ γ'→wpAny P .any ops Q (N+g) (listed.setIfInBounds it.k true) (a.put it.dst u) (mk B d' h'):=by
         intro u γ' h' d' hst hgx'
         have huse:∀ j,it.us=some j→(listed.setIfInBounds it.k true).getD j false=false:=by
           intro j hj
           have hw:=(T.use j hj).2
           obtain⟨oj,hoj,e,he,hb,hon⟩:=Region.waitsFor_spec hw
           have hjk:it.k≠j:=fun e'=>by
             have:=edgesBack_spec hback j oj (Array.getElem?_eq_some_iff.1 hoj).1 hoj e he hb
             omega
           rw [getD_set_ne false hjk]
           cases hl:listed.getD j false with
           | false=>rfl
           | true=>
             have:=inv.closed j oj hoj hl e he hb
             rw [hon,hun] at this;cases this
         obtain⟨s1,s2⟩:=hst _ (actI_set hils hun huse G.dist hit)
         refine ih _ _ ord pl IL γ' _ d' h' hU' hdup' hmem' inv' H hanch ⟨G.size,G.mem,G.dist,fun x hx=>?_,fun k hk=>?_⟩ ⟨s1,s2⟩ (hsame.trans (toSame T u)) (hgx.trans (toS T hgx'))
         · obtain⟨Kx,h1,h2,h3⟩:=G.items x hx
           refine⟨Kx,h1,h2,fun hf=>h3 ?_⟩
           by_cases hk:it.k=x.k
           · rw [← hk];exact hun
           · rw [getD_set_ne false hk] at hf;exact hf
         · by_cases hk':it.k=k
           · subst hk';exact hpl
           · rw [getD_set_ne false hk'] at hk;exact G.sub k hk
        have hK0:Kan it.av:=by rw [hdet hun]
        refine⟨fun hp=>exec_pure hnd he0 hILk hdist inv M T hK0 hi hp hsel hQp B d fun u hst hgx'=>fwd u γ h d hst hgx',exec_item hnd he0 hILk hdist inv M T hi B d fun av u γ' h' d' hav hst hgx'=>?_⟩
        have hav':av=it.av:=by rw [hdet hun] at hav;exact hav
        subst hav'
        exact fwd u γ' h' d' hst hgx'
      | false=>
        have hrp:=G.ready_pl hi hpl
        cases ord with
        | nil=>
          exfalso
          unfold dW at H
          cases hb:allPl pl m with
          | true=>rw [allPl_spec hb i him] at hpl;cases hpl
          | false=>rw [hb] at H;exact H
        | cons k ord=>
          obtain⟨o,ch,nb,us,Kan,ho,hst,hit,hK,_⟩:=item_of (h0:=h0) (W:=W) (M0:=M0) hgl H
          have hanc:isAnchor o=true:=by simpa [anchored,ho] using hanch
          have hrk:=(rdy_of hst).2 hanc
          rw [hrk] at hrp
          have hik:i=k:=by simpa using hrp
          subst hik
          refine⟨fun hp=>?_,exec_item hnd he0 hILk hdist inv M (hit (.g (.a (.v undef)))) hi B d fun av u γ' h' d' hav hst' hgx'=>?_⟩
          · obtain⟨o',_,_,ho',_,_,_,hpp,_⟩:=(hit (.g (.a (.v undef)))).ex
            have:=(hpp hp).2.2.2
            have e':o'=o:=Option.some.inj (ho'.symm.trans ho)
            rw [e',hanc] at this;cases this
          have hne:∀ j∈IL,i≠j.k:=fun j hj e=>by
            have:=(G.mem i).2 ⟨j,hj,e.symm⟩
            rw [hpl] at this;cases this
          have hips:i < pl.size:=by rw [G.size,← inv.size];exact hils
          have G':GInv h0 W M0 P n ops m pu e0 cs (listed.setIfInBounds i true) (pl.setIfInBounds i true) (⟨i,o.dst,ch,av,nb,us⟩::IL):=by
            refine⟨by simp [G.size],fun j=>?_,List.pairwise_cons.2 ⟨fun j hj=>hne j hj,G.dist⟩,fun x hx=>?_,fun j hj=>?_⟩
            · by_cases hjk:i=j
              · subst hjk
                simp only [List.mem_cons,exists_eq_or_imp,true_or,iff_true]
                simp [hips]
              · rw [getD_set_ne false hjk,G.mem j]
                simp only [List.mem_cons,exists_eq_or_imp,hjk,false_or]
            · rcases List.mem_cons.1 hx with rfl | hx
              · exact⟨Kan,(hit av).mono fun x hx=>List.mem_cons_of_mem _ hx,hav,fun hf=>by simp [hils] at hf⟩
              · obtain⟨Kx,h1,h2,h3⟩:=G.items x hx
                refine⟨Kx,h1.mono fun x hx=>List.mem_cons_of_mem _ hx,h2,fun hf=>h3 ?_⟩
                rw [getD_set_ne false (hne x hx)] at hf;exact hf
            · by_cases hjk:i=j
              · subst hjk;simp [hips]
              · rw [getD_set_ne false hjk] at hj ⊢;exact G.sub j hj
          obtain⟨ord',pl',new,h1,h2,h3,h4⟩:=absorb hgl (hK av hav) G'
          have hact:actI (listed.setIfInBounds i true) (new++⟨i,o.dst,ch,av,nb,us⟩::IL)=⟨i,o.dst,ch,av,nb,us⟩::(actI listed IL).map (cutU i):=by
            rw [actI_new h4]
            simp only [actI]
            rw [show(listed.setIfInBounds i true).getD i false=true by simp [hils],actI_ne hils hun hne,cond_true,strip_un ?_]
            intro j hj
            have hw:=((hit av).use j hj).2
            obtain⟨oj,hoj,e,he,hb,hon⟩:=Region.waitsFor_spec hw
            have hon:e.on=i:=hon
            have hjk:i≠j:=fun e'=>by
              have:=edgesBack_spec hback j oj (Array.getElem?_eq_some_iff.1 hoj).1 hoj e he hb
              omega
            rw [getD_set_ne false hjk]
            cases hl:listed.getD j false with
            | false=>rfl
            | true=>
              have:=inv.closed j oj hoj hl e he hb
              rw [hon,hun] at this;cases this
          obtain⟨s1,s2⟩:=hst' (⟨i,o.dst,ch,av,nb,us⟩::(actI listed IL).map (cutU i)) (.refl _)
          exact ih _ _ ord' pl' _ γ' _ d' h' hU' hdup' hmem' inv' h1 h3 h2 ⟨by rw [hact];exact s1,by rw [hact];exact s2⟩ (hsame.trans (toSame (hit av) u)) (hgx.trans (toS (hit av) hgx'))
    by_cases hpe:∃ i,i∈Region.ready .any ops listed∧i < m∧memN pu i=true
    · obtain⟨i,hi,him,hp⟩:=hpe
      exact(gen i hi him).1 hp
    · refine⟨fun hc=>(by rw [hc] at hk0;cases hk0),fun i hi=>(gen i hi (ready_lt hm hends inv ⟨k0,hk0m,hk0,?_⟩ i hi)).2⟩
      cases hb:memN pu k0 with
      | false=>rfl
      | true=>exact absurd ⟨k0,hk0,hk0m,hb⟩ hpe
def drawB (ops:Array Oper) (m:Nat) (pu:List Nat):Bool:=
 bif Nat.ble m ops.size then(bif ndDsts ops m then(bif edgesBack ops ops.size then(bif endsB ops pu m then(bif Region.noSelect ops then Region.seqB .any ops (ops.size - m) m (headDone ops.size m) else false) else false) else false) else false) else false
def drawA (P:Program) (gl:Fr) (tr:TypeId) (n:Nat) (ops:Array Oper) (m:Nat) (ord pu:List Nat) (R:CS) (K:EnvA→CS→Prop) (e:EnvA) (C:CS):Prop:=
 bif drawB ops m pu then dW P gl tr n ops m pu (baseE (headDs ops m) e) (C++R) (fun IL=>wRA P gl tr n ops R K (ops.toList.drop m) (itE IL++baseE (headDs ops m) e) (itC IL++C)) ord (Array.replicate ops.size false) [] else False
theorem drawA_sound {P:Program} (hm:P.follows .mixedOrders=true) {gl:Fr} (hgl:Fr.le gl M0) {tr:TypeId} {n:Nat} {id:Nat} {ops:Array Oper} {m:Nat} {ord pu:List Nat} {R C:CS} {K:EnvA→CS→Prop} {e:EnvA}
  (H:drawA P gl tr n ops m ord pu R K e C) {γ:Gh} {h:Heap} (B:World) (d:Nat) {a:Act} (hs:SatA n e γ a) (I:Inv h0 W M0 (C++R) γ h) {Q:Exit→Act→World→Prop}
  (hQ:∀ e' C' γ' a' d' h',SatA n e' γ' a'→Inv h0 W M0 (C'++R) γ' h'→Same (dsts ops.toList) a a'→GxS (dsts ops.toList) γ γ'→K e' C'→Q .normal a' (mk B d' h')):(Code.region id ops true).wp P Q a (mk B d h):=by
 unfold drawA at H
 cases hB:drawB ops m pu with
 | false=>rw [hB] at H;exact H.elim
 | true=>
  rw [hB] at H
  simp only [cond_true] at H
  have hBB:m≤ops.size∧ndDsts ops m=true∧edgesBack ops ops.size=true∧endsB ops pu m=true∧Region.noSelect ops=true∧Region.seqB .any ops (ops.size - m) m (headDone ops.size m)=true:=by
   unfold drawB at hB
   cases h1:Nat.ble m ops.size with
   | false=>rw [h1] at hB;cases hB
   | true=>
    rw [h1] at hB
    cases h2:ndDsts ops m with
    | false=>rw [h2] at hB;cases hB
    | true=>
     rw [h2] at hB
     cases h3:edgesBack ops ops.size with
     | false=>rw [h3] at hB;cases hB
     | true=>
      rw [h3] at hB
      cases h4:endsB ops pu m with
      | false=>rw [h4] at hB;cases hB
      | true=>
       rw [h4] at hB
       cases h5:Region.noSelect ops with
       | false=>rw [h5] at hB;cases hB
       | true=>
        rw [h5] at hB
        exact⟨Nat.le_of_ble_eq_true h1,rfl,rfl,rfl,rfl,hB⟩
  obtain⟨hms,hnd,hback,hends,hsel,hseq⟩:=hBB
  have hsplit:dsts ops.toList=dsts (ops.toList.take m)++dsts (ops.toList.drop m):=by rw [← dsts_append,List.take_append_drop]
  have he0:∀ x∈baseE (headDs ops m) e,x.2.1=[]∧x.1∉headDs ops m∧noMenS x.2.2 (headDs ops m)=true:=fun x hx=>(baseE_mem hx).2
  have inv0:HeadInv .any ops m (Array.replicate ops.size false):=
   ⟨by simp,fun j oj _ hl=>(by rw [getD_replicate_false] at hl;cases hl),fun t _ ht=>getD_in (by simpa using ht) (getD_replicate_false _ _)⟩
  have G0:GInv h0 W M0 P n ops m pu (baseE (headDs ops m) e) (C++R) (Array.replicate ops.size false) (Array.replicate ops.size false) []:=
   ⟨by simp,fun k=>by rw [getD_replicate_false];simp,List.Pairwise.nil,fun i hi=>(by cases hi),fun k hk=>hk⟩
  obtain⟨ord',pl',new,h1,h2,h3,h4⟩:=absorb hgl H G0
  have hact:actI (Array.replicate ops.size false) (new++[])=[]:=by rw [actI_new h4];rfl
  have hsat:SatA n (baseE (headDs ops m) e) γ a:=hs.sub fun x hx=>(baseE_mem hx).1
  let Qn:Exit→Act→World→Prop:=fun x a w=>x=.normal∧Q .normal a w
  refine wp_mono (Q':=Q) (Q:=Qn) ?_ (fun x a w hq=>by obtain⟨rfl,h⟩:=hq;exact h)
  refine wp_region_any hm ?_
  have hsz:ops.size=m+(ops.size - m):=by omega
  have key:=dHead (n:=n) (Q:=Qn) (pu:=pu) hgl hms hnd hback hends hsel (fun c a w hq=>by cases hq.1) he0 B (g:=ops.size - m) (a0:=a) (γ0:=γ) (Kt:=fun IL=>wRA P gl tr n ops R K (ops.toList.drop m) (itE IL++baseE (headDs ops m) e) (itC IL++C)) (fun IL γ' a' d' h' s1 s2 s3 s4 s5=>?_) m (List.range m) (Array.replicate ops.size false) ord' pl' (new++[]) γ a (d+1) h List.length_range List.nodup_range (fun k=>by rw [List.mem_range,getD_replicate_false];simp) inv0 h1 h3 h2 ⟨by rw [hact];exact hsat,by rw [hact];exact I⟩ (Same.refl _ _) (GxS.refl _ _)
  ·rw [← hsz] at key
   exact key
  ·have hlen:(ops.toList.drop m).length=ops.size - m:=by simp
   rw [← hlen]
   refine wpAny_of_seq (md:=.any) (ops.toList.drop m) m _ a' _ (fun j=>by simp [List.getElem?_drop]) (by rw [hlen];exact hseq) ?_
   refine wRA_sound hgl B _ _ _ _ _ _ d' s5 s1 (by rw [List.append_assoc];exact s2) fun e'' C'' γ'' a'' d'' h'' q4 q5 q6 q7 q8=>⟨rfl,hQ e'' C'' γ'' a'' d'' h'' q4 q5 ?_ ?_ q8⟩
   ·rw [hsplit]
    exact(s3.mono fun x hx=>List.mem_append_left _ hx).trans (q6.mono fun x hx=>List.mem_append_right _ hx)
   ·rw [hsplit]
    exact(s4.mono fun x hx=>List.mem_append_left _ hx).trans (q7.mono fun x hx=>List.mem_append_right _ hx)
abbrev DrawT:=List (Nat×Nat×List Nat×List Nat×List Nat)
def drawAt:DrawT→Nat→Option (Nat×List Nat×List Nat×List Nat)
 | [],_=>none
 | (j,x)::l,i=>bif Nat.beq i j then some x else drawAt l i
def regionD (P:Program) (gl:Fr) (tr:TypeId) (n:Nat) (tl:DrawP) (dl:DrawT) (id:Nat) (ops:Array Oper) (draw:Bool) (R:CS) (K:EnvA→CS→Prop) (e:EnvA) (C:CS):Prop:=
 match drawAt dl id with
 | none=>regionA P gl tr n tl id ops draw R K e C
 | some (m,fz,ord,pu)=>bif draw then drawA P gl tr n ops m ord pu R K e (frzL fz C) else False
theorem regionD_sound {P:Program} (hm:P.follows .mixedOrders=true) {gl:Fr} (hgl:Fr.le gl M0) {tr:TypeId} {n:Nat} {tl:DrawP} {dl:DrawT} {id:Nat} {ops:Array Oper} {draw:Bool} {R C:CS} {K:EnvA→CS→Prop} {e:EnvA}
  (H:regionD P gl tr n tl dl id ops draw R K e C) {γ:Gh} {h:Heap} (B:World) (d:Nat) {a:Act} (hs:SatA n e γ a) (I:Inv h0 W M0 (C++R) γ h) {Q:Exit→Act→World→Prop}
  (hQ:∀ e' C' γ' a' d' h',SatA n e' γ' a'→Inv h0 W M0 (C'++R) γ' h'→Same (dsts ops.toList) a a'→GxS (dsts ops.toList) γ γ'→K e' C'→Q .normal a' (mk B d' h')):(Code.region id ops draw).wp P Q a (mk B d h):=by
 unfold regionD at H
 split at H
 ·exact regionA_sound hm hgl H B d hs I hQ
 ·rename_i m fz ord pu _
  cases draw with
  | false=>exact H.elim
  | true=>
   obtain⟨γ1,I1,g1⟩:=Inv.frzL (C:=C) (γ:=γ) fz I
   refine drawA_sound hm hgl H B d (hs.gx g1) I1 fun e' C' γ' a' d' h' q1 q2 q3 q4 q5=>hQ e' C' γ' a' d' h' q1 q2 q3 (GxS.trans ⟨g1.1,fun i _=>g1.2 i (by simp)⟩ q4) q5
end Go.X
end
section
namespace Go.X
open Go
set_option linter.unusedVariables false
variable {h0 : Heap} {W : Nat → Prop} {M0 : Fr}
structure PlanA where
 tails:DrawP
 draws:DrawT
 loops:List (Nat×AnnA)
 joins:List (Nat×AnnA)
def annA:List (Nat×AnnA)→Option Nat→Option AnnA
 | [],_=>none
 | (j,m)::l,some i=>bif Nat.beq i j then some m else annA l (some i)
 | _,none=>none
def idsA:AA→List Nat
 | .box j _=>[j]
 | .own j=>[j]
 | .oelt j _ _ _=>[j]
 | _=>[]
def noneL (S:List Nat):List AA→Bool
 | []=>true
 | x::l=>bif (match idsA x with
  | []=>true
  | j::_=>!(memN S j)) then noneL S l else false
def noneG (S:List Nat):AG→Bool
 | .a x=>noneL S [x]
 | .agg l=>noneL S l
def noneGs (S:List Nat):List AG→Bool
 | []=>true
 | x::l=>bif noneG S x then noneGs S l else false
def noneV (S:List Nat):AV→Bool
 | .g x=>noneG S x
 | .tup l=>noneGs S l
 | .nx _ _ _=>true
theorem DenA.gxS {S:List Nat} {γ γ':Gh} (g:GxS S γ γ') {x:AA} {u:Value} (hm:(match idsA x with
  | []=>true
  | j::_=>!(memN S j))=true) (h:DenA γ x u):DenA γ' x u:=by
 have key:∀ j,memN S j=false→γ'.β j=γ.β j∧γ'.σ j=γ.σ j:=fun j hj=>g.2 j (memN_false hj)
 cases x with
 | v y=>exact h
 | d t y=>exact Rd.mono g.1 h
 | box j o=>rw [show u=_ from h];simp only [DenA,(key j (by simpa [idsA] using hm)).1]
 | own j=>rw [show u=_ from h];simp only [DenA,(key j (by simpa [idsA] using hm)).2]
 | oelt j z i o=>obtain⟨b,e1,e2⟩:=h;exact⟨b,by rw [(key j (by simpa [idsA] using hm)).2];exact e1,e2⟩
 | elt t y o=>obtain⟨b,f,cs,e,h1,h2⟩:=h;exact⟨b,f,cs,e,g.1 _ _ h1,Rd.mono g.1 h2⟩
 | dc t xs=>obtain⟨s,e1,e2,h⟩:=h;exact⟨s,e1,e2,Rd.mono g.1 h⟩
theorem DenL.gxS {S:List Nat} {γ γ':Gh} (g:GxS S γ γ'):∀ {l:List AA} {us:List Value},noneL S l=true→All2 (DenA γ) l us→All2 (DenA γ') l us
 | [],[],_,_=>trivial
 | [],_::_,_,h=>h.elim
 | _::_,[],_,h=>h.elim
 | x::l,u::us,hm,h=>by
  simp only [noneL] at hm
  cases hx:(match idsA x with
   | []=>true
   | j::_=>!(memN S j)) with
  | false=>rw [hx] at hm;cases hm
  | true=>rw [hx] at hm;exact⟨DenA.gxS g hx h.1,DenL.gxS g hm h.2⟩
theorem DenG.gxS {S:List Nat} {γ γ':Gh} (g:GxS S γ γ') {x:AG} {u:Value} (hm:noneG S x=true) (h:DenG γ x u):DenG γ' x u:=by
 cases x with
 | a x=>
  have:All2 (DenA γ') [x] [u]:=DenL.gxS g hm (show All2 (DenA γ) [x] [u] from⟨h,trivial⟩)
  exact this.1
 | agg l=>obtain⟨us,e,h⟩:=h;exact⟨us,e,DenL.gxS g hm h⟩
theorem DenV.gxS {S:List Nat} {γ γ':Gh} (g:GxS S γ γ') {x:AV} {u:Value} (hm:noneV S x=true) (h:DenV γ x u):DenV γ' x u:=by
 cases x with
 | g x=>exact DenG.gxS g hm h
 | tup l=>
  obtain⟨us,e,h⟩:=h
  refine⟨us,e,?_⟩
  have:∀ {l:List AG} {us:List Value},noneGs S l=true→All2 (DenG γ) l us→All2 (DenG γ') l us:=by
   intro l
   induction l with
   | nil=>intro us _ h;cases us with
    | nil=>trivial
    | cons _ _=>exact h.elim
   | cons x l ih=>
    intro us hm h
    cases us with
    | nil=>exact h.elim
    | cons u us=>
     simp only [noneGs] at hm
     cases hx:noneG S x with
     | false=>rw [hx] at hm;cases hm
     | true=>rw [hx] at hm;exact⟨DenG.gxS g hx h.1,ih hm h.2⟩
  exact this hm h
 | nx b p c=>exact h
def keepE (ms S:List Nat):EnvA→EnvA
 | []=>[]
 | (i,[],v)::e=>bif memN ms i then keepE ms S e else(bif noneV S v then(i,[],v)::keepE ms S e else keepE ms S e)
 | (_,_::_,_)::e=>keepE ms S e
theorem keepE_facts {ms S:List Nat} {γ γ1:Gh} {a a1:Act} (g:GxS S γ γ1) (hsame:Same ms a a1):∀ {e:EnvA},(∀ x∈e,factA γ (vals a) x)→∀ x∈keepE ms S e,factA γ1 (vals a1) x
 | [],_,x,hx=>by cases hx
 | (i,[],v)::e,h,x,hx=>by
  have ih:=keepE_facts g hsame (e:=e) fun x hx=>h x (List.mem_cons_of_mem _ hx)
  simp only [keepE] at hx
  cases hm:memN ms i with
  | true=>rw [hm] at hx;exact ih x hx
  | false=>
   rw [hm] at hx
   simp only [cond_false] at hx
   cases hn:noneV S v with
   | false=>rw [hn] at hx;exact ih x hx
   | true=>
    rw [hn] at hx
    rcases List.mem_cons.1 hx with rfl | hx
    ·refine⟨fun _=>?_,fun hn'=>absurd trivial hn'⟩
     have:=(h _ List.mem_cons_self).1 trivial
     simp only at this ⊢
     rw [hsame _ (memN_false hm)]
     exact this.gxS g hn
    ·exact ih x hx
 | (_,_::_,_)::e,h,x,hx=>keepE_facts g hsame (e:=e) (fun x hx=>h x (List.mem_cons_of_mem _ hx)) x hx
def inC (ro:List Nat):CS→CS
 | []=>[]
 | (c,k)::l=>bif memN ro c then(c,k)::inC ro l else inC ro l
def outC (ro:List Nat):CS→CS
 | []=>[]
 | (c,k)::l=>bif memN ro c then outC ro l else(c,k)::outC ro l
theorem inout_perm (ro:List Nat):∀ C:CS,(outC ro C++inC ro C).Perm C
 | []=>.nil
 | (c,k)::l=>by
  have ih:=inout_perm ro l
  simp only [inC,outC]
  cases memN ro c with
  | true=>exact List.perm_middle.trans (ih.cons _)
  | false=>exact ih.cons _
theorem Inv.part {C R:CS} {γ:Gh} {h:Heap} (I:Inv h0 W M0 (C++R) γ h) (ro:List Nat):Inv h0 W M0 (outC ro C++(inC ro C++R)) γ h:=by
 rw [← List.append_assoc]
 exact I.perm ((inout_perm ro C).symm.append_right R)
abbrev XPostA:=Exit→EnvA→CS→Prop
def thenQA (K:EnvA→CS→Prop) (Q:XPostA):XPostA
 | .normal,e,C=>K e C
 | x,e,C=>Q x e C
def blockQA (id:Nat) (Q:XPostA):XPostA
 | .exit i,e,C=>bif Nat.beq i id then Q .normal e C else Q (.exit i) e C
 | x,e,C=>Q x e C
def moreQA (m:CS) (K:EnvA→CS→Prop) (Q:XPostA):XPostA
 | .normal,e,C=>K e C
 | x,e,C=>Q x e (C++m)
def midS (pl:PlanA):Code→List Nat
 | .region _ ops _=>dsts ops.toList
 | .seq a b=>midS pl a++(midS pl b++(match annA pl.joins (firstReg b) with
  | some J=>J.ids
  | none=>[]))
 | .cond _ a b=>midS pl a++midS pl b
 | .block _ b=>midS pl b
 | .loop b=>midS pl b++(match annA pl.loops (firstReg b) with
  | some J=>J.ids
  | none=>[])
 | _=>[]
def atA {X:Type} (J:AnnA) (R:CS) (F:CurS (shpsJ J) X) (e:EnvA) (C:CS) (k:X→Prop):Prop:=
 match xtr J R e C with
 | some ds=>match decC2 (shpsJ J) ds F with
  | some q=>k q
  | none=>False
 | none=>False
theorem atA_out {X:Type} {J:AnnA} {R:CS} {F:CurS (shpsJ J) X} {e:EnvA} {C:CS} {k:X→Prop} (h:atA J R F e C k):∃ ds q,xtr J R e C=some ds∧decC2 (shpsJ J) ds F=some q∧k q:=by
 unfold atA at h
 split at h
 ·rename_i ds hd
  split at h
  ·rename_i q hq;exact⟨ds,q,hd,hq,h⟩
  ·exact h.elim
 ·exact h.elim
def WA (P:Program) (gl:Fr) (tr:TypeId) (n:Nat) (pl:PlanA):Code→CS→XPostA→EnvA→CS→Prop
 | .skip,_,Q,e,C=>Q .normal e C
 | .ret,_,Q,e,C=>Q .ret e C
 | .exit id,_,Q,e,C=>Q (.exit id) e C
 | .label _,_,Q,e,C=>Q .normal e C
 | .goto l,_,Q,e,C=>Q (.goto l) e C
 | .region id ops draw,R,Q,e,C=>regionD P gl tr n pl.tails pl.draws id ops draw R (fun e C=>Q .normal e C) e C
 | .seq x y,R,Q,e,C=>match annA pl.joins (firstReg y) with
  | none=>WA P gl tr n pl x R (thenQA (fun e C=>WA P gl tr n pl y R Q e C) Q) e C
  | some J=>∀ K:CurS (shpsJ J) Prop,allC2 (shpsJ J) K (fun ds q=>WA P gl tr n pl y R Q (envJ J ds++keepE (mods x) (J.ids++midS pl x) e) (chJ J ds++inC J.ro C)→q) →
    WA P gl tr n pl x (inC J.ro C++R) (moreQA (inC J.ro C) (fun e1 C1=>atA J (inC J.ro C++R) K e1 C1 fun q=>q) Q) e (outC J.ro C)
 | .cond c x y,R,Q,e,C=>match opdA e [] c with
  | some v=>match boolA v with
   | some b=>(b=true→WA P gl tr n pl x R Q e C)∧(b=false→WA P gl tr n pl y R Q e C)
   | none=>False
  | none=>False
 | .block id x,R,Q,e,C=>WA P gl tr n pl x R (blockQA id Q) e C
 | .loop x,R,Q,e,C=>match annA pl.loops (firstReg x) with
  | some J=>∃ (I:CurS (shpsJ J) Prop) (μ:CurS (shpsJ J) Nat),atA J (inC J.ro C++R) (pairC2 (shpsJ J) I μ) e (outC J.ro C) (fun p=>p.1) ∧
    allC2 (shpsJ J) (pairC2 (shpsJ J) I μ) fun ds p=>p.1→WA P gl tr n pl x (inC J.ro C++R) (moreQA (inC J.ro C) (fun e1 C1=>atA J (inC J.ro C++R) (pairC2 (shpsJ J) I μ) e1 C1 fun q=>q.1∧q.2 < p.2) Q)
     (envJ J ds++keepE (mods x) (J.ids++midS pl x) e) (chJ J ds)
  | none=>False
 | _,_,_,_,_=>False
def PostXA (h0:Heap) (W:Nat→Prop) (M0:Fr) (n:Nat) (B:World) (ms S:List Nat) (a0:Act) (γ0:Gh) (R:CS) (Q:XPostA):Exit→Act→World→Prop:=
 fun x a w=>∃ e C γ d h,w=mk B d h∧SatA n e γ a∧Inv h0 W M0 (C++R) γ h∧Same ms a0 a∧GxS S γ0 γ∧Q x e C
theorem sat_againA {n:Nat} {e:EnvA} {γ0 γ γ1:Gh} {a a1:Act} (hs:SatA n e γ0 a) {ms S ids:List Nat} (hd:a1.defers=[]) (hz:a1.tmps.size=n) (hsame:Same ms a a1) (g:GxS S γ0 γ) (g1:GxS ids γ γ1) {J:AnnA} {ds:List Dy}
  (hf:∀ x∈envJ J ds,factA γ1 (vals a1) x):SatA n (envJ J ds++keepE ms (ids++S) e) γ1 a1:=by
 refine⟨hd,hz,fun x hx=>?_⟩
 rcases List.mem_append.1 hx with hx | hx
 ·exact hf x hx
 ·exact keepE_facts ((g.mono fun x hx=>List.mem_append_right _ hx).trans (g1.mono fun x hx=>List.mem_append_left _ hx)) hsame hs.all x hx
theorem WA_sound {P:Program} (hm:P.follows .mixedOrders=true) {gl:Fr} (hgl:Fr.le gl M0) {tr:TypeId} {n:Nat} {pl:PlanA}:∀ (c:Code) (R:CS) (Q:XPostA) (e:EnvA) (C:CS),WA P gl tr n pl c R Q e C →
  ∀ (γ:Gh) (h:Heap) (B:World) (d:Nat) (a:Act),SatA n e γ a→Inv h0 W M0 (C++R) γ h→c.wp P (PostXA h0 W M0 n B (mods c) (midS pl c) a γ R Q) a (mk B d h):=by
 intro c
 induction c with
 | skip=>exact fun R Q e C H γ h B d a hs I=>wp_skip ⟨e,C,γ,d,h,rfl,hs,I,Same.refl _ _,GxS.refl _ _,H⟩
 | ret=>exact fun R Q e C H γ h B d a hs I=>wp_ret ⟨e,C,γ,d,h,rfl,hs,I,Same.refl _ _,GxS.refl _ _,H⟩
 | exit id=>exact fun R Q e C H γ h B d a hs I=>wp_exit ⟨e,C,γ,d,h,rfl,hs,I,Same.refl _ _,GxS.refl _ _,H⟩
 | label l=>exact fun R Q e C H γ h B d a hs I=>wp_label ⟨e,C,γ,d,h,rfl,hs,I,Same.refl _ _,GxS.refl _ _,H⟩
 | goto l=>exact fun R Q e C H γ h B d a hs I=>wp_goto ⟨e,C,γ,d,h,rfl,hs,I,Same.refl _ _,GxS.refl _ _,H⟩
 | region id ops draw=>
  exact fun R Q e C H γ h B d a hs I=>regionD_sound hm hgl H B d hs I fun e' C' γ' a' d' h' q1 q2 q3 q4 q5=>⟨e',C',γ',d',h',rfl,q1,q2,q3,q4,q5⟩
 | seq x y ihx ihy=>
  intro R Q e C H γ h B d a hs I
  simp only [WA] at H
  have hl:∀ i∈mods x,i∈mods (x.seq y):=fun i hi=>List.mem_append_left _ hi
  have hr:∀ i∈mods y,i∈mods (x.seq y):=fun i hi=>List.mem_append_right _ hi
  have kl:∀ i∈midS pl x,i∈midS pl (x.seq y):=fun i hi=>List.mem_append_left _ hi
  have kr:∀ i∈midS pl y,i∈midS pl (x.seq y):=fun i hi=>List.mem_append_right _ (List.mem_append_left _ hi)
  split at H
  ·refine wp_seq (wp_mono (ihx _ _ _ _ H γ h B d a hs I) ?_)
   rintro ex a1 w1 ⟨e1,C1,γ1,d1,h1,rfl,s1,I1,m1,g1,q1⟩
   cases ex with
   | normal=>
    refine wp_mono (ihy _ _ _ _ q1 γ1 h1 B d1 a1 s1 I1) ?_
    rintro ex a2 w2 ⟨e2,C2,γ2,d2,h2,rfl,s2,I2,m2,g2,q2⟩
    exact⟨e2,C2,γ2,d2,h2,rfl,s2,I2,(m1.mono hl).trans (m2.mono hr),(g1.mono kl).trans (g2.mono kr),q2⟩
   | _=>exact⟨e1,C1,γ1,d1,h1,rfl,s1,I1,m1.mono hl,g1.mono kl,q1⟩
  ·rename_i J hJ
   have kJ:∀ i∈J.ids,i∈midS pl (x.seq y):=fun i hi=>by
    simp only [midS,hJ]
    exact List.mem_append_right _ (List.mem_append_right _ hi)
   have H':=H (mkC2 (shpsJ J) fun ds=>WA P gl tr n pl y R Q (envJ J ds++keepE (mods x) (J.ids++midS pl x) e) (chJ J ds++inC J.ro C)) (allC2_mkC fun ds hq=>hq)
   refine wp_seq (wp_mono (ihx _ _ _ _ H' γ h B d a hs (I.part J.ro)) ?_)
   rintro ex a1 w1 ⟨e1,C1,γ1,d1,h1,rfl,s1,I1,m1,g1,q1⟩
   cases ex with
   | normal=>
    obtain⟨ds,q,hv,hq,hk⟩:=atA_out q1
    have hq':=decC2_mkC hq
    subst hq'
    obtain⟨γ1',I1',g1',f1⟩:=xtr_sound hv s1 I1
    have s1':=sat_againA hs s1.defers s1.size m1 g1 g1' f1
    rw [← List.append_assoc] at I1'
    refine wp_mono (ihy _ _ _ _ hk γ1' h1 B d1 a1 s1' I1') ?_
    rintro ex a2 w2 ⟨e2,C2,γ2,d2,h2,rfl,s2,I2,m2,g2,q2⟩
    exact⟨e2,C2,γ2,d2,h2,rfl,s2,I2,(m1.mono hl).trans (m2.mono hr),((g1.mono kl).trans (g1'.mono kJ)).trans (g2.mono kr),q2⟩
   | _=>exact⟨e1,C1++inC J.ro C,γ1,d1,h1,rfl,s1,by rw [List.append_assoc];exact I1,m1.mono hl,g1.mono kl,q1⟩
 | cond c x y ihx ihy=>
  intro R Q e C H γ h B d a hs I
  simp only [WA] at H
  have hl:∀ i∈mods x,i∈mods (Code.cond c x y):=fun i hi=>List.mem_append_left _ hi
  have hr:∀ i∈mods y,i∈mods (Code.cond c x y):=fun i hi=>List.mem_append_right _ hi
  have kl:∀ i∈midS pl x,i∈midS pl (Code.cond c x y):=fun i hi=>List.mem_append_left _ hi
  have kr:∀ i∈midS pl y,i∈midS pl (Code.cond c x y):=fun i hi=>List.mem_append_right _ hi
  split at H
  ·rename_i v hv
   split at H
   ·rename_i b hb
    refine wp_cond_split (boolA_den hb (opdA_sound hs (c:=[]) trivial hv)) (fun hbt=>?_) (fun hbf=>?_)
    ·refine wp_mono (ihx _ _ _ _ (H.1 hbt) γ h B d a hs I) ?_
     rintro ex a2 w2 ⟨e2,C2,γ2,d2,h2,rfl,s2,I2,m2,g2,q2⟩
     exact⟨e2,C2,γ2,d2,h2,rfl,s2,I2,m2.mono hl,g2.mono kl,q2⟩
    ·refine wp_mono (ihy _ _ _ _ (H.2 hbf) γ h B d a hs I) ?_
     rintro ex a2 w2 ⟨e2,C2,γ2,d2,h2,rfl,s2,I2,m2,g2,q2⟩
     exact⟨e2,C2,γ2,d2,h2,rfl,s2,I2,m2.mono hr,g2.mono kr,q2⟩
   ·exact H.elim
  ·exact H.elim
 | block id x ih=>
  intro R Q e C H γ h B d a hs I
  refine wp_block (wp_mono (ih _ _ _ _ H γ h B d a hs I) ?_)
  rintro ex a1 w1 ⟨e1,C1,γ1,d1,h1,rfl,s1,I1,m1,g1,q1⟩
  cases ex with
  | exit i=>
   simp only [blockQA] at q1
   simp only [Exit.inBlock]
   by_cases hb:Nat.beq i id=true
   ·rw [if_pos (Nat.eq_of_beq_eq_true hb)]
    simp only [hb,cond_true] at q1
    exact⟨e1,C1,γ1,d1,h1,rfl,s1,I1,m1,g1,q1⟩
   ·rw [if_neg (fun he=>hb (by rw [he];simp))]
    simp only [hb,cond_false] at q1
    exact⟨e1,C1,γ1,d1,h1,rfl,s1,I1,m1,g1,q1⟩
  | _=>exact⟨e1,C1,γ1,d1,h1,rfl,s1,I1,m1,g1,q1⟩
 | loop x ih=>
  intro R Q e C H γ h B d a hs I
  simp only [WA] at H
  split at H
  ·rename_i J hJ
   have kx:∀ i∈midS pl x,i∈midS pl (Code.loop x):=fun i hi=>List.mem_append_left _ hi
   have kJ:∀ i∈J.ids,i∈midS pl (Code.loop x):=fun i hi=>by
    simp only [midS,hJ]
    exact List.mem_append_right _ hi
   have kS:∀ i∈J.ids++midS pl x,i∈midS pl (Code.loop x):=fun i hi=>by
    rcases List.mem_append.1 hi with hi | hi
    ·exact kJ i hi
    ·exact kx i hi
   obtain⟨Iv,μ,h0',hstep⟩:=H
   obtain⟨ds0,p0,hv0,hp0,hI0⟩:=atA_out h0'
   obtain⟨γ0,I0,g0,f0⟩:=xtr_sound hv0 hs (I.part J.ro)
   refine wp_loop_ghost (fun m a1 w1=>∃ d1 h1 γ1 ds p,w1=mk B d1 h1∧a1.defers=[]∧a1.tmps.size=n∧Same (mods x) a a1∧GxS (J.ids++midS pl x) γ γ1∧Inv h0 W M0 (chJ J ds++(inC J.ro C++R)) γ1 h1∧(∀ y∈envJ J ds,factA γ1 (vals a1) y) ∧
     decC2 (shpsJ J) ds (pairC2 (shpsJ J) Iv μ)=some p∧p.1∧p.2=m) p0.2 ⟨d,h,γ0,ds0,p0,rfl,hs.defers,hs.size,Same.refl _ _,g0.mono fun i hi=>List.mem_append_left _ hi,I0,f0,hp0,hI0,rfl⟩ ?_
   rintro m a1 w1 ⟨d1,h1,γ1,ds,p,rfl,hd1,hz1,hsame,g1,I1,f1,hp,hIp,rfl⟩
   have s1:SatA n (envJ J ds++keepE (mods x) (J.ids++midS pl x) e) γ1 a1:=⟨hd1,hz1,fun y hy=>by
    rcases List.mem_append.1 hy with hy | hy
    ·exact f1 y hy
    ·exact keepE_facts g1 hsame hs.all y hy⟩
   have hb:=decC2_spec hp hstep hIp
   refine wp_mono (ih _ _ _ _ hb γ1 h1 B d1 a1 s1 I1) ?_
   rintro ex a2 w2 ⟨e2,C2,γ2,d2,h2,rfl,s2,I2,m2,g2,q2⟩
   cases ex with
   | normal=>
    obtain⟨ds',q,hv',hq,hI',hlt⟩:=atA_out q2
    obtain⟨γ3,I3,g3,f3⟩:=xtr_sound hv' s2 I2
    exact⟨q.2,hlt,d2,h2,γ3,ds',q,rfl,s2.defers,s2.size,hsame.trans m2,(g1.trans (g2.mono fun i hi=>List.mem_append_right _ hi)).trans (g3.mono fun i hi=>List.mem_append_left _ hi),I3,f3,hq,hI',rfl⟩
   | _=>exact⟨e2,C2++inC J.ro C,γ2,d2,h2,rfl,s2,by rw [List.append_assoc];exact I2,hsame.trans m2,(g1.mono kS).trans (g2.mono kx),q2⟩
  ·exact H.elim
 | _=>exact fun R Q e C H=>H.elim
def argEA:Nat→List Arg→EnvA
 | _,[]=>[]
 | i,a::l=>(i,[],.g (gOf a.t a.x))::argEA (i+1) l
def slotEA (e:EnvA) (i:Nat):Option AV:=match lookA e i with
 | some ([],v)=>some v
 | _=>none
def resA (P:Program) (cs:CS) (e:EnvA):List ResultVar→(List AV→Prop)→Prop
 | [],K=>K []
 | .tmp t::l,K=>match slotEA e t with
  | some v=>resA P cs e l fun vs=>K (v::vs)
  | none=>False
 | .cell a t::l,K=>match slotEA e a with
  | some (.g (.a aa))=>loadA P cs t aa none fun v=>resA P cs e l fun vs=>K (v::vs)
  | _=>False
def collectEls (cs:CS):(l:List Ty)→List AV→Option (Els l)
 | [],[]=>some ()
 | [t],[v]=>collectV cs t v
 | t::t'::l,v::vs=>match collectV cs t v,collectEls cs (t'::l) vs with
  | some x,some y=>some (x,y)
  | _,_=>none
 | _,_=>none
theorem collectEls_rd {γ:Gh} {cs:CS} (hf:FzOk γ cs):∀ {l:List Ty} {vs:List AV} {r:Els l} {us:List Value},collectEls cs l vs=some r→All2 (DenV γ) vs us→RdL γ.M l r us
 | [],[],r,[],_,_=>rfl
 | [],[],_,_::_,_,h=>h.elim
 | [t],[v],r,[u],h,hd=>⟨u,rfl,collectV_rd hf (by simpa [collectEls] using h) hd.1⟩
 | [t],[v],_,[],_,h=>h.elim
 | [t],[v],_,_::_::_,_,h=>h.2.elim
 | t::t'::l,v::vs,r,[],_,h=>h.elim
 | t::t'::l,v::vs,r,u::us,h,hd=>by
  simp only [collectEls] at h
  split at h
  ·rename_i x y h1 h2
   simp only [Option.some.injEq] at h
   subst h
   exact⟨u,us,rfl,collectV_rd hf h1 hd.1,collectEls_rd hf h2 hd.2⟩
  ·cases h
 | [],_::_,_,_,h,_=>by simp [collectEls] at h
 | [t],[],_,_,h,_=>by simp [collectEls] at h
 | [t],_::_::_,_,_,h,_=>by simp [collectEls] at h
 | t::t'::l,[],_,_,h,_=>by simp [collectEls] at h
def endA (P:Program) (rs:List ResultVar) (rt:List Ty) (R:Els rt→Prop):XPostA:=fun x e C=>match x with
 | .normal=>resA P C e rs fun vs=>match collectEls (frzL (ownsVs vs) C) rt vs with
  | some r=>R r
  | none=>False
 | .ret=>resA P C e rs fun vs=>match collectEls (frzL (ownsVs vs) C) rt vs with
  | some r=>R r
  | none=>False
 | _=>False
theorem resA_sound {P:Program} {n:Nat} {C:CS} {e:EnvA} {γ:Gh} {a:Act} {h:Heap} (hs:SatA n e γ a) (I:Inv h0 W M0 C γ h):∀ {l:List ResultVar} {K:List AV→Prop},resA P C e l K→∃ vs us,K vs∧All2 (DenV γ) vs us∧us.length=l.length∧QExec P (l.mapM (resOne a.tmps)) h us
 | [],K,H=>⟨[],[],H,trivial,rfl,fun _ _=>by simp⟩
 | .tmp t::l,K,H=>by
  simp only [resA] at H
  split at H
  ·rename_i v hv
   obtain⟨vs,us,h1,h2,h3,h4⟩:=resA_sound hs I H
   have hd:DenV γ v (vals a t):=by
    unfold slotEA at hv
    split at hv
    ·rename_i u hl
     simp only [Option.some.injEq] at hv
     subst hv
     exact(hs.all _ (lookA_mem hl)).1 trivial
    ·cases hv
   refine⟨v::vs,vals a t::us,h1,⟨hd,h2⟩,by simp [h3],?_⟩
   rw [List.mapM_cons]
   exact QExec.bind (x:=vals a t) (QExec.pure _) (h4.bind (QExec.pure _))
  ·exact H.elim
 | .cell x t::l,K,H=>by
  simp only [resA] at H
  split at H
  ·rename_i aa hp
   obtain⟨v,hK,hq⟩:=loadA_sound (h0:=h0) (W:=W) (M0:=M0) H
   obtain⟨vs,us,h1,h2,h3,h4⟩:=resA_sound hs I hK
   have hd:DenA γ aa (vals a x):=by
    unfold slotEA at hp
    split at hp
    ·rename_i u hl
     simp only [Option.some.injEq] at hp
     subst hp
     exact(hs.all _ (lookA_mem hl)).1 trivial
    ·cases hp
   obtain⟨u,hu,hqe⟩:=hq trivial γ h _ I hd
   refine⟨v::vs,u::us,h1,⟨hu,h2⟩,by simp [h3],?_⟩
   rw [List.mapM_cons]
   refine QExec.bind (x:=u) ?_ (h4.bind (QExec.pure _))
   have hpt:∃ p,vals a x=.pointer (some p):=by
    have no:∀ aa,(∀ k,fetch C k aa=none)→(∀ c z i o,aa≠.oelt c z i o)→DenA γ aa (vals a x)→loadA P C t aa none (fun v=>resA P C e l fun vs=>K (v::vs))→False:=by
     intro aa hn hne _ hl
     unfold loadA at hl
     split at hl
     ·split at hl
      ·exact hne _ _ _ _ rfl
      ·rw [hn] at hl;exact hl
     ·exact hl
    cases aa with
    | box c o=>exact⟨_,hd⟩
    | oelt c z i o=>obtain⟨g,_,e⟩:=hd;exact⟨_,e⟩
    | elt t y o=>obtain⟨b,f,cs,e,_⟩:=hd;exact⟨_,e⟩
    | v y=>exact(no _ (fun _=>rfl) (by simp) hd H).elim
    | d t y=>exact(no _ (fun _=>rfl) (by simp) hd H).elim
    | own c=>exact(no _ (fun _=>rfl) (by simp) hd H).elim
    | dc t y=>exact(no _ (fun _=>rfl) (by simp) hd H).elim
   obtain⟨p,hp'⟩:=hpt
   rw [hp'] at hqe
   have e3:a.tmps.getD x undef=.pointer (some p):=hp'
   simp only [resOne,e3]
   exact hqe
  ·exact H.elim
theorem resultsA_run {P:Program} {fn:Func} {a:Act} {h:Heap} {rs:List ResultVar} (hr:fn.results.toList=rs) {us:List Value} (hl:us.length=rs.length) (hq:QExec P (rs.mapM (resOne a.tmps)) h us):QExec P (results fn a.tmps) h (packV us):=by
 intro B d
 have e0:results fn a.tmps=(fn.results.mapM (resOne a.tmps) >>= fun vs=>Pure.pure (if h:vs.size=1 then vs[0] else .tuple vs)):=by
  unfold results
  congr 1
 rw [e0,Array.mapM_eq_mapM_toList,hr,Sem.run_bind,Sem.run_map,hq B d]
 simp only [Result.andThen_ok,Sem.run_pure]
 match us,hl with
 | [],_=>rfl
 | [v],_=>rfl
 | v::u::vs,_=>simp [packV]
theorem argEA_facts {γ:Gh} {σ:Nat→Value}:∀ {l:List Arg} {i:Nat} {us:List Value},ArgsOK γ.M l us→(∀ j v,us[j]?=some v→σ (i+j)=v)→∀ x∈argEA i l,factA γ σ x
 | [],_,_,_,_,x,hx=>by cases hx
 | a::l,i,[],h,_,x,hx=>h.elim
 | a::l,i,u::us,h,hσ,x,hx=>by
  simp only [argEA,List.mem_cons] at hx
  rcases hx with rfl | hx
  ·refine⟨fun _=>?_,fun hn=>absurd trivial hn⟩
   have:=hσ 0 u rfl
   simp only at this ⊢
   rw [show σ i=u from this]
   exact gOf_den h.1
  ·exact argEA_facts h.2 (fun j v hj=>by have:=hσ (j+1) v (by simpa using hj);rwa [show i+(j+1)=i+1+j by omega] at this) x hx
theorem PC_of_code {P:Program} (hm:P.follows .mixedOrders=true) (gl:Fr) (tr:TypeId) (pl:PlanA) (args:List Arg) {f:FuncId} {fn:Func} {rs:List ResultVar} {n:Nat} {rt:List Ty} (hf:P.funcs[f]?=some fn) (hb:hasBody fn=true) (hr:fn.results.toList=rs) (hn:fn.ntmps=n)
  (hz:Nat.ble args.length n=true) {R:Els rt→Prop} (H:WA P gl tr n pl (codeOf fn) [] (endA P rs rt R) (argEA 0 args) []):PC P gl f args rt R:=by
 intro h M vs hgl hag hargs B d
 subst hn
 have hb':fn.body=some (codeOf fn):=by
  unfold hasBody at hb
  unfold codeOf
  split at hb
  ·rename_i c hc;rw [hc]
  ·cases hb
 refine calls_of_wp hf hb' ?_
 have hlen:vs.length=args.length:=(All2.length hargs).symm
 have hz':vs.length≤fn.ntmps:=by rw [hlen];exact Nat.le_of_ble_eq_true hz
 let γ:Gh:=⟨M,fun _=>0,fun _=>⟨none,0,0⟩⟩
 have I:Inv h (fun _=>False) M ([]++[]) γ h:={ ag:=hag,frame:=fun _ _ _=>rfl,size:=Nat.le_refl _,old:=fun _ _=>rfl,le:=Fr.le.refl _,den:=fun x hx=>(by cases hx),sep:=fun x hx=>(by cases hx),apart:=List.Pairwise.nil }
 have hs:SatA fn.ntmps (argEA 0 args) γ { tmps:=vs.toArray++Array.replicate (fn.ntmps - vs.toArray.size) undef,defers:=[] }:=by
  refine⟨rfl,by simp;omega,argEA_facts hargs fun j v hj=>?_⟩
  have hj':j < vs.length:=(List.getElem?_eq_some_iff.1 hj).1
  simp only [Nat.zero_add,vals,Array.getD_eq_getD_getElem?]
  rw [Array.getElem?_append_left (by simpa using hj')]
  simp [hj]
 have fin:∀ (e:EnvA) (C:CS) (γ':Gh) (h':Heap) (a:Act),SatA fn.ntmps e γ' a→Inv h (fun _=>False) M (C++[]) γ' h'→(resA P C e rs fun vs=>match collectEls (frzL (ownsVs vs) C) rt vs with | some r=>R r | none=>False) →
   ∃ v,QExec P (results fn a.tmps) h' v∧Keep h.size h h'∧∃ M' r,Fr.le M M'∧(∀ b,b < h.size→M' b=M b)∧AgM M' h'∧RetV M' rt r v∧R r:=by
  intro e C γ' h' a s1 I1 q
  rw [List.append_nil] at I1
  obtain⟨avs,us,hK,hd,hl,hq⟩:=resA_sound s1 I1 q
  split at hK
  ·rename_i r hc
   obtain⟨γ2,I2,g2⟩:=Inv.frzL (C:=C) (R:=[]) (γ:=γ') (ownsVs avs) (by simpa using I1)
   rw [List.append_nil] at I2
   refine⟨packV us,resultsA_run hr hl hq,⟨I2.size,fun i hi=>I2.frame i hi (fun h=>h)⟩,γ2.M,r,I2.le,I2.old,I2.ag,⟨us,collectEls_rd I2.fz hc (hd.imp fun v _ u hu=>hu.gx g2 rfl),rfl⟩,hK⟩
  ·exact hK.elim
 refine wp_mono (WA_sound hm hgl _ _ _ _ _ H γ h B d _ hs I) ?_
 rintro ex a w ⟨e1,C1,γ1,d1,h1,rfl,s1,I1,m1,g1,q1⟩
 cases ex with
 | normal=>
  obtain⟨v,hq,k,rest⟩:=fin e1 C1 γ1 h1 a s1 I1 q1
  exact⟨s1.defers,v,hq B d1,v,d1,h1,rfl,rfl,k,rest⟩
 | ret=>
  obtain⟨v,hq,k,rest⟩:=fin e1 C1 γ1 h1 a s1 I1 q1
  exact⟨s1.defers,v,hq B d1,v,d1,h1,rfl,rfl,k,rest⟩
 | _=>exact q1.elim
theorem PC_of_form {P:Program} (hm:P.follows .mixedOrders=true) (gl:Fr) (tr:TypeId) (pl:PlanA) (args:List Arg) {f:FuncId} {fn:Func} {rs:List ResultVar} {n:Nat} {rt:List Ty} (hf:P.funcs[f]?=some fn) (hb:hasBody fn=true) (hr:fn.results.toList=rs) (hn:fn.ntmps=n)
  (hz:Nat.ble args.length n=true) {R:Els rt→Prop} {F:Prop} (H:F) (e:F=WA P gl tr n pl (codeOf fn) [] (endA P rs rt R) (argEA 0 args) []):PC P gl f args rt R:=
 PC_of_code hm gl tr pl args hf hb hr hn hz (e ▸ H)
end Go.X
end
section
namespace Go.X
open Go Go.RowKit
set_option linter.unusedVariables false
theorem XC.of_calls {P:Program} {f:FuncId} {args:Array Value} {h:Heap} {R:Value→Heap→Prop}
  (H:∀ B d,Calls P f args (mk B d h) fun e w'=>∃ v,e=.returned v∧w'.os=B.os∧w'.tape=B.tape∧w'.output=B.output∧R v w'.heap):XC P f args h R:=by
 intro B d
 refine(H B d).mono ?_
 rintro e w' ⟨v,rfl,h1,h2,h3,h4⟩
 refine⟨v,w'.drawn,w'.heap,rfl,?_,h4⟩
 cases w';simp only [mk] at *;subst h1;subst h2;subst h3;rfl
theorem AgM.keep {M:Fr} {h h':Heap} (ag:AgM M h) (k:Keep h.size h h'):AgM M h':=fun b c e=>by
 obtain⟨T,m,e'⟩:=ag b c e
 exact⟨T,m,by rw [k.get b (ag.lt e)];exact e'⟩
def scalV:Arg→Option Value
 | ⟨.int k,x⟩=>some (.int k x)
 | ⟨.bool,x⟩=>some (.bool x)
 | ⟨.str,x⟩=>some (.string x)
 | _=>none
def scalVs:List Arg→Option (List Value)
 | []=>some []
 | a::l=>match scalV a,scalVs l with
  | some v,some vs=>some (v::vs)
  | _,_=>none
theorem scalV_eq {M:Fr} {a:Arg} {v u:Value} (h:scalV a=some v) (hd:RdV M a.t a.x u):u=v:=by
 obtain⟨t,x⟩:=a
 cases t with
 | int k=>simp only [scalV,Option.some.injEq] at h;subst h;simpa [RdV,Rd,aggT] using hd
 | bool=>simp only [scalV,Option.some.injEq] at h;subst h;simpa [RdV,Rd,aggT] using hd
 | str=>simp only [scalV,Option.some.injEq] at h;subst h;simpa [RdV,Rd,aggT] using hd
 | _=>simp [scalV] at h
theorem scalVs_eq {M:Fr}:∀ {l:List Arg} {vs us:List Value},scalVs l=some vs→ArgsOK M l us→us=vs
 | [],vs,us,h,hd=>by
  simp only [scalVs,Option.some.injEq] at h;subst h
  cases us with
  | nil=>rfl
  | cons _ _=>exact hd.elim
 | a::l,vs,us,h,hd=>by
  simp only [scalVs] at h
  split at h
  ·rename_i v vs' h1 h2
   simp only [Option.some.injEq] at h;subst h
   cases us with
   | nil=>exact hd.elim
   | cons u us=>rw [scalV_eq h1 hd.1,scalVs_eq h2 hd.2]
  ·cases h
theorem PC.of_scal {P:Program} {gl:Fr} {f:FuncId} {args:List Arg} {rt:List Ty} {R:Els rt→Prop} {us:List Value} (hargs:scalVs args=some us) {v:Value} {r:Els rt} (hv:∀ M,RetV M rt r v) (hR:R r)
  (H:∀ w:World,AgM gl w.heap→Calls P f us.toArray w fun e w'=>e=.returned v∧Below w.heap.size w w'):PC P gl f args rt R:=by
 intro h M vs hM ag ha
 rw [scalVs_eq hargs ha]
 refine XC.of_calls fun B d=>(H (mk B d h) fun b c e=>ag b c (hM b c e)).mono ?_
 rintro e w' ⟨rfl,bel⟩
 have k:Keep h.size h w'.heap:=⟨bel.size,bel.block⟩
 exact⟨v,rfl,bel.os,bel.tape,bel.output,k,M,r,Fr.le.refl _,fun _ _=>rfl,ag.keep k,hv M,hR⟩
theorem PC.of_same {P:Program} {gl:Fr} {f:FuncId} {args:List Arg} {rt:List Ty} {R:Els rt→Prop} {us:List Value} (hargs:scalVs args=some us) {v:Value} {r:Els rt} (hv:∀ M,RetV M rt r v) (hR:R r)
  (H:∀ w:World,AgM gl w.heap→Calls P f us.toArray w fun e w'=>e=.returned v∧w'=w):PC P gl f args rt R:=
 PC.of_scal hargs hv hR fun w hw=>(H w hw).mono fun e w' ⟨h1,h2⟩=>⟨h1,h2 ▸ Below.refl _ _⟩
theorem ret_int {M:Fr} (k:IntKind) (i:Int):RetV M [.int k] i (.int k i):=⟨[_],⟨_,rfl,rfl⟩,rfl⟩
theorem ret_bool {M:Fr} (b:Bool):RetV M [.bool] b (.bool b):=⟨[_],⟨_,rfl,rfl⟩,rfl⟩
theorem ret_str {M:Fr} (s:ByteArray):RetV M [.str] s (.string s):=⟨[_],⟨_,rfl,rfl⟩,rfl⟩
theorem AgM.glob {gl:Fr} {w:World} (ag:AgM gl w.heap) {b o:Nat} {cs:Array Value} {v:Value} (hb:gl b=some cs) (ho:cs[o]?=some v):w.cell? ⟨b,o,Option.none⟩=some v:=by
 obtain⟨T,m,e⟩:=ag b cs hb
 simp [World.cell?,e,ho]
theorem rowC_strs_eq {M:Fr} {xs:List ByteArray} {cells:List Value} (H:RowC M .str xs cells):cells=xs.map Value.string:=by
 obtain⟨h1,h2⟩:=H
 simp only [sz,Nat.mul_one] at h1 h2
 refine List.ext_getElem (by simp [h1]) fun i hi hj=>?_
 have hx:i < xs.length:=by omega
 have:=h2 i hx
 have e:(cells.drop i).take 1=[cells[i]]:=by rw [List.drop_eq_getElem_cons hi];rfl
 rw [e] at this
 have:=show [cells[i]]=[Value.string xs[i]] from this
 simpa using this
theorem PC.of_ex {P:Program} {gl:Fr} {f:FuncId} {args:List Arg} {rt:List Ty} {R:Els rt→Prop} {us:List Value} (hargs:scalVs args=some us)
  (H:∀ w:World,AgM gl w.heap→Calls P f us.toArray w fun e w'=>∃ v r,e=.returned v∧(∀ M,RetV M rt r v)∧R r∧Below w.heap.size w w'):PC P gl f args rt R:=by
 intro h M vs hM ag ha
 rw [scalVs_eq hargs ha]
 refine XC.of_calls fun B d=>(H (mk B d h) fun b c e=>ag b c (hM b c e)).mono ?_
 rintro e w' ⟨v,r,rfl,hv,hR,bel⟩
 have k:Keep h.size h w'.heap:=⟨bel.size,bel.block⟩
 exact⟨v,rfl,bel.os,bel.tape,bel.output,k,M,r,Fr.le.refl _,fun _ _=>rfl,ag.keep k,hv M,hR⟩
end Go.X
end
section
namespace Go.X
open Go Go.RowKit
set_option linter.unusedVariables false
def PX (P:Program) (f:FuncId) (vs:Array Value) (h:Heap) (M:Fr) (rt:List Ty) (R:Els rt→Prop):Prop:=
 XC P f vs h fun v h'=>Keep h.size h h'∧∃ M' r,Fr.le M M'∧(∀ b,b < h.size→M' b=M b)∧AgM M' h'∧RetV M' rt r v∧R r
theorem PC.px {P:Program} {gl:Fr} {f:FuncId} {args:List Arg} {rt:List Ty} {R:Els rt→Prop} (H:PC P gl f args rt R) {h:Heap} {M:Fr} {vs:List Value} (hM:Fr.le gl M) (ag:AgM M h) (ha:ArgsOK M args vs):PX P f vs.toArray h M rt R:=H h M vs hM ag ha
structure Later (h:Heap) (M:Fr) (h':Heap) (M':Fr):Prop where
 keep:Keep h.size h h'
 le:Fr.le M M'
 old:∀ b,b < h.size→M' b=M b
 ag:AgM M' h'
theorem Later.refl {h:Heap} {M:Fr} (ag:AgM M h):Later h M h M:=⟨Keep.refl _ _,Fr.le.refl _,fun _ _=>rfl,ag⟩
theorem Later.trans {h h' h'':Heap} {M M' M'':Fr} (a:Later h M h' M') (b:Later h' M' h'' M''):Later h M h'' M'':=
 ⟨a.keep.trans b.keep a.keep.size,a.le.trans b.le,fun x hx=>(b.old x (by have:=a.keep.size;omega)).trans (a.old x hx),b.ag⟩
theorem Later.same {h h':Heap} {M:Fr} (ag:AgM M h) (k:Keep h.size h h'):Later h M h' M:=⟨k,Fr.le.refl _,fun _ _=>rfl,ag.keep k⟩
theorem Later.push {h:Heap} {M:Fr} (ag:AgM M h) (o:Obj):Later h M (h.push o) M:=Later.same ag (Keep.push _ _ (Nat.le_refl _))
theorem PX.go {P:Program} {f:FuncId} {vs:Array Value} {h:Heap} {M:Fr} {rt:List Ty} {R:Els rt→Prop} {K:Value→Heap→Prop} (H:PX P f vs h M rt R) (hK:∀ v h' M' r,Later h M h' M'→RetV M' rt r v→R r→K v h'):XC P f vs h K:=
 XC.mono H fun v h' ⟨k,M',r,e1,e2,e3,e4,e5⟩=>hK v h' M' r ⟨k,e1,e2,e3⟩ e4 e5
theorem PX.of {P:Program} {f:FuncId} {vs:Array Value} {h:Heap} {M:Fr} {rt:List Ty} {R:Els rt→Prop} (H:XC P f vs h fun v h'=>∃ M' r,Later h M h' M'∧RetV M' rt r v∧R r):PX P f vs h M rt R:=
 XC.mono H fun v h' ⟨M',r,l,e4,e5⟩=>⟨l.keep,M',r,l.le,l.old,l.ag,e4,e5⟩
theorem PC.go {P:Program} {gl:Fr} {f:FuncId} {args:List Arg} {rt:List Ty} {R:Els rt→Prop} (H:PC P gl f args rt R) {h:Heap} {M:Fr} {vs:List Value} {K:Value→Heap→Prop} (hM:Fr.le gl M) (ag:AgM M h) (ha:ArgsOK M args vs)
  (hK:∀ v h' M' r,Later h M h' M'→RetV M' rt r v→R r→K v h'):XC P f vs.toArray h K:=(H.px hM ag ha).go hK
theorem rdv1 {M:Fr} {t:Ty} {x:El t} {u:Value} (ht:aggT t=false):RdV M t x u↔Rd M t x [u]:=by unfold RdV;rw [ht];simp
theorem ret1 {M:Fr} {t:Ty} {x:El t} {v:Value}:RetV M [t] x v↔RdV M t x v:=by
 constructor
 ·rintro⟨us,⟨u,rfl,h⟩,rfl⟩;exact h
 ·intro h;exact⟨[v],⟨v,rfl,h⟩,rfl⟩
theorem retB {M:Fr} {b:Bool} {v:Value} (h:RetV M [.bool] b v):v=.bool b:=by
 have:=ret1.1 h
 rw [rdv1 rfl] at this
 simpa [Rd] using this
theorem retI {M:Fr} {k:IntKind} {i:Int} {v:Value} (h:RetV M [.int k] i v):v=.int k i:=by
 have:=ret1.1 h
 rw [rdv1 rfl] at this
 simpa [Rd] using this
theorem args0 {M:Fr}:ArgsOK M [] []:=trivial
theorem args1 {M:Fr} {a:Arg} {u:Value} {l:List Arg} {us:List Value} (h:RdV M a.t a.x u) (hl:ArgsOK M l us):ArgsOK M (a::l) (u::us):=⟨h,hl⟩
theorem rdStr {M:Fr} (s:ByteArray):RdV M .str s (.string s):=by rw [rdv1 rfl];rfl
theorem rdInt {M:Fr} (k:IntKind) (i:Int):RdV M (.int k) i (.int k i):=by rw [rdv1 rfl];rfl
theorem rdBool {M:Fr} (b:Bool):RdV M .bool b (.bool b):=by rw [rdv1 rfl];rfl
theorem rdStr_eq {M:Fr} {s:ByteArray} {u:Value} (h:RdV M .str s u):u=.string s:=by rw [rdv1 rfl] at h;simpa [Rd] using h
theorem rdInt_eq {M:Fr} {k:IntKind} {i:Int} {u:Value} (h:RdV M (.int k) i u):u=.int k i:=by rw [rdv1 rfl] at h;simpa [Rd] using h
theorem rdTree {M:Fr} {v:Tr} {u:Value} (h:RdV M .tree v u):∃ sk si:Sl,u=.agg #[.int .i64 v.kind,.string v.text,slV sk,slV si]∧Rd M (.row .str) v.keys [slV sk]∧Rd M (.row .tree) v.items [slV si]:=by
 unfold RdV at h
 simp only [aggT,if_true] at h
 obtain⟨cs,rfl,hr⟩:=h
 obtain⟨vk,vi,rfl,h1,h2⟩:=TrRd.keys hr
 have h1':=h1;have h2':=h2
 obtain⟨w1,e1,a1,c1,q1,_⟩:=h1'
 obtain⟨w2,e2,a2,c2,q2,_⟩:=h2'
 simp only [List.cons.injEq,and_true] at e1 e2
 subst e1;subst e2;subst q1;subst q2
 exact⟨⟨a1,v.keys.length,c1⟩,⟨a2,v.items.length,c2⟩,rfl,h1,h2⟩
theorem rdTree_mk {M:Fr} {v:Tr} {sk si:Sl} (h1:Rd M (.row .str) v.keys [slV sk]) (h2:Rd M (.row .tree) v.items [slV si]):RdV M .tree v (.agg #[.int .i64 v.kind,.string v.text,slV sk,slV si]):=by
 unfold RdV
 simp only [aggT,if_true]
 exact⟨[.int .i64 v.kind,.string v.text,slV sk,slV si],rfl,by cases v;exact TrRd.of h1 h2⟩
theorem rdRow {M:Fr} {t:Ty} {xs:List (El t)} {u:Value} (h:RdV M (.row t) xs u):∃ s:Sl,u=slV s∧Rd M (.row t) xs [slV s]:=by
 rw [rdv1 rfl] at h
 have h':=h
 obtain⟨w,e,a,c,q,_⟩:=h'
 simp only [List.cons.injEq,and_true] at e
 subst e;subst q
 exact⟨⟨a,xs.length,c⟩,rfl,h⟩
theorem rowLen {M:Fr} {t:Ty} {xs:List (El t)} {s:Sl} (h:Rd M (.row t) xs [slV s]):s.len=xs.length∧xs.length≤140737488355328∧xs.length≤s.cap:=by
 obtain⟨w,e,a,c,q,hn,_⟩:=h
 simp only [List.cons.injEq,and_true] at e
 subst e
 simp only [slV,Value.slice.injEq] at q
 obtain⟨_,h2,h3⟩:=q
 exact⟨h2,hn.1,by rw [h3];exact hn.2⟩
theorem rowAt {M:Fr} {t:Ty} {xs:List (El t)} {s:Sl} (h:Rd M (.row t) xs [slV s]) {k:Nat} (hk:k < xs.length):∃ b o cs,s.a=some ⟨b,o,none⟩∧M b=some cs∧Rd M t xs[k] (cut cs (o+k*sz t) (sz t)):=by
 obtain⟨w,e,a,c,q,hn,hx⟩:=h
 simp only [List.cons.injEq,and_true] at e
 subst e
 simp only [slV,Value.slice.injEq] at q
 obtain⟨h1,h2,h3⟩:=q
 rcases hx with rfl | ⟨b,o,cs,e1,e2,e3⟩
 ·simp at hk
 ·exact⟨b,o,cs,by rw [h1,e1],e2,e3 k hk⟩
theorem ldCut {M:Fr} {h:Heap} (ag:AgM M h) {b:Nat} {cs:Array Value} (hM:M b=some cs):∀ {vs:List Value} {o i:Nat},cut cs (o+i) vs.length=vs→ldList h ⟨b,o,none⟩ i vs
 | [],_,_,_=>trivial
 | v::vs,o,i,e=>by
  unfold cut at e
  have hlt:o+i < cs.toList.length:=by
   rcases Nat.lt_or_ge (o+i) cs.toList.length with hh | hh
   ·exact hh
   ·rw [List.drop_eq_nil_of_le hh] at e;simp at e
  rw [List.drop_eq_getElem_cons hlt,List.length_cons,List.take_succ_cons] at e
  injection e with e1 e2
  refine⟨?_,ldCut ag hM (i:=i+1) e2⟩
  rw [add_none]
  refine ag.cell hM ?_
  rw [Array.getElem?_eq_getElem (by simpa using hlt),← e1];simp
theorem cellCut {M:Fr} {h:Heap} (ag:AgM M h) {b:Nat} {cs:Array Value} (hM:M b=some cs) {v:Value} {o:Nat} (e:cut cs o 1=[v]):cellH h ⟨b,o,none⟩=some v:=by
 have:=ldCut (vs:=[v]) (o:=o) (i:=0) ag hM (by simpa using e)
 exact this.1
theorem addM (b o n:Nat):(⟨b,o,none⟩:Addr).add n=⟨b,o+n,none⟩:=add_none b o n
theorem strAt {M:Fr} {h:Heap} (ag:AgM M h) {xs:List ByteArray} {s:Sl} (H:Rd M (.row .str) xs [slV s]) {k:Nat} (hk:k < xs.length) {i:Int} (hi:i=(k:Int)) {L:Nat} (hL:L=s.len) {Q:ByteArray→Prop} (hQ:Q xs[k]):
  ∃ a:Addr,(s.a=some a∧0≤i∧i < (L:Int))∧∃ x:ByteArray,cellH h (a.add (i.toNat*1))=some (.string x)∧Q x:=by
 obtain⟨b,o,cs,e1,e2,e3⟩:=rowAt H hk
 have hl:=(rowLen H).1
 refine⟨_,⟨e1,by omega,by omega⟩,xs[k],?_,hQ⟩
 rw [addM,hi,Int.toNat_natCast]
 exact cellCut ag e2 e3
theorem treeAt {M:Fr} {h:Heap} (ag:AgM M h) {xs:List Tr} {s:Sl} (H:Rd M (.row .tree) xs [slV s]) {k:Nat} (hk:k < xs.length):∃ (a:Addr) (sk si:Sl),s.a=some a∧ldList h (a.add (k*4)) 0 [.int .i64 xs[k].kind,.string xs[k].text,slV sk,slV si]∧Rd M (.row .str) xs[k].keys [slV sk]∧Rd M (.row .tree) xs[k].items [slV si]:=by
 obtain⟨b,o,cs,e1,e2,e3⟩:=rowAt H hk
 have e4:RdV M .tree xs[k] (.agg (cut cs (o+k*sz .tree) (sz .tree)).toArray):=by
  unfold RdV;simp only [aggT,if_true];exact⟨_,rfl,e3⟩
 obtain⟨sk,si,q,h1,h2⟩:=rdTree e4
 refine⟨_,sk,si,e1,?_,h1,h2⟩
 rw [addM]
 refine ldCut ag e2 (i:=0) ?_
 have:(cut cs (o+k*sz .tree) (sz .tree))=[.int .i64 xs[k].kind,.string xs[k].text,slV sk,slV si]:=by
  injection q with q
  exact congrArg Array.toList q
 exact this
def Mx (M:Fr) (b:Nat) (cs:Array Value):Fr:=fun i=>if i=b then some cs else M i
theorem Later.frz {h:Heap} {M:Fr} (ag:AgM M h) (cs:Array Value) (T:TypeId):Later h M (h.push (.cells cs T)) (Mx M h.size cs) where
 keep:=Keep.push _ _ (Nat.le_refl _)
 le:=fun b c e=>by
  have:=ag.lt e
  unfold Mx;rw [if_neg (by omega)];exact e
 old:=fun b hb=>by unfold Mx;rw [if_neg (by omega)]
 ag:=fun b c e=>by
  unfold Mx at e
  split at e
  ·rename_i hb
   subst hb
   cases e
   exact⟨T,(0,0),get_push _ _⟩
  ·obtain⟨T',m,e'⟩:=ag b c e
   exact⟨T',m,by rw [(Keep.push h _ (Nat.le_refl _)).get b (ag.lt e)];exact e'⟩
theorem mx_self (M:Fr) (b:Nat) (cs:Array Value):Mx M b cs b=some cs:=by unfold Mx;rw [if_pos rfl]
theorem ldNew {h h':Heap} {cs:List Value} {T:TypeId} (k:Keep (h.size+1) (h.push (.cells cs.toArray T)) h'):ldList h' ⟨h.size,0,none⟩ 0 cs:=
 ((Blk.new h cs.toArray T).keep (k.get _ (by omega))).ld
theorem cellNew {h h':Heap} {cs:List Value} {T:TypeId} (k:Keep (h.size+1) (h.push (.cells cs.toArray T)) h') {i:Nat} {v:Value} (hv:cs[i]?=some v):cellH h' ((⟨h.size,0,none⟩:Addr).add i)=some v:=by
 have:=((Blk.new h cs.toArray T).keep (k.get _ (by omega)))
 exact this.cellAdd (o:=0) (by simpa using hv)
end Go.X
end
section
namespace Go.X
open Go Go.ChangeShapes Go.WideShapes Go.RowKit
set_option linter.unusedVariables false
def Fz (W:World):Fr:=fun b=>match W.heap[b]? with | some (.cells cs _ _)=>some cs | _=>none
theorem Fz.ag (W:World):AgM (Fz W) W.heap:=by
 intro b c e
 unfold Fz at e
 split at e
 ·rename_i cs T m hh;cases e;exact⟨T,m,hh⟩
 ·cases e
theorem Fz.cell {W:World} {a:Addr} {v:Value} (h:W.cell? a=some v):∃ b o c,a=⟨b,o,none⟩∧Fz W b=some c∧c[o]?=some v:=by
 obtain⟨b,o,sp⟩:=a
 unfold World.cell? at h
 split at h
 ·rename_i c T m hh
  cases sp with
  | some x=>simp at h
  | none=>
   refine⟨b,o,c,rfl,?_,by simpa using h⟩
   unfold Fz
   change W.heap[b]?=_ at hh
   rw [hh]
 ·cases h
theorem Fz.cells {W:World} {a:Addr} {n:Nat} {cs:List Value} (h:W.cells? 0 a n=some cs) (hn:0 < n):∃ b o c,a=⟨b,o,none⟩∧Fz W b=some c∧cut c o n=cs:=by
 obtain⟨_,hl,hc⟩:=World.cells?_some h
 have h0:=hc 0 hn
 rw [List.getElem?_eq_getElem (by omega)] at h0
 obtain⟨b,o,c,e,hb,_⟩:=Fz.cell h0
 obtain⟨ab,ao,sp⟩:=a
 rw [show Addr.add ⟨ab,ao,sp⟩ 0=⟨ab,ao,sp⟩ from rfl] at e
 cases e
 refine⟨b,o,c,rfl,hb,?_⟩
 have hcell:∀ i,i < n→c[o+i]?=cs[i]?:=fun i hi=>by
  have h1:=hc i hi
  rw [List.getElem?_eq_getElem (by omega)] at h1 ⊢
  obtain⟨b2,o2,c2,e2,hb2,h2⟩:=Fz.cell h1
  rw [add_none] at e2
  cases e2
  rw [hb] at hb2;cases hb2
  exact h2
 unfold cut
 apply List.ext_getElem?
 intro i
 by_cases hi:i < n
 ·rw [List.getElem?_take,if_pos hi,List.getElem?_drop,← hcell i hi];simp
 ·rw [List.getElem?_take,if_neg hi,List.getElem?_eq_none (by omega)]
theorem list_of {α:Type} {Q:Nat→α→Prop} (n:Nat) (h:∀ i,i < n→∃ z,Q i z):∃ xs:List α,xs.length=n∧∀ i (hi:i < xs.length),Q i xs[i]:=by
 refine⟨List.ofFn fun i:Fin n=>Classical.choose (h i i.2),by simp,fun i hi=>?_⟩
 rw [List.getElem_ofFn]
 exact Classical.choose_spec (h i (by simpa using hi))
section
variable {H : Type} {enc : TypeId × Value → H} {P : Program} {W : World} {sp : Nat → Bool} {held : Bool}
def Small (P:Program) (t:TypeId) (d:DataW H):Prop:=∀ n∈d.weights P t,n≤reachBytes
theorem weights_all {e:TypeId} {y:DataW H}:∀ {l:List (DataW H)},y∈l→∀ n∈y.weights P e,n∈DataW.weightsAll P e l
 | x::l,hy,n,hn=>by
  unfold DataW.weightsAll
  rcases List.mem_cons.1 hy with rfl | hy
  ·exact List.mem_append_left _ hn
  ·exact List.mem_append_right _ (weights_all hy n hn)
theorem rd_row {fuel:Nat} {t e:TypeId} {T:Ty} {cs:List Value} {x:DataW H×List MemPlace} (ht:P.underlying t=some (.slice e)) (hz:P.cellsOf e=sz T) (hp:0 < sz T) (hby:0 < P.bytesOf e)
  (hel:∀ n,n < fuel→∀ cs y,DataW.trod enc P W 0 sp held n e cs=some y→Small P e y.1→∃ z:El T,Rd (Fz W) T z cs)
  (h:DataW.trod enc P W 0 sp held fuel t cs=some x) (hw:Small P t x.1):∃ xs:List (El T),Rd (Fz W) (.row T) xs cs:=by
 rcases DataW.trod_slice ht h with⟨rfl,_⟩| ⟨a,len,cap,elems,rest,n,rfl,rfl,hx,_,hlc,hcap,hlen,hi,_,_⟩
 ·exact⟨[],_,rfl,none,0,rfl,⟨by simp,by simp⟩,.inl rfl⟩
 ·have hwt:∀ m,m=(elems.length+rest.length)*P.bytesOf e∨m∈DataW.weightsAll P e (elems.map (·.1))→m≤reachBytes:=fun m hm=>hw m (by
   rw [hx]
   unfold DataW.weights
   rw [ht]
   simp only [List.mem_cons,List.mem_append,List.length_map]
   rcases hm with hm | hm
   ·exact .inl hm
   ·exact .inr (.inl hm))
  have hmax:len≤140737488355328:=by
   have h1:=hwt _ (.inl rfl)
   have h2:elems.length+rest.length≤(elems.length+rest.length)*P.bytesOf e:=Nat.le_mul_of_pos_right _ hby
   have h3:reachBytes≤140737488355328:=by decide
   omega
  have key:∀ i,i < len→∃ z:El T,∃ b o c,a.add (i*sz T)=⟨b,o,none⟩∧Fz W b=some c∧Rd (Fz W) T z (cut c o (sz T)):=fun i hil=>by
   have h1:=hi i hil
   rw [List.getElem?_eq_getElem (by omega),Option.bind_eq_some_iff] at h1
   obtain⟨cc,h2,h3⟩:=h1
   rw [hz] at h2
   obtain⟨b,o,c,e1,e2,e3⟩:=Fz.cells h2 hp
   obtain⟨z,hz⟩:=hel n (by omega) _ _ h3 fun m hm=>hwt m (.inr (weights_all (List.mem_map.2 ⟨elems[i],List.getElem_mem (by omega),rfl⟩) m hm))
   exact⟨z,b,o,c,e1,e2,by rw [e3];exact hz⟩
  obtain⟨xs,hxl,hxs⟩:=list_of len key
  subst hxl
  refine⟨xs,_,rfl,some a,cap,rfl,⟨by omega,hlc⟩,?_⟩
  by_cases h0:xs.length=0
  ·exact .inl (List.eq_nil_of_length_eq_zero h0)
  ·obtain⟨b,o,c,e1,e2,_⟩:=hxs 0 (by omega)
   obtain⟨ab,ao,asp⟩:=a
   rw [Nat.zero_mul,show Addr.add ⟨ab,ao,asp⟩ 0=⟨ab,ao,asp⟩ from rfl] at e1
   cases e1
   refine .inr ⟨b,o,c,rfl,e2,fun i hil=>?_⟩
   obtain⟨b',o',c',e1',e2',e3'⟩:=hxs i hil
   rw [add_none] at e1'
   cases e1'
   rw [e2] at e2';cases e2'
   simpa using e3'
theorem rd_str {fuel:Nat} {t:TypeId} {cs:List Value} {x:DataW H×List MemPlace} (ht:P.underlying t=some .string) (h:DataW.trod enc P W 0 sp held fuel t cs=some x):∃ s:El .str,Rd (Fz W) .str s cs:=by
 obtain⟨s,rfl,_,_⟩:=DataW.trod_string ht h
 exact⟨s,rfl⟩
theorem rd_int {fuel:Nat} {t:TypeId} {k:IntKind} {cs:List Value} {x:DataW H×List MemPlace} (ht:P.underlying t=some (.int k)) (h:DataW.trod enc P W 0 sp held fuel t cs=some x):∃ s:El (.int k),Rd (Fz W) (.int k) s cs:=by
 obtain⟨s,rfl,_,_⟩:=DataW.trod_int ht h
 exact⟨s,rfl⟩
theorem rd_strs {fuel:Nat} {t e:TypeId} {cs:List Value} {x:DataW H×List MemPlace} (ht:P.underlying t=some (.slice e)) (he:P.underlying e=some .string) (hc:P.cellsOf e=1) (hby:0 < P.bytesOf e)
  (h:DataW.trod enc P W 0 sp held fuel t cs=some x) (hw:Small P t x.1):∃ xs:List ByteArray,Rd (Fz W) (.row .str) xs cs:=
 rd_row (T:=.str) ht hc (by decide) hby (fun n _ cs y hy _=>rd_str he hy) h hw
theorem four {cs:List Value} {a b c d:Value} (hl:cs.length=4) (h0:(cs.drop 0).take 1=[a]) (h1:(cs.drop 1).take 1=[b]) (h2:(cs.drop 2).take 1=[c]) (h3:(cs.drop 3).take 1=[d]):cs=[a,b,c,d]:=by
 match cs,hl with
 | [w,x,y,z],_=>
  simp at h0 h1 h2 h3
  subst h0;subst h1;subst h2;subst h3;rfl
theorem rd_tree {tv ts tss tvs tk:TypeId} {f0 f1 f2 f3:Field} (hu:P.underlying tv=some (.struct #[f0,f1,f2,f3])) (hc:P.cellsOf tv=4)
  (t0:f0.type=tk∧f0.offset=0∧f1.type=ts∧f1.offset=1∧f2.type=tss∧f2.offset=2∧f3.type=tvs∧f3.offset=3)
  (uk:P.underlying tk=some (.int .i64)) (us:P.underlying ts=some .string) (uss:P.underlying tss=some (.slice ts)) (uvs:P.underlying tvs=some (.slice tv))
  (ck:P.cellsOf tk=1) (cs':P.cellsOf ts=1) (css:P.cellsOf tss=1) (cvs:P.cellsOf tvs=1) (bs:0 < P.bytesOf ts) (bv:0 < P.bytesOf tv):
  ∀ (fuel:Nat) (cs:List Value) (x:DataW H×List MemPlace),DataW.trod enc P W 0 sp held fuel tv cs=some x→Small P tv x.1→∃ t:Tr,Rd (Fz W) .tree t cs:=by
 intro fuel
 induction fuel using Nat.strongRecOn with
 | _ fuel ih=>
  intro cs x h hw
  obtain⟨xs,n,rfl,hx,hl,hxl,hall⟩:=DataW.trod_struct hu h
  have hwf:∀ (j:Nat) (f:Field) (hj:j < xs.length),(#[f0,f1,f2,f3]:Array Field)[j]?=some f→Small P f.type (xs[j]).1:=fun j f hj hf m hm=>hw m (by
   rw [hx]
   unfold DataW.weights
   rw [hu]
   exact DataW.weights_mem_each (j:=j) (t:=f.type) (d:=(xs[j]).1) (by rw [List.getElem?_map,Array.getElem?_toList,hf];rfl) (by rw [List.getElem?_map,List.getElem?_eq_getElem hj];rfl) m hm)
  obtain⟨a0,o0,a1,o1,a2,o2,a3,o3⟩:=t0
  have g0:=hall 0 f0 rfl
  have g1:=hall 1 f1 rfl
  have g2:=hall 2 f2 rfl
  have g3:=hall 3 f3 rfl
  have hxl':xs.length=4:=hxl
  rw [a0,o0,ck,List.getElem?_eq_getElem (by omega)] at g0
  rw [a1,o1,cs',List.getElem?_eq_getElem (by omega)] at g1
  rw [a2,o2,css,List.getElem?_eq_getElem (by omega)] at g2
  rw [a3,o3,cvs,List.getElem?_eq_getElem (by omega)] at g3
  obtain⟨k,e0⟩:=rd_int uk g0
  obtain⟨s,e1⟩:=rd_str us g1
  obtain⟨ks,e2⟩:=rd_strs uss us cs' bs g2 (by have:=hwf 2 f2 (by omega) rfl;rw [a2] at this;exact this)
  obtain⟨is,e3⟩:=rd_row (T:=.tree) uvs hc (by decide) bv (fun m hm cs y hy hsm=>ih m (by omega) cs y hy hsm) g3 (by have:=hwf 3 f3 (by omega) rfl;rw [a3] at this;exact this)
  obtain⟨vk,q2,h2⟩:=e2
  obtain⟨vi,q3,h3⟩:=e3
  have:=four (hl.trans hc) e0 e1 q2 q3
  subst this
  exact⟨.mk k s ks is,TrRd.of ⟨vk,rfl,h2⟩ ⟨vi,rfl,h3⟩⟩
end
theorem calls_of_PC {P:Program} {f:FuncId} {W:World} {args:List Arg} {vs:Array Value} (H:PC P (Fz W) f args [.bool] (fun r=>r=true)) (ha:ArgsOK (Fz W) args vs.toList):
  Calls P f vs W fun e w'=>e=.returned (.bool true)∧Below W.heap.size W w':=by
 have H':=H W.heap (Fz W) vs.toList (Fr.le.refl _) (Fz.ag W) ha
 rw [Array.toArray_toList] at H'
 refine(H' W W.drawn).mono ?_
 rintro e w' ⟨v,d',h',rfl,rfl,k,M',r,_,_,_,hr,hr'⟩
 have hr':r=true:=hr'
 subst hr'
 rw [retB hr]
 exact⟨rfl,rfl,rfl,rfl,k.size,k.get⟩
theorem arg_row {M:Fr} {T:Ty} {xs:List (El T)} {v:Value} (h:Rd M (.row T) xs [v]):RdV M (.row T) xs v:=by rw [rdv1 rfl];exact h
theorem arg_tree {M:Fr} {t:Tr} {cs:Array Value} (h:Rd M .tree t cs.toList):RdV M .tree t (.agg cs):=by
 unfold RdV;simp only [aggT,if_true];exact⟨cs.toList,by simp,h⟩
theorem Fz.var {P:Program} {W:World} {n:String} {g:Nat} {cs:Array Value} (hg:P.globalNamed n=some g) (h:W.var? P n=some cs):Fz W g=some cs:=by
 unfold World.var? at h
 rw [hg] at h
 exact h
end Go.X
end
section
namespace Go.Proofs
theorem Tryz.mixed:Tryz.prog.follows .mixedOrders=true:=by kernel_rfl
end Go.Proofs
end
section
namespace Go.Proofs.YtbploiccompocaaGreatDoor
open Go Go.X Go.Proofs
set_option linter.unusedVariables false
set_option maxRecDepth 100000
theorem pu_scarflaw07_Short (gl:Fr) (l0:List ByteArray) (R:Bool→Prop)
  (H:∃ (I_2:Int→Prop) (μ_3:Int→Nat),I_2 0∧∀ i3_1:Int,I_2 i3_1→(((bif (decide ((i3_1:Int) < ((List.length l0:Nat):Int))) then(decide ((i3_1:Int) < 300)) else false)=true→∃ y_5:ByteArray,(0≤(i3_1:Int)∧l0[(i3_1:Int).toNat]?=some y_5)∧((decide ((((y_5).size:Int):Int) > 1024))=true→R false)∧((decide ((((y_5).size:Int):Int) > 1024))=false→(I_2 (IntKind.wrap .i64 (i3_1+1))∧μ_3 (IntKind.wrap .i64 (i3_1+1)) < μ_3 i3_1)))∧((bif (decide ((i3_1:Int) < ((List.length l0:Nat):Int))) then(decide ((i3_1:Int) < 300)) else false)=false→R (decide ((((List.length l0:Nat):Int):Int)≤200))))):
  PC Tryz.prog gl 19 [Arg.mk (.row .str) l0] [.bool] R:=
 PC_of_form Tryz.mixed gl 25 ⟨[],[],[(2,⟨[(3,.one (.dat (.int .i64)))],[],[],[100192]⟩)],[]⟩ [Arg.mk (.row .str) l0] (rs:=[.tmp 2]) (n:=23) Tryz.func19 (by kernel_rfl) (by kernel_rfl) (by kernel_rfl) (by kernel_rfl) H (by kernel_rfl)
theorem pu_scarflaw06_Few (gl:Fr) (v0:Tr) (most1:Int) (R:Bool→Prop)
  (H:PC Tryz.prog gl 30 [Arg.mk .tree (Tr.mk v0.kind v0.text v0.keys v0.items),Arg.mk (.int .i64) most1,Arg.mk (.int .i64) 0] [.int .i64] (fun r_1:Int=>∃ J_2:Bool→Prop,((decide ((r_1:Int)≥0))=true→PC Tryz.prog gl 31 [Arg.mk .tree (Tr.mk v0.kind v0.text v0.keys v0.items)] [.bool] J_2)∧∀ r_3:Bool,((decide ((r_1:Int)≥0))=true→J_2 r_3)→R (bif (decide ((r_1:Int)≥0)) then r_3 else false))):
  PC Tryz.prog gl 10 [Arg.mk .tree v0,Arg.mk (.int .i64) most1] [.bool] R:=
 PC_of_form Tryz.mixed gl 25 ⟨[],[],[],[]⟩ [Arg.mk .tree v0,Arg.mk (.int .i64) most1] (rs:=[.tmp 4]) (n:=15) Tryz.func10 (by kernel_rfl) (by kernel_rfl) (by kernel_rfl) (by kernel_rfl) H (by kernel_rfl)
theorem pu_pointer_Find (gl:Fr) (v0:Tr) (path1:List ByteArray) (R:(Tr×Bool)→Prop)
  (H:PC Tryz.prog gl 42 [Arg.mk .tree (Tr.mk v0.kind v0.text v0.keys v0.items)] [.bool] (fun r_1:Bool=>∃ J_2:Bool→Prop,((!(!r_1))=true→PC Tryz.prog gl 37 [Arg.mk (.row .str) path1] [.bool] J_2)∧∀ r_3:Bool,((!(!r_1))=true→J_2 r_3)→((bif (!r_1) then true else(!r_3))=true→R (Tr.mk 0 (⟨#[]⟩:ByteArray) ([]:List ByteArray) ([]:List Tr),false))∧((bif (!r_1) then true else(!r_3))=false→PC Tryz.prog gl 43 [Arg.mk .tree (Tr.mk v0.kind v0.text v0.keys v0.items),Arg.mk (.row .str) path1] [.row (.int .i64),.tree,.bool] (fun r_4:(List Int)×Tr×Bool=>((!r_4.2.2)=true→R (Tr.mk 0 (⟨#[]⟩:ByteArray) ([]:List ByteArray) ([]:List Tr),false))∧((!r_4.2.2)=false→PC Tryz.prog gl 32 [Arg.mk .tree (Tr.mk r_4.2.1.kind r_4.2.1.text r_4.2.1.keys r_4.2.1.items)] [.tree] (fun r_5:Tr=>R (Tr.mk r_5.kind r_5.text r_5.keys r_5.items,true))))))):
  PC Tryz.prog gl 20 [Arg.mk .tree v0,Arg.mk (.row .str) path1] [.tree,.bool] R:=
 PC_of_form Tryz.mixed gl 25 ⟨[],[],[],[]⟩ [Arg.mk .tree v0,Arg.mk (.row .str) path1] (rs:=[.cell 4 25,.tmp 5]) (n:=30) Tryz.func20 (by kernel_rfl) (by kernel_rfl) (by kernel_rfl) (by kernel_rfl) H (by kernel_rfl)
theorem pu_scarfref06_Equal (gl:Fr) (a0:Tr) (b1:Tr) (R:Bool→Prop)
  (H:((bif (bif (bif ((a0.kind:Int) != b1.kind) then true else(!((a0.text:ByteArray).toList==(b1.text:ByteArray).toList))) then true else((((List.length a0.keys:Nat):Int):Int) != ((List.length b1.keys:Nat):Int))) then true else((((List.length a0.items:Nat):Int):Int) != ((List.length b1.items:Nat):Int)))=true→R false)∧((bif (bif (bif ((a0.kind:Int) != b1.kind) then true else(!((a0.text:ByteArray).toList==(b1.text:ByteArray).toList))) then true else((((List.length a0.keys:Nat):Int):Int) != ((List.length b1.keys:Nat):Int))) then true else((((List.length a0.items:Nat):Int):Int) != ((List.length b1.items:Nat):Int)))=false→∃ (I_2:Int→Prop) (μ_3:Int→Nat),I_2 0∧∀ i5_1:Int,I_2 i5_1→(((decide ((i5_1:Int) < ((List.length a0.keys:Nat):Int)))=true→∃ y_15:ByteArray,(0≤(i5_1:Int)∧a0.keys[(i5_1:Int).toNat]?=some y_15)∧∃ y_16:ByteArray,(0≤(i5_1:Int)∧b1.keys[(i5_1:Int).toNat]?=some y_16)∧((!((y_15:ByteArray).toList==(y_16:ByteArray).toList))=true→R false)∧((!((y_15:ByteArray).toList==(y_16:ByteArray).toList))=false→(I_2 (IntKind.wrap .i64 (i5_1+1))∧μ_3 (IntKind.wrap .i64 (i5_1+1)) < μ_3 i5_1)))∧((decide ((i5_1:Int) < ((List.length a0.keys:Nat):Int)))=false→∃ (I_18:Int→Prop) (μ_19:Int→Nat),I_18 0∧∀ i6_17:Int,I_18 i6_17→(((decide ((i6_17:Int) < ((List.length a0.items:Nat):Int)))=true→∃ y_23:Tr,(0≤(i6_17:Int)∧a0.items[(i6_17:Int).toNat]?=some y_23)∧∃ y_24:Tr,(0≤(i6_17:Int)∧b1.items[(i6_17:Int).toNat]?=some y_24)∧PC Tryz.prog gl 15 [Arg.mk .tree (Tr.mk y_23.kind y_23.text y_23.keys y_23.items),Arg.mk .tree (Tr.mk y_24.kind y_24.text y_24.keys y_24.items)] [.bool] (fun r_25:Bool=>((!r_25)=true→R false)∧((!r_25)=false→(I_18 (IntKind.wrap .i64 (i6_17+1))∧μ_19 (IntKind.wrap .i64 (i6_17+1)) < μ_19 i6_17))))∧((decide ((i6_17:Int) < ((List.length a0.items:Nat):Int)))=false→R true)))))):
  PC Tryz.prog gl 15 [Arg.mk .tree a0,Arg.mk .tree b1] [.bool] R:=
 PC_of_form Tryz.mixed gl 25 ⟨[(11,10)],[],[(4,⟨[(5,.one (.dat (.int .i64)))],[],[2,3],[100320]⟩),(9,⟨[(6,.one (.dat (.int .i64)))],[],[2,3],[100384]⟩)],[]⟩ [Arg.mk .tree a0,Arg.mk .tree b1] (rs:=[.tmp 4]) (n:=76) Tryz.func15 (by kernel_rfl) (by kernel_rfl) (by kernel_rfl) (by kernel_rfl) H (by kernel_rfl)
theorem pu_pointer_Index (gl:Fr) (step0:ByteArray) (R:(Int×Bool)→Prop)
  (H:(((!(bif ((step0:ByteArray).toList==((⟨#[]⟩:ByteArray):ByteArray).toList) then true else(decide ((((step0).size:Int):Int) > 9)))) && (!((step0:ByteArray).toList==((⟨#[48]⟩:ByteArray):ByteArray).toList)))=true→(0≤(0:Int)∧(0:Int) < ((step0).size:Int)))∧∃ J_1:Bool→Prop,((!(bif (bif ((step0:ByteArray).toList==((⟨#[]⟩:ByteArray):ByteArray).toList) then true else(decide ((((step0).size:Int):Int) > 9))) then true else(bif (!((step0:ByteArray).toList==((⟨#[48]⟩:ByteArray):ByteArray).toList)) then((byteAt step0 (0:Int).toNat:Int)==48) else false)))=true→PC Tryz.prog gl 172 [Arg.mk .str step0,Arg.mk .str (⟨#[43,45,95]⟩:ByteArray)] [.bool] J_1)∧∀ r_2:Bool,((!(bif (bif ((step0:ByteArray).toList==((⟨#[]⟩:ByteArray):ByteArray).toList) then true else(decide ((((step0).size:Int):Int) > 9))) then true else(bif (!((step0:ByteArray).toList==((⟨#[48]⟩:ByteArray):ByteArray).toList)) then((byteAt step0 (0:Int).toNat:Int)==48) else false)))=true→J_1 r_2)→((bif (bif (bif ((step0:ByteArray).toList==((⟨#[]⟩:ByteArray):ByteArray).toList) then true else(decide ((((step0).size:Int):Int) > 9))) then true else(bif (!((step0:ByteArray).toList==((⟨#[48]⟩:ByteArray):ByteArray).toList)) then((byteAt step0 (0:Int).toNat:Int)==48) else false)) then true else r_2)=true→R (0,false))∧((bif (bif (bif ((step0:ByteArray).toList==((⟨#[]⟩:ByteArray):ByteArray).toList) then true else(decide ((((step0).size:Int):Int) > 9))) then true else(bif (!((step0:ByteArray).toList==((⟨#[48]⟩:ByteArray):ByteArray).toList)) then((byteAt step0 (0:Int).toNat:Int)==48) else false)) then true else r_2)=false→PC Tryz.prog gl 173 [Arg.mk .str step0] [.int .i64,.err] (fun r_3:Int×Bool=>((!r_3.2)=true→R (0,false))∧((!r_3.2)=false→R (r_3.1,true))))):
  PC Tryz.prog gl 145 [Arg.mk .str step0] [.int .i64,.bool] R:=
 PC_of_form Tryz.mixed gl 25 ⟨[],[],[],[]⟩ [Arg.mk .str step0] (rs:=[.tmp 2,.tmp 3]) (n:=34) Tryz.func145 (by kernel_rfl) (by kernel_rfl) (by kernel_rfl) (by kernel_rfl) H (by kernel_rfl)
theorem pu_scarflaw06_Map (gl:Fr) (keys0:List ByteArray) (l1:List Tr) (R:Tr→Prop)
  (H:R (Tr.mk 6 (⟨#[]⟩:ByteArray) keys0 l1)):
  PC Tryz.prog gl 28 [Arg.mk (.row .str) keys0,Arg.mk (.row .tree) l1] [.tree] R:=
 PC_of_form Tryz.mixed gl 25 ⟨[],[],[],[]⟩ [Arg.mk (.row .str) keys0,Arg.mk (.row .tree) l1] (rs:=[.cell 4 25]) (n:=8) Tryz.func28 (by kernel_rfl) (by kernel_rfl) (by kernel_rfl) (by kernel_rfl) H (by kernel_rfl)
theorem pu_scarflaw06_Row (gl:Fr) (l0:List Tr) (R:Tr→Prop)
  (H:R (Tr.mk 5 (⟨#[]⟩:ByteArray) ([]:List ByteArray) l0)):
  PC Tryz.prog gl 29 [Arg.mk (.row .tree) l0] [.tree] R:=
 PC_of_form Tryz.mixed gl 25 ⟨[],[],[],[]⟩ [Arg.mk (.row .tree) l0] (rs:=[.cell 2 25]) (n:=5) Tryz.func29 (by kernel_rfl) (by kernel_rfl) (by kernel_rfl) (by kernel_rfl) H (by kernel_rfl)
theorem pu_value_Num (gl:Fr) (n0:Int) (R:Tr→Prop)
  (H:PC Tryz.prog gl 57 [Arg.mk (.int .i64) n0] [.pair .bool (.pair .str (.int .i64))] (fun r_1:Bool×ByteArray×Int=>PC Tryz.prog gl 56 [Arg.mk (.pair .bool (.pair .str (.int .i64))) (r_1.1,(r_1.2.1,r_1.2.2))] [.str] (fun r_2:ByteArray=>R (Tr.mk 3 r_2 ([]:List ByteArray) ([]:List Tr))))):
  PC Tryz.prog gl 27 [Arg.mk (.int .i64) n0] [.tree] R:=
 PC_of_form Tryz.mixed gl 25 ⟨[],[],[],[]⟩ [Arg.mk (.int .i64) n0] (rs:=[.cell 2 25]) (n:=7) Tryz.func27 (by kernel_rfl) (by kernel_rfl) (by kernel_rfl) (by kernel_rfl) H (by kernel_rfl)
theorem pu_pointer_plain (gl:Fr) (s0:ByteArray) (R:Bool→Prop)
  (H:PC Tryz.prog gl 113 [Arg.mk .str s0] [.int .i64,.bool] (fun r_1:Int×Bool=>R r_1.2)):
  PC Tryz.prog gl 75 [Arg.mk .str s0] [.bool] R:=
 PC_of_form Tryz.mixed gl 25 ⟨[],[],[],[]⟩ [Arg.mk .str s0] (rs:=[.tmp 2]) (n:=11) Tryz.func75 (by kernel_rfl) (by kernel_rfl) (by kernel_rfl) (by kernel_rfl) H (by kernel_rfl)
theorem pu_scarflaw06_few (gl:Fr) (v0:Tr) (left1:Int) (deep2:Int) (R:Int→Prop)
  (H:((decide ((deep2:Int) > 60))=true→R (-1))∧((decide ((deep2:Int) > 60))=false→∃ (I_3:Int→Int→Prop) (μ_4:Int→Int→Nat),I_3 (IntKind.wrap .i64 ((IntKind.wrap .i64 (left1 - 1)) - ((List.length v0.keys:Nat):Int))) 0∧∀ left1_1:Int,∀ i7_2:Int,I_3 left1_1 i7_2→(((bif (decide ((i7_2:Int) < ((List.length v0.items:Nat):Int))) then(decide ((left1_1:Int)≥0)) else false)=true→∃ y_7:Tr,(0≤(i7_2:Int)∧v0.items[(i7_2:Int).toNat]?=some y_7)∧PC Tryz.prog gl 30 [Arg.mk .tree (Tr.mk y_7.kind y_7.text y_7.keys y_7.items),Arg.mk (.int .i64) left1_1,Arg.mk (.int .i64) (IntKind.wrap .i64 (deep2+1))] [.int .i64] (fun r_8:Int=>(I_3 r_8 (IntKind.wrap .i64 (i7_2+1))∧μ_4 r_8 (IntKind.wrap .i64 (i7_2+1)) < μ_4 left1_1 i7_2)))∧((bif (decide ((i7_2:Int) < ((List.length v0.items:Nat):Int))) then(decide ((left1_1:Int)≥0)) else false)=false→R left1_1)))):
  PC Tryz.prog gl 30 [Arg.mk .tree v0,Arg.mk (.int .i64) left1,Arg.mk (.int .i64) deep2] [.int .i64] R:=
 PC_of_form Tryz.mixed gl 25 ⟨[],[],[(5,⟨[(1,.one (.dat (.int .i64))),(7,.one (.dat (.int .i64)))],[],[3],[100064,100448]⟩)],[]⟩ [Arg.mk .tree v0,Arg.mk (.int .i64) left1,Arg.mk (.int .i64) deep2] (rs:=[.tmp 6]) (n:=37) Tryz.func30 (by kernel_rfl) (by kernel_rfl) (by kernel_rfl) (by kernel_rfl) H (by kernel_rfl)
theorem pu_scarflaw06_short (gl:Fr) (v0:Tr) (R:Bool→Prop)
  (H:((decide ((((v0.text).size:Int):Int) > 2048))=true→R false)∧((decide ((((v0.text).size:Int):Int) > 2048))=false→∃ (I_2:Int→Prop) (μ_3:Int→Nat),I_2 0∧∀ i3_1:Int,I_2 i3_1→(((decide ((i3_1:Int) < ((List.length v0.keys:Nat):Int)))=true→∃ y_12:ByteArray,(0≤(i3_1:Int)∧v0.keys[(i3_1:Int).toNat]?=some y_12)∧((decide ((((y_12).size:Int):Int) > 1024))=true→R false)∧((decide ((((y_12).size:Int):Int) > 1024))=false→(I_2 (IntKind.wrap .i64 (i3_1+1))∧μ_3 (IntKind.wrap .i64 (i3_1+1)) < μ_3 i3_1)))∧((decide ((i3_1:Int) < ((List.length v0.keys:Nat):Int)))=false→∃ (I_14:Int→Prop) (μ_15:Int→Nat),I_14 0∧∀ i4_13:Int,I_14 i4_13→(((decide ((i4_13:Int) < ((List.length v0.items:Nat):Int)))=true→∃ y_18:Tr,(0≤(i4_13:Int)∧v0.items[(i4_13:Int).toNat]?=some y_18)∧PC Tryz.prog gl 31 [Arg.mk .tree (Tr.mk y_18.kind y_18.text y_18.keys y_18.items)] [.bool] (fun r_19:Bool=>((!r_19)=true→R false)∧((!r_19)=false→(I_14 (IntKind.wrap .i64 (i4_13+1))∧μ_15 (IntKind.wrap .i64 (i4_13+1)) < μ_15 i4_13))))∧((decide ((i4_13:Int) < ((List.length v0.items:Nat):Int)))=false→R true)))))):
  PC Tryz.prog gl 31 [Arg.mk .tree v0] [.bool] R:=
 PC_of_form Tryz.mixed gl 25 ⟨[],[],[(4,⟨[(3,.one (.dat (.int .i64)))],[],[1],[100192]⟩),(9,⟨[(4,.one (.dat (.int .i64)))],[],[1],[100256]⟩)],[]⟩ [Arg.mk .tree v0] (rs:=[.tmp 2]) (n:=39) Tryz.func31 (by kernel_rfl) (by kernel_rfl) (by kernel_rfl) (by kernel_rfl) H (by kernel_rfl)
theorem pu_number_Text (gl:Fr) (n0:Bool×ByteArray×Int) (R:ByteArray→Prop)
  (H:PC Tryz.prog gl 96 [Arg.mk (.pair .bool (.pair .str (.int .i64))) (n0.1,(n0.2.1,n0.2.2))] [.bool] (fun r_1:Bool=>((!r_1)=true→R (⟨#[]⟩:ByteArray))∧((!r_1)=false→(((n0.2.1:ByteArray).toList==((⟨#[]⟩:ByteArray):ByteArray).toList)=true→R (⟨#[48]⟩:ByteArray))∧(((n0.2.1:ByteArray).toList==((⟨#[]⟩:ByteArray):ByteArray).toList)=false→∀ K_3:ByteArray→Prop,(∀ s3_2:ByteArray,((((n0.2.2:Int) != 0)=true→PC Tryz.prog gl 97 [Arg.mk (.int .i64) n0.2.2] [.str] (fun r_4:ByteArray=>fits63 (((⟨#[101]⟩:ByteArray)).size+(r_4).size)∧fits63 ((s3_2).size+((⟨#[101]⟩:ByteArray)++r_4).size)∧R (s3_2++((⟨#[101]⟩:ByteArray)++r_4))))∧(((n0.2.2:Int) != 0)=false→R s3_2))→K_3 s3_2)→(n0.1=true→fits63 (((⟨#[45]⟩:ByteArray)).size+(n0.2.1).size)∧K_3 ((⟨#[45]⟩:ByteArray)++n0.2.1))∧(n0.1=false→K_3 n0.2.1))))):
  PC Tryz.prog gl 56 [Arg.mk (.pair .bool (.pair .str (.int .i64))) n0] [.str] R:=
 PC_of_form Tryz.mixed gl 25 ⟨[],[],[],[(8,⟨[(3,.one (.dat .str))],[],[1],[100192]⟩)]⟩ [Arg.mk (.pair .bool (.pair .str (.int .i64))) n0] (rs:=[.tmp 2]) (n:=26) Tryz.func56 (by kernel_rfl) (by kernel_rfl) (by kernel_rfl) (by kernel_rfl) H (by kernel_rfl)
theorem pu_number_Of (gl:Fr) (n0:Int) (R:(Bool×ByteArray×Int)→Prop)
  (H:PC Tryz.prog gl 97 [Arg.mk (.int .i64) n0] [.str] (fun r_1:ByteArray=>PC Tryz.prog gl 98 [Arg.mk .str r_1] [.pair .bool (.pair .str (.int .i64)),.int .i64] (fun r_2:(Bool×ByteArray×Int)×Int=>R (r_2.1.1,(r_2.1.2.1,r_2.1.2.2))))):
  PC Tryz.prog gl 57 [Arg.mk (.int .i64) n0] [.pair .bool (.pair .str (.int .i64))] R:=
 PC_of_form Tryz.mixed gl 25 ⟨[],[],[],[]⟩ [Arg.mk (.int .i64) n0] (rs:=[.cell 2 78]) (n:=12) Tryz.func57 (by kernel_rfl) (by kernel_rfl) (by kernel_rfl) (by kernel_rfl) H (by kernel_rfl)
theorem pu_runes_Valid (gl:Fr) (s0:ByteArray) (R:(Int×Bool)→Prop)
  (H:PC Tryz.prog gl 141 [Arg.mk .str s0] [.bool] (fun r_1:Bool=>(r_1=true→R (((s0).size:Int),true))∧(r_1=false→∃ (I_3:(ByteArray×Nat)→Prop) (μ_4:(ByteArray×Nat)→Nat),I_3 (s0,0)∧∀ b13_0_2:ByteArray×Nat,I_3 b13_0_2→(((nxB b13_0_2.1 b13_0_2.2)=true→(nxB b13_0_2.1 b13_0_2.2)=true∧(nxB b13_0_2.1 b13_0_2.2)=true∧(((nxR b13_0_2.1 b13_0_2.2:Int) != 65533)=true→(I_3 (b13_0_2.1,nxP b13_0_2.1 b13_0_2.2)∧μ_4 (b13_0_2.1,nxP b13_0_2.1 b13_0_2.2) < μ_4 b13_0_2))∧(((nxR b13_0_2.1 b13_0_2.2:Int) != 65533)=false→(0≤(((b13_0_2.2:Nat):Int):Int)∧(((b13_0_2.2:Nat):Int):Int)≤((s0).size:Int)∧(((s0).size:Int):Int)≤((s0).size:Int))∧PC Tryz.prog gl 142 [Arg.mk .str ((s0).extract (((b13_0_2.2:Nat):Int):Int).toNat (((s0).size:Int):Int).toNat)] [.int .i32,.int .i64] (fun r_6:Int×Int=>(((r_6.2:Int)==1)=true→R (((b13_0_2.2:Nat):Int),false))∧(((r_6.2:Int)==1)=false→(I_3 (b13_0_2.1,nxP b13_0_2.1 b13_0_2.2)∧μ_4 (b13_0_2.1,nxP b13_0_2.1 b13_0_2.2) < μ_4 b13_0_2)))))∧((nxB b13_0_2.1 b13_0_2.2)=false→R (((s0).size:Int),true)))))):
  PC Tryz.prog gl 113 [Arg.mk .str s0] [.int .i64,.bool] R:=
 PC_of_form Tryz.mixed gl 25 ⟨[],[],[(4,⟨[],[(13,[.dat .iter])],[],[1000832]⟩)],[]⟩ [Arg.mk .str s0] (rs:=[.tmp 2,.tmp 3]) (n:=32) Tryz.func113 (by kernel_rfl) (by kernel_rfl) (by kernel_rfl) (by kernel_rfl) H (by kernel_rfl)
theorem pu_value_sized (gl:Fr) (v0:Tr) (R:Bool→Prop)
  (H:PC Tryz.prog gl 78 [Arg.mk .tree (Tr.mk v0.kind v0.text v0.keys v0.items)] [.int .i64] (fun r_1:Int=>∃ J_2:Int→Prop,((decide ((r_1:Int)≤4096))=true→PC Tryz.prog gl 79 [Arg.mk .tree (Tr.mk v0.kind v0.text v0.keys v0.items)] [.int .i64] J_2)∧∀ r_3:Int,((decide ((r_1:Int)≤4096))=true→J_2 r_3)→R (bif (decide ((r_1:Int)≤4096)) then(decide ((r_3:Int)≤32)) else false))):
  PC Tryz.prog gl 44 [Arg.mk .tree v0] [.bool] R:=
 PC_of_form Tryz.mixed gl 25 ⟨[],[],[],[]⟩ [Arg.mk .tree v0] (rs:=[.tmp 2]) (n:=11) Tryz.func44 (by kernel_rfl) (by kernel_rfl) (by kernel_rfl) (by kernel_rfl) H (by kernel_rfl)
theorem pu_value_node (gl:Fr) (v0:Tr) (R:Bool→Prop)
  (H:(((v0.kind:Int)==5)=true→R (bif (!(decide ((((List.length v0.keys:Nat):Int):Int) > 0))) then((v0.text:ByteArray).toList==((⟨#[]⟩:ByteArray):ByteArray).toList) else false))∧(((v0.kind:Int)==5)=false→(((v0.kind:Int)==6)=true→PC Tryz.prog gl 82 [Arg.mk (.row .str) v0.keys,Arg.mk (.int .i64) ((List.length v0.items:Nat):Int)] [.bool] (fun r_1:Bool=>R (bif r_1 then((v0.text:ByteArray).toList==((⟨#[]⟩:ByteArray):ByteArray).toList) else false)))∧(((v0.kind:Int)==6)=false→((bif (decide ((((List.length v0.keys:Nat):Int):Int) > 0)) then true else(decide ((((List.length v0.items:Nat):Int):Int) > 0)))=true→R false)∧((bif (decide ((((List.length v0.keys:Nat):Int):Int) > 0)) then true else(decide ((((List.length v0.items:Nat):Int):Int) > 0)))=false→(((v0.kind:Int)==1)=true→R ((v0.text:ByteArray).toList==((⟨#[]⟩:ByteArray):ByteArray).toList))∧(((v0.kind:Int)==1)=false→(((v0.kind:Int)==2)=true→R (bif ((v0.text:ByteArray).toList==((⟨#[116,114,117,101]⟩:ByteArray):ByteArray).toList) then true else((v0.text:ByteArray).toList==((⟨#[102,97,108,115,101]⟩:ByteArray):ByteArray).toList)))∧(((v0.kind:Int)==2)=false→(((v0.kind:Int)==3)=true→PC Tryz.prog gl 83 [Arg.mk .str v0.text] [.pair .bool (.pair .str (.int .i64)),.bool] (fun r_2:(Bool×ByteArray×Int)×Bool=>R r_2.2))∧(((v0.kind:Int)==3)=false→(((v0.kind:Int)==4)=true→PC Tryz.prog gl 84 [Arg.mk .str v0.text] [.bool] (fun r_3:Bool=>R r_3))∧(((v0.kind:Int)==4)=false→(((v0.kind:Int)==7)=true→PC Tryz.prog gl 85 [Arg.mk .str v0.text] [.bool] (fun r_4:Bool=>R r_4))∧(((v0.kind:Int)==7)=false→R false))))))))):
  PC Tryz.prog gl 47 [Arg.mk .tree v0] [.bool] R:=
 PC_of_form Tryz.mixed gl 25 ⟨[],[],[],[]⟩ [Arg.mk .tree v0] (rs:=[.tmp 2]) (n:=79) Tryz.func47 (by kernel_rfl) (by kernel_rfl) (by kernel_rfl) (by kernel_rfl) H (by kernel_rfl)
theorem pu_number_Right (gl:Fr) (n0:Bool×ByteArray×Int) (R:Bool→Prop)
  (H:(((n0.1==false) && (((n0.2.1:ByteArray).toList==((⟨#[]⟩:ByteArray):ByteArray).toList) && (((n0.2.2:Int)==0) && true)))=true→R true)∧(((n0.1==false) && (((n0.2.1:ByteArray).toList==((⟨#[]⟩:ByteArray):ByteArray).toList) && (((n0.2.2:Int)==0) && true)))=false→PC Tryz.prog gl 128 [Arg.mk .str n0.2.1] [.bool] (fun r_1:Bool=>((!r_1)=true→((!r_1)=true→R false)∧((!r_1)=false→R (bif (decide ((n0.2.2:Int)≥(-1000000))) then(decide ((n0.2.2:Int)≤1000000)) else false)))∧((!r_1)=false→((decide ((((n0.2.1).size:Int):Int) > 1000))=true→((decide ((((n0.2.1).size:Int):Int) > 1000))=true→R false)∧((decide ((((n0.2.1).size:Int):Int) > 1000))=false→R (bif (decide ((n0.2.2:Int)≥(-1000000))) then(decide ((n0.2.2:Int)≤1000000)) else false)))∧((decide ((((n0.2.1).size:Int):Int) > 1000))=false→(0≤(0:Int)∧(0:Int) < ((n0.2.1).size:Int))∧(((byteAt n0.2.1 (0:Int).toNat:Int)==48)=true→(((byteAt n0.2.1 (0:Int).toNat:Int)==48)=true→R false)∧(((byteAt n0.2.1 (0:Int).toNat:Int)==48)=false→R (bif (decide ((n0.2.2:Int)≥(-1000000))) then(decide ((n0.2.2:Int)≤1000000)) else false)))∧(((byteAt n0.2.1 (0:Int).toNat:Int)==48)=false→(0≤(IntKind.wrap .i64 (((n0.2.1).size:Int) - 1):Int)∧(IntKind.wrap .i64 (((n0.2.1).size:Int) - 1):Int) < ((n0.2.1).size:Int))∧(((byteAt n0.2.1 (IntKind.wrap .i64 (((n0.2.1).size:Int) - 1):Int).toNat:Int)==48)=true→R false)∧(((byteAt n0.2.1 (IntKind.wrap .i64 (((n0.2.1).size:Int) - 1):Int).toNat:Int)==48)=false→R (bif (decide ((n0.2.2:Int)≥(-1000000))) then(decide ((n0.2.2:Int)≤1000000)) else false)))))))):
  PC Tryz.prog gl 96 [Arg.mk (.pair .bool (.pair .str (.int .i64))) n0] [.bool] R:=
 PC_of_form Tryz.mixed gl 25 ⟨[],[],[],[]⟩ [Arg.mk (.pair .bool (.pair .str (.int .i64))) n0] (rs:=[.tmp 2]) (n:=34) Tryz.func96 (by kernel_rfl) (by kernel_rfl) (by kernel_rfl) (by kernel_rfl) H (by kernel_rfl)
theorem pu_number_Parse (gl:Fr) (s0:ByteArray) (R:((Bool×ByteArray×Int)×Int)→Prop)
  (H:PC Tryz.prog gl 130 [Arg.mk .str s0] [.pair .bool (.pair .bool (.pair .str (.pair .str .str))),.bool] (fun r_1:(Bool×Bool×ByteArray×ByteArray×ByteArray)×Bool=>PC Tryz.prog gl 131 [Arg.mk .str r_1.1.2.2.2.2,Arg.mk .str (⟨#[48]⟩:ByteArray)] [.str] (fun r_2:ByteArray=>((!r_1.2)=true→R ((false,((⟨#[]⟩:ByteArray),0)),2))∧((!r_1.2)=false→((decide ((IntKind.wrap .i64 (((r_1.1.2.2.1).size:Int)+((r_1.1.2.2.2.1).size:Int)):Int) > 1000))=true→R ((false,((⟨#[]⟩:ByteArray),0)),3))∧((decide ((IntKind.wrap .i64 (((r_1.1.2.2.1).size:Int)+((r_1.1.2.2.2.1).size:Int)):Int) > 1000))=false→((decide ((((r_2).size:Int):Int) > 9))=true→R ((false,((⟨#[]⟩:ByteArray),0)),4))∧((decide ((((r_2).size:Int):Int) > 9))=false→∃ (I_8:Int→Bool→ByteArray→Int→(ByteArray×Nat)→Prop) (μ_9:Int→Bool→ByteArray→Int→(ByteArray×Nat)→Nat),I_8 0 false (⟨#[]⟩:ByteArray) 0 (r_2,0)∧∀ e7_3:Int,∀ b2_0_4:Bool,∀ b2_1_5:ByteArray,∀ b2_2_6:Int,∀ b41_0_7:ByteArray×Nat,I_8 e7_3 b2_0_4 b2_1_5 b2_2_6 b41_0_7→(((nxB b41_0_7.1 b41_0_7.2)=true→(nxB b41_0_7.1 b41_0_7.2)=true∧(I_8 (IntKind.wrap .i64 ((IntKind.wrap .i64 (10*e7_3))+(IntKind.wrap .i64 (IntKind.wrap .i32 ((nxR b41_0_7.1 b41_0_7.2) - 48))))) b2_0_4 b2_1_5 b2_2_6 (b41_0_7.1,nxP b41_0_7.1 b41_0_7.2)∧μ_9 (IntKind.wrap .i64 ((IntKind.wrap .i64 (10*e7_3))+(IntKind.wrap .i64 (IntKind.wrap .i32 ((nxR b41_0_7.1 b41_0_7.2) - 48))))) b2_0_4 b2_1_5 b2_2_6 (b41_0_7.1,nxP b41_0_7.1 b41_0_7.2) < μ_9 e7_3 b2_0_4 b2_1_5 b2_2_6 b41_0_7))∧((nxB b41_0_7.1 b41_0_7.2)=false→∀ K_22:Int→Bool→ByteArray→Int→Prop,(∀ e7_18:Int,∀ b2_0_19:Bool,∀ b2_1_20:ByteArray,∀ b2_2_21:Int,(fits63 ((r_1.1.2.2.1).size+(r_1.1.2.2.2.1).size)∧PC Tryz.prog gl 131 [Arg.mk .str (r_1.1.2.2.1++r_1.1.2.2.2.1),Arg.mk .str (⟨#[48]⟩:ByteArray)] [.str] (fun r_23:ByteArray=>(((r_23:ByteArray).toList==((⟨#[]⟩:ByteArray):ByteArray).toList)=true→R ((false,((⟨#[]⟩:ByteArray),0)),0))∧(((r_23:ByteArray).toList==((⟨#[]⟩:ByteArray):ByteArray).toList)=false→PC Tryz.prog gl 132 [Arg.mk .str r_23,Arg.mk .str (⟨#[48]⟩:ByteArray)] [.str] (fun r_24:ByteArray=>PC Tryz.prog gl 96 [Arg.mk (.pair .bool (.pair .str (.int .i64))) (r_1.1.1,(r_24,IntKind.wrap .i64 ((IntKind.wrap .i64 ((IntKind.wrap .i64 (e7_18 - ((r_1.1.2.2.2.1).size:Int)))+((r_23).size:Int))) - ((r_24).size:Int))))] [.bool] (fun r_25:Bool=>((!r_25)=true→R ((false,((⟨#[]⟩:ByteArray),0)),4))∧((!r_25)=false→R ((r_1.1.1,(r_24,IntKind.wrap .i64 ((IntKind.wrap .i64 ((IntKind.wrap .i64 (e7_18 - ((r_1.1.2.2.2.1).size:Int)))+((r_23).size:Int))) - ((r_24).size:Int)))),0)))))))→K_22 e7_18 b2_0_19 b2_1_20 b2_2_21)→(r_1.1.2.1=true→K_22 (IntKind.wrap .i64 (0 - e7_3)) b2_0_4 b2_1_5 b2_2_6)∧(r_1.1.2.1=false→K_22 e7_3 b2_0_4 b2_1_5 b2_2_6))))))))):
  PC Tryz.prog gl 98 [Arg.mk .str s0] [.pair .bool (.pair .str (.int .i64)),.int .i64] R:=
 PC_of_form Tryz.mixed gl 25 ⟨[],[],[(11,⟨[(7,.one (.dat (.int .i64)))],[(2,[.dat .bool,.dat .str,.dat (.int .i64)]),(41,[.dat .iter])],[4],[100448,1000128,1000129,1000130,1002624]⟩)],[(16,⟨[(7,.one (.dat (.int .i64)))],[(2,[.dat .bool,.dat .str,.dat (.int .i64)])],[4],[100448,1000128,1000129,1000130]⟩)]⟩ [Arg.mk .str s0] (rs:=[.cell 2 78,.tmp 3]) (n:=86) Tryz.func98 (by kernel_rfl) (by kernel_rfl) (by kernel_rfl) (by kernel_rfl) H (by kernel_rfl)
theorem pu_unicode_utf8_ValidString (gl:Fr) (s0:ByteArray) (R:Bool→Prop)
  (H:∃ (I_2:ByteArray→Prop) (μ_3:ByteArray→Nat),I_2 s0∧∀ s0_1:ByteArray,I_2 s0_1→(((decide ((((s0_1).size:Int):Int) > 0))=true→(0≤(0:Int)∧(0:Int) < ((s0_1).size:Int))∧((decide ((byteAt s0_1 (0:Int).toNat:Int) < 128))=true→(0≤(1:Int)∧(1:Int)≤((s0_1).size:Int)∧(((s0_1).size:Int):Int)≤((s0_1).size:Int))∧∃ J_32:Int→Prop,((decide (((((s0_1).extract (1:Int).toNat (((s0_1).size:Int):Int).toNat).size:Int):Int) > 8))=true→PC Tryz.prog gl 170 [Arg.mk .str ((s0_1).extract (1:Int).toNat (((s0_1).size:Int):Int).toNat)] [.int .u64] J_32)∧∀ r_33:Int,((decide (((((s0_1).extract (1:Int).toNat (((s0_1).size:Int):Int).toNat).size:Int):Int) > 8))=true→J_32 r_33)→((bif (decide (((((s0_1).extract (1:Int).toNat (((s0_1).size:Int):Int).toNat).size:Int):Int) > 8)) then((IntKind.wrap .u64 (((BitVec.ofInt (IntKind.bits .u64) r_33) &&& (BitVec.ofInt (IntKind.bits .u64) 9259542123273814144)).toNat:Int):Int)==0) else false)=true→(0≤(8:Int)∧(8:Int)≤(((s0_1).extract (1:Int).toNat (((s0_1).size:Int):Int).toNat).size:Int)∧((((s0_1).extract (1:Int).toNat (((s0_1).size:Int):Int).toNat).size:Int):Int)≤(((s0_1).extract (1:Int).toNat (((s0_1).size:Int):Int).toNat).size:Int))∧((decide ((((((s0_1).extract (1:Int).toNat (((s0_1).size:Int):Int).toNat).extract (8:Int).toNat ((((s0_1).extract (1:Int).toNat (((s0_1).size:Int):Int).toNat).size:Int):Int).toNat).size:Int):Int) > 16))=true→(0≤(8:Int)∧(8:Int)≤((((s0_1).extract (1:Int).toNat (((s0_1).size:Int):Int).toNat).extract (8:Int).toNat ((((s0_1).extract (1:Int).toNat (((s0_1).size:Int):Int).toNat).size:Int):Int).toNat).size:Int)∧(((((s0_1).extract (1:Int).toNat (((s0_1).size:Int):Int).toNat).extract (8:Int).toNat ((((s0_1).extract (1:Int).toNat (((s0_1).size:Int):Int).toNat).size:Int):Int).toNat).size:Int):Int)≤((((s0_1).extract (1:Int).toNat (((s0_1).size:Int):Int).toNat).extract (8:Int).toNat ((((s0_1).extract (1:Int).toNat (((s0_1).size:Int):Int).toNat).size:Int):Int).toNat).size:Int)))∧∃ J_34:Int→Prop,((decide ((((((s0_1).extract (1:Int).toNat (((s0_1).size:Int):Int).toNat).extract (8:Int).toNat ((((s0_1).extract (1:Int).toNat (((s0_1).size:Int):Int).toNat).size:Int):Int).toNat).size:Int):Int) > 16))=true→PC Tryz.prog gl 170 [Arg.mk .str (((s0_1).extract (1:Int).toNat (((s0_1).size:Int):Int).toNat).extract (8:Int).toNat ((((s0_1).extract (1:Int).toNat (((s0_1).size:Int):Int).toNat).size:Int):Int).toNat)] [.int .u64] J_34)∧∀ r_35:Int,((decide ((((((s0_1).extract (1:Int).toNat (((s0_1).size:Int):Int).toNat).extract (8:Int).toNat ((((s0_1).extract (1:Int).toNat (((s0_1).size:Int):Int).toNat).size:Int):Int).toNat).size:Int):Int) > 16))=true→J_34 r_35)→∃ J_36:Int→Prop,((decide ((((((s0_1).extract (1:Int).toNat (((s0_1).size:Int):Int).toNat).extract (8:Int).toNat ((((s0_1).extract (1:Int).toNat (((s0_1).size:Int):Int).toNat).size:Int):Int).toNat).size:Int):Int) > 16))=true→PC Tryz.prog gl 170 [Arg.mk .str ((((s0_1).extract (1:Int).toNat (((s0_1).size:Int):Int).toNat).extract (8:Int).toNat ((((s0_1).extract (1:Int).toNat (((s0_1).size:Int):Int).toNat).size:Int):Int).toNat).extract (8:Int).toNat (((((s0_1).extract (1:Int).toNat (((s0_1).size:Int):Int).toNat).extract (8:Int).toNat ((((s0_1).extract (1:Int).toNat (((s0_1).size:Int):Int).toNat).size:Int):Int).toNat).size:Int):Int).toNat)] [.int .u64] J_36)∧∀ r_37:Int,((decide ((((((s0_1).extract (1:Int).toNat (((s0_1).size:Int):Int).toNat).extract (8:Int).toNat ((((s0_1).extract (1:Int).toNat (((s0_1).size:Int):Int).toNat).size:Int):Int).toNat).size:Int):Int) > 16))=true→J_36 r_37)→((bif (decide ((((((s0_1).extract (1:Int).toNat (((s0_1).size:Int):Int).toNat).extract (8:Int).toNat ((((s0_1).extract (1:Int).toNat (((s0_1).size:Int):Int).toNat).size:Int):Int).toNat).size:Int):Int) > 16)) then((IntKind.wrap .u64 (((BitVec.ofInt (IntKind.bits .u64) (IntKind.wrap .u64 (((BitVec.ofInt (IntKind.bits .u64) r_35) ||| (BitVec.ofInt (IntKind.bits .u64) r_37)).toNat:Int))) &&& (BitVec.ofInt (IntKind.bits .u64) 9259542123273814144)).toNat:Int):Int)==0) else false)=true→(0≤(16:Int)∧(16:Int)≤((((s0_1).extract (1:Int).toNat (((s0_1).size:Int):Int).toNat).extract (8:Int).toNat ((((s0_1).extract (1:Int).toNat (((s0_1).size:Int):Int).toNat).size:Int):Int).toNat).size:Int)∧(((((s0_1).extract (1:Int).toNat (((s0_1).size:Int):Int).toNat).extract (8:Int).toNat ((((s0_1).extract (1:Int).toNat (((s0_1).size:Int):Int).toNat).size:Int):Int).toNat).size:Int):Int)≤((((s0_1).extract (1:Int).toNat (((s0_1).size:Int):Int).toNat).extract (8:Int).toNat ((((s0_1).extract (1:Int).toNat (((s0_1).size:Int):Int).toNat).size:Int):Int).toNat).size:Int))∧∃ (I_39:ByteArray→Prop) (μ_40:ByteArray→Nat),I_39 ((((s0_1).extract (1:Int).toNat (((s0_1).size:Int):Int).toNat).extract (8:Int).toNat ((((s0_1).extract (1:Int).toNat (((s0_1).size:Int):Int).toNat).size:Int):Int).toNat).extract (16:Int).toNat (((((s0_1).extract (1:Int).toNat (((s0_1).size:Int):Int).toNat).extract (8:Int).toNat ((((s0_1).extract (1:Int).toNat (((s0_1).size:Int):Int).toNat).size:Int):Int).toNat).size:Int):Int).toNat)∧∀ s0_38:ByteArray,I_39 s0_38→(((decide ((((s0_38).size:Int):Int) > 32))=true→(0≤(8:Int)∧(8:Int)≤((s0_38).size:Int)∧(((s0_38).size:Int):Int)≤((s0_38).size:Int)))∧((decide ((((s0_38).size:Int):Int) > 32))=true→(0≤(16:Int)∧(16:Int)≤((s0_38).size:Int)∧(((s0_38).size:Int):Int)≤((s0_38).size:Int)))∧((decide ((((s0_38).size:Int):Int) > 32))=true→(0≤(24:Int)∧(24:Int)≤((s0_38).size:Int)∧(((s0_38).size:Int):Int)≤((s0_38).size:Int)))∧∃ J_49:Int→Prop,((decide ((((s0_38).size:Int):Int) > 32))=true→PC Tryz.prog gl 170 [Arg.mk .str s0_38] [.int .u64] J_49)∧∀ r_50:Int,((decide ((((s0_38).size:Int):Int) > 32))=true→J_49 r_50)→∃ J_51:Int→Prop,((decide ((((s0_38).size:Int):Int) > 32))=true→PC Tryz.prog gl 170 [Arg.mk .str ((s0_38).extract (8:Int).toNat (((s0_38).size:Int):Int).toNat)] [.int .u64] J_51)∧∀ r_52:Int,((decide ((((s0_38).size:Int):Int) > 32))=true→J_51 r_52)→∃ J_53:Int→Prop,((decide ((((s0_38).size:Int):Int) > 32))=true→PC Tryz.prog gl 170 [Arg.mk .str ((s0_38).extract (16:Int).toNat (((s0_38).size:Int):Int).toNat)] [.int .u64] J_53)∧∀ r_54:Int,((decide ((((s0_38).size:Int):Int) > 32))=true→J_53 r_54)→∃ J_55:Int→Prop,((decide ((((s0_38).size:Int):Int) > 32))=true→PC Tryz.prog gl 170 [Arg.mk .str ((s0_38).extract (24:Int).toNat (((s0_38).size:Int):Int).toNat)] [.int .u64] J_55)∧∀ r_56:Int,((decide ((((s0_38).size:Int):Int) > 32))=true→J_55 r_56)→((bif (decide ((((s0_38).size:Int):Int) > 32)) then((IntKind.wrap .u64 (((BitVec.ofInt (IntKind.bits .u64) (IntKind.wrap .u64 (((BitVec.ofInt (IntKind.bits .u64) (IntKind.wrap .u64 (((BitVec.ofInt (IntKind.bits .u64) r_50) ||| (BitVec.ofInt (IntKind.bits .u64) r_52)).toNat:Int))) ||| (BitVec.ofInt (IntKind.bits .u64) (IntKind.wrap .u64 (((BitVec.ofInt (IntKind.bits .u64) r_54) ||| (BitVec.ofInt (IntKind.bits .u64) r_56)).toNat:Int)))).toNat:Int))) &&& (BitVec.ofInt (IntKind.bits .u64) 9259542123273814144)).toNat:Int):Int)==0) else false)=true→(0≤(32:Int)∧(32:Int)≤((s0_38).size:Int)∧(((s0_38).size:Int):Int)≤((s0_38).size:Int))∧(I_39 ((s0_38).extract (32:Int).toNat (((s0_38).size:Int):Int).toNat)∧μ_40 ((s0_38).extract (32:Int).toNat (((s0_38).size:Int):Int).toNat) < μ_40 s0_38))∧((bif (decide ((((s0_38).size:Int):Int) > 32)) then((IntKind.wrap .u64 (((BitVec.ofInt (IntKind.bits .u64) (IntKind.wrap .u64 (((BitVec.ofInt (IntKind.bits .u64) (IntKind.wrap .u64 (((BitVec.ofInt (IntKind.bits .u64) r_50) ||| (BitVec.ofInt (IntKind.bits .u64) r_52)).toNat:Int))) ||| (BitVec.ofInt (IntKind.bits .u64) (IntKind.wrap .u64 (((BitVec.ofInt (IntKind.bits .u64) r_54) ||| (BitVec.ofInt (IntKind.bits .u64) r_56)).toNat:Int)))).toNat:Int))) &&& (BitVec.ofInt (IntKind.bits .u64) 9259542123273814144)).toNat:Int):Int)==0) else false)=false→(I_2 s0_38∧μ_3 s0_38 < μ_3 s0_1))))∧((bif (decide ((((((s0_1).extract (1:Int).toNat (((s0_1).size:Int):Int).toNat).extract (8:Int).toNat ((((s0_1).extract (1:Int).toNat (((s0_1).size:Int):Int).toNat).size:Int):Int).toNat).size:Int):Int) > 16)) then((IntKind.wrap .u64 (((BitVec.ofInt (IntKind.bits .u64) (IntKind.wrap .u64 (((BitVec.ofInt (IntKind.bits .u64) r_35) ||| (BitVec.ofInt (IntKind.bits .u64) r_37)).toNat:Int))) &&& (BitVec.ofInt (IntKind.bits .u64) 9259542123273814144)).toNat:Int):Int)==0) else false)=false→(I_2 (((s0_1).extract (1:Int).toNat (((s0_1).size:Int):Int).toNat).extract (8:Int).toNat ((((s0_1).extract (1:Int).toNat (((s0_1).size:Int):Int).toNat).size:Int):Int).toNat)∧μ_3 (((s0_1).extract (1:Int).toNat (((s0_1).size:Int):Int).toNat).extract (8:Int).toNat ((((s0_1).extract (1:Int).toNat (((s0_1).size:Int):Int).toNat).size:Int):Int).toNat) < μ_3 s0_1)))∧((bif (decide (((((s0_1).extract (1:Int).toNat (((s0_1).size:Int):Int).toNat).size:Int):Int) > 8)) then((IntKind.wrap .u64 (((BitVec.ofInt (IntKind.bits .u64) r_33) &&& (BitVec.ofInt (IntKind.bits .u64) 9259542123273814144)).toNat:Int):Int)==0) else false)=false→(I_2 ((s0_1).extract (1:Int).toNat (((s0_1).size:Int):Int).toNat)∧μ_3 ((s0_1).extract (1:Int).toNat (((s0_1).size:Int):Int).toNat) < μ_3 s0_1)))∧((decide ((byteAt s0_1 (0:Int).toNat:Int) < 128))=false→(0≤(byteAt s0_1 (0:Int).toNat:Int)∧(byteAt s0_1 (0:Int).toNat:Int) < ((256:Nat):Int))∧∃ x_57:Int,cellG gl 0 (0+(byteAt s0_1 (0:Int).toNat:Int).toNat*1) (.int .u8 x_57)∧(0≤((x_57:Int).fdiv (2 ^ 4):Int)∧((x_57:Int).fdiv (2 ^ 4):Int) < ((16:Nat):Int))∧∃ x_58:Int,cellG gl 1 (0+((x_57:Int).fdiv (2 ^ 4):Int).toNat*2) (.int .u8 x_58)∧∃ x_59:Int,cellG gl 1 (0+((x_57:Int).fdiv (2 ^ 4):Int).toNat*2+1) (.int .u8 x_59)∧(((IntKind.wrap .i64 (IntKind.wrap .u8 (((BitVec.ofInt (IntKind.bits .u8) x_57) &&& (BitVec.ofInt (IntKind.bits .u8) 7)).toNat:Int)):Int)==2)=true→((!(decide ((((s0_1).size:Int):Int) < 2)))=true→(0≤(1:Int)∧(1:Int) < ((s0_1).size:Int)))∧((!(bif (decide ((((s0_1).size:Int):Int) < 2)) then true else(decide ((byteAt s0_1 (1:Int).toNat:Int) < x_58))))=true→(0≤(1:Int)∧(1:Int) < ((s0_1).size:Int)))∧((bif (bif (decide ((((s0_1).size:Int):Int) < 2)) then true else(decide ((byteAt s0_1 (1:Int).toNat:Int) < x_58))) then true else(decide ((x_59:Int) < (byteAt s0_1 (1:Int).toNat))))=true→R false)∧((bif (bif (decide ((((s0_1).size:Int):Int) < 2)) then true else(decide ((byteAt s0_1 (1:Int).toNat:Int) < x_58))) then true else(decide ((x_59:Int) < (byteAt s0_1 (1:Int).toNat))))=false→(0≤(2:Int)∧(2:Int)≤((s0_1).size:Int)∧(((s0_1).size:Int):Int)≤((s0_1).size:Int))∧(I_2 ((s0_1).extract (2:Int).toNat (((s0_1).size:Int):Int).toNat)∧μ_3 ((s0_1).extract (2:Int).toNat (((s0_1).size:Int):Int).toNat) < μ_3 s0_1)))∧(((IntKind.wrap .i64 (IntKind.wrap .u8 (((BitVec.ofInt (IntKind.bits .u8) x_57) &&& (BitVec.ofInt (IntKind.bits .u8) 7)).toNat:Int)):Int)==2)=false→(((IntKind.wrap .i64 (IntKind.wrap .u8 (((BitVec.ofInt (IntKind.bits .u8) x_57) &&& (BitVec.ofInt (IntKind.bits .u8) 7)).toNat:Int)):Int)==3)=true→((!(decide ((((s0_1).size:Int):Int) < 3)))=true→(0≤(1:Int)∧(1:Int) < ((s0_1).size:Int)))∧((!(bif (decide ((((s0_1).size:Int):Int) < 3)) then true else(decide ((byteAt s0_1 (1:Int).toNat:Int) < x_58))))=true→(0≤(1:Int)∧(1:Int) < ((s0_1).size:Int)))∧((!(bif (bif (decide ((((s0_1).size:Int):Int) < 3)) then true else(decide ((byteAt s0_1 (1:Int).toNat:Int) < x_58))) then true else(decide ((x_59:Int) < (byteAt s0_1 (1:Int).toNat)))))=true→(0≤(2:Int)∧(2:Int) < ((s0_1).size:Int)))∧((!(bif (bif (bif (decide ((((s0_1).size:Int):Int) < 3)) then true else(decide ((byteAt s0_1 (1:Int).toNat:Int) < x_58))) then true else(decide ((x_59:Int) < (byteAt s0_1 (1:Int).toNat)))) then true else(decide ((byteAt s0_1 (2:Int).toNat:Int) < 128))))=true→(0≤(2:Int)∧(2:Int) < ((s0_1).size:Int)))∧((bif (bif (bif (bif (decide ((((s0_1).size:Int):Int) < 3)) then true else(decide ((byteAt s0_1 (1:Int).toNat:Int) < x_58))) then true else(decide ((x_59:Int) < (byteAt s0_1 (1:Int).toNat)))) then true else(decide ((byteAt s0_1 (2:Int).toNat:Int) < 128))) then true else(decide ((191:Int) < (byteAt s0_1 (2:Int).toNat))))=true→R false)∧((bif (bif (bif (bif (decide ((((s0_1).size:Int):Int) < 3)) then true else(decide ((byteAt s0_1 (1:Int).toNat:Int) < x_58))) then true else(decide ((x_59:Int) < (byteAt s0_1 (1:Int).toNat)))) then true else(decide ((byteAt s0_1 (2:Int).toNat:Int) < 128))) then true else(decide ((191:Int) < (byteAt s0_1 (2:Int).toNat))))=false→(0≤(3:Int)∧(3:Int)≤((s0_1).size:Int)∧(((s0_1).size:Int):Int)≤((s0_1).size:Int))∧(I_2 ((s0_1).extract (3:Int).toNat (((s0_1).size:Int):Int).toNat)∧μ_3 ((s0_1).extract (3:Int).toNat (((s0_1).size:Int):Int).toNat) < μ_3 s0_1)))∧(((IntKind.wrap .i64 (IntKind.wrap .u8 (((BitVec.ofInt (IntKind.bits .u8) x_57) &&& (BitVec.ofInt (IntKind.bits .u8) 7)).toNat:Int)):Int)==3)=false→(((IntKind.wrap .i64 (IntKind.wrap .u8 (((BitVec.ofInt (IntKind.bits .u8) x_57) &&& (BitVec.ofInt (IntKind.bits .u8) 7)).toNat:Int)):Int)==4)=true→((!(decide ((((s0_1).size:Int):Int) < 4)))=true→(0≤(1:Int)∧(1:Int) < ((s0_1).size:Int)))∧((!(bif (decide ((((s0_1).size:Int):Int) < 4)) then true else(decide ((byteAt s0_1 (1:Int).toNat:Int) < x_58))))=true→(0≤(1:Int)∧(1:Int) < ((s0_1).size:Int)))∧((!(bif (bif (decide ((((s0_1).size:Int):Int) < 4)) then true else(decide ((byteAt s0_1 (1:Int).toNat:Int) < x_58))) then true else(decide ((x_59:Int) < (byteAt s0_1 (1:Int).toNat)))))=true→(0≤(2:Int)∧(2:Int) < ((s0_1).size:Int)))∧((!(bif (bif (bif (decide ((((s0_1).size:Int):Int) < 4)) then true else(decide ((byteAt s0_1 (1:Int).toNat:Int) < x_58))) then true else(decide ((x_59:Int) < (byteAt s0_1 (1:Int).toNat)))) then true else(decide ((byteAt s0_1 (2:Int).toNat:Int) < 128))))=true→(0≤(2:Int)∧(2:Int) < ((s0_1).size:Int)))∧((!(bif (bif (bif (bif (decide ((((s0_1).size:Int):Int) < 4)) then true else(decide ((byteAt s0_1 (1:Int).toNat:Int) < x_58))) then true else(decide ((x_59:Int) < (byteAt s0_1 (1:Int).toNat)))) then true else(decide ((byteAt s0_1 (2:Int).toNat:Int) < 128))) then true else(decide ((191:Int) < (byteAt s0_1 (2:Int).toNat)))))=true→(0≤(3:Int)∧(3:Int) < ((s0_1).size:Int)))∧((!(bif (bif (bif (bif (bif (decide ((((s0_1).size:Int):Int) < 4)) then true else(decide ((byteAt s0_1 (1:Int).toNat:Int) < x_58))) then true else(decide ((x_59:Int) < (byteAt s0_1 (1:Int).toNat)))) then true else(decide ((byteAt s0_1 (2:Int).toNat:Int) < 128))) then true else(decide ((191:Int) < (byteAt s0_1 (2:Int).toNat)))) then true else(decide ((byteAt s0_1 (3:Int).toNat:Int) < 128))))=true→(0≤(3:Int)∧(3:Int) < ((s0_1).size:Int)))∧((bif (bif (bif (bif (bif (bif (decide ((((s0_1).size:Int):Int) < 4)) then true else(decide ((byteAt s0_1 (1:Int).toNat:Int) < x_58))) then true else(decide ((x_59:Int) < (byteAt s0_1 (1:Int).toNat)))) then true else(decide ((byteAt s0_1 (2:Int).toNat:Int) < 128))) then true else(decide ((191:Int) < (byteAt s0_1 (2:Int).toNat)))) then true else(decide ((byteAt s0_1 (3:Int).toNat:Int) < 128))) then true else(decide ((191:Int) < (byteAt s0_1 (3:Int).toNat))))=true→R false)∧((bif (bif (bif (bif (bif (bif (decide ((((s0_1).size:Int):Int) < 4)) then true else(decide ((byteAt s0_1 (1:Int).toNat:Int) < x_58))) then true else(decide ((x_59:Int) < (byteAt s0_1 (1:Int).toNat)))) then true else(decide ((byteAt s0_1 (2:Int).toNat:Int) < 128))) then true else(decide ((191:Int) < (byteAt s0_1 (2:Int).toNat)))) then true else(decide ((byteAt s0_1 (3:Int).toNat:Int) < 128))) then true else(decide ((191:Int) < (byteAt s0_1 (3:Int).toNat))))=false→(0≤(4:Int)∧(4:Int)≤((s0_1).size:Int)∧(((s0_1).size:Int):Int)≤((s0_1).size:Int))∧(I_2 ((s0_1).extract (4:Int).toNat (((s0_1).size:Int):Int).toNat)∧μ_3 ((s0_1).extract (4:Int).toNat (((s0_1).size:Int):Int).toNat) < μ_3 s0_1)))∧(((IntKind.wrap .i64 (IntKind.wrap .u8 (((BitVec.ofInt (IntKind.bits .u8) x_57) &&& (BitVec.ofInt (IntKind.bits .u8) 7)).toNat:Int)):Int)==4)=false→R false)))))∧((decide ((((s0_1).size:Int):Int) > 0))=false→R true))):
  PC Tryz.prog gl 141 [Arg.mk .str s0] [.bool] R:=
 PC_of_form Tryz.mixed gl 25 ⟨[],[(7,8,[],[0,1,2,3,4,6,7,5],[]),(9,15,[],[0,1,2,3,4,6,7,10,11,13,14,5,8,9,12],[9])],[(1,⟨[(0,.one (.dat .str))],[],[],[100000]⟩),(9,⟨[(0,.one (.dat .str))],[],[],[100000]⟩)],[]⟩ [Arg.mk .str s0] (rs:=[.tmp 2]) (n:=169) Tryz.func141 (by kernel_rfl) (by kernel_rfl) (by kernel_rfl) (by kernel_rfl) H (by kernel_rfl)
theorem pu_value_Size (gl:Fr) (v0:Tr) (R:Int→Prop)
  (H:∃ (I_3:Int→Int→Prop) (μ_4:Int→Int→Nat),I_3 1 0∧∀ n3_1:Int,∀ x9_2:Int,I_3 n3_1 x9_2→(((decide ((x9_2:Int) < ((List.length v0.items:Nat):Int)))=true→∃ y_7:Tr,(0≤(x9_2:Int)∧v0.items[(x9_2:Int).toNat]?=some y_7)∧PC Tryz.prog gl 78 [Arg.mk .tree (Tr.mk y_7.kind y_7.text y_7.keys y_7.items)] [.int .i64] (fun r_8:Int=>(I_3 (IntKind.wrap .i64 (n3_1+r_8)) (IntKind.wrap .i64 (x9_2+1))∧μ_4 (IntKind.wrap .i64 (n3_1+r_8)) (IntKind.wrap .i64 (x9_2+1)) < μ_4 n3_1 x9_2)))∧((decide ((x9_2:Int) < ((List.length v0.items:Nat):Int)))=false→R n3_1))):
  PC Tryz.prog gl 78 [Arg.mk .tree v0] [.int .i64] R:=
 PC_of_form Tryz.mixed gl 25 ⟨[],[],[(3,⟨[(3,.one (.dat (.int .i64))),(9,.one (.dat (.int .i64)))],[],[],[100192,100576]⟩)],[]⟩ [Arg.mk .tree v0] (rs:=[.tmp 2]) (n:=19) Tryz.func78 (by kernel_rfl) (by kernel_rfl) (by kernel_rfl) (by kernel_rfl) H (by kernel_rfl)
theorem pu_value_Depth (gl:Fr) (v0:Tr) (R:Int→Prop)
  (H:∃ (I_3:Int→Int→Prop) (μ_4:Int→Int→Nat),I_3 0 0∧∀ n3_1:Int,∀ x9_2:Int,I_3 n3_1 x9_2→(((decide ((x9_2:Int) < ((List.length v0.items:Nat):Int)))=true→∃ y_7:Tr,(0≤(x9_2:Int)∧v0.items[(x9_2:Int).toNat]?=some y_7)∧PC Tryz.prog gl 79 [Arg.mk .tree (Tr.mk y_7.kind y_7.text y_7.keys y_7.items)] [.int .i64] (fun r_8:Int=>(I_3 (if(n3_1:Int) < r_8 then r_8 else n3_1) (IntKind.wrap .i64 (x9_2+1))∧μ_4 (if(n3_1:Int) < r_8 then r_8 else n3_1) (IntKind.wrap .i64 (x9_2+1)) < μ_4 n3_1 x9_2)))∧((decide ((x9_2:Int) < ((List.length v0.items:Nat):Int)))=false→R (IntKind.wrap .i64 (n3_1+1))))):
  PC Tryz.prog gl 79 [Arg.mk .tree v0] [.int .i64] R:=
 PC_of_form Tryz.mixed gl 25 ⟨[],[],[(3,⟨[(3,.one (.dat (.int .i64))),(9,.one (.dat (.int .i64)))],[],[],[100192,100576]⟩)],[]⟩ [Arg.mk .tree v0] (rs:=[.tmp 2]) (n:=20) Tryz.func79 (by kernel_rfl) (by kernel_rfl) (by kernel_rfl) (by kernel_rfl) H (by kernel_rfl)
theorem pu_value_decimal (gl:Fr) (s0:ByteArray) (R:((Bool×ByteArray×Int)×Bool)→Prop)
  (H:PC Tryz.prog gl 98 [Arg.mk .str s0] [.pair .bool (.pair .str (.int .i64)),.int .i64] (fun r_1:(Bool×ByteArray×Int)×Int=>∃ J_2:ByteArray→Prop,(((r_1.2:Int)==0)=true→PC Tryz.prog gl 56 [Arg.mk (.pair .bool (.pair .str (.int .i64))) (r_1.1.1,(r_1.1.2.1,r_1.1.2.2))] [.str] J_2)∧∀ r_3:ByteArray,(((r_1.2:Int)==0)=true→J_2 r_3)→R ((r_1.1.1,(r_1.1.2.1,r_1.1.2.2)),bif ((r_1.2:Int)==0) then((r_3:ByteArray).toList==(s0:ByteArray).toList) else false))):
  PC Tryz.prog gl 83 [Arg.mk .str s0] [.pair .bool (.pair .str (.int .i64)),.bool] R:=
 PC_of_form Tryz.mixed gl 25 ⟨[],[(2,9,[],[0,1,2,3,4,6,5,7,8],[6,7,8])],[],[]⟩ [Arg.mk .str s0] (rs:=[.cell 2 78,.tmp 3]) (n:=20) Tryz.func83 (by kernel_rfl) (by kernel_rfl) (by kernel_rfl) (by kernel_rfl) H (by kernel_rfl)
theorem pu_value_plain (gl:Fr) (s0:ByteArray) (R:Bool→Prop)
  (H:PC Tryz.prog gl 113 [Arg.mk .str s0] [.int .i64,.bool] (fun r_1:Int×Bool=>R r_1.2)):
  PC Tryz.prog gl 84 [Arg.mk .str s0] [.bool] R:=
 PC_of_form Tryz.mixed gl 25 ⟨[],[],[],[]⟩ [Arg.mk .str s0] (rs:=[.tmp 2]) (n:=11) Tryz.func84 (by kernel_rfl) (by kernel_rfl) (by kernel_rfl) (by kernel_rfl) H (by kernel_rfl)
theorem pu_value_hole (gl:Fr) (s0:ByteArray) (R:Bool→Prop)
  (H:PC Tryz.prog gl 83 [Arg.mk .str s0] [.pair .bool (.pair .str (.int .i64)),.bool] (fun r_1:(Bool×ByteArray×Int)×Bool=>PC Tryz.prog gl 119 [Arg.mk (.pair .bool (.pair .str (.int .i64))) (r_1.1.1,(r_1.1.2.1,r_1.1.2.2))] [.int .i64,.bool] (fun r_2:Int×Bool=>R (bif (bif r_1.2 then r_2.2 else false) then(decide ((r_2.1:Int)≥0)) else false)))):
  PC Tryz.prog gl 85 [Arg.mk .str s0] [.bool] R:=
 PC_of_form Tryz.mixed gl 25 ⟨[],[],[],[]⟩ [Arg.mk .str s0] (rs:=[.tmp 2]) (n:=25) Tryz.func85 (by kernel_rfl) (by kernel_rfl) (by kernel_rfl) (by kernel_rfl) H (by kernel_rfl)
theorem pu_pointer_item (gl:Fr) (v0:Tr) (step1:ByteArray) (R:Int→Prop)
  (H:(((v0.kind:Int)==6)=true→PC Tryz.prog gl 144 [Arg.mk (.row .str) v0.keys,Arg.mk .str step1] [.int .i64] (fun r_1:Int=>R r_1))∧(((v0.kind:Int)==6)=false→(((v0.kind:Int)==5)=true→PC Tryz.prog gl 145 [Arg.mk .str step1] [.int .i64,.bool] (fun r_2:Int×Bool=>((bif r_2.2 then(decide ((r_2.1:Int) < ((List.length v0.items:Nat):Int))) else false)=true→R r_2.1)∧((bif r_2.2 then(decide ((r_2.1:Int) < ((List.length v0.items:Nat):Int))) else false)=false→R (-1))))∧(((v0.kind:Int)==5)=false→R (-1)))):
  PC Tryz.prog gl 117 [Arg.mk .tree v0,Arg.mk .str step1] [.int .i64] R:=
 PC_of_form Tryz.mixed gl 25 ⟨[],[],[],[]⟩ [Arg.mk .tree v0,Arg.mk .str step1] (rs:=[.tmp 4]) (n:=31) Tryz.func117 (by kernel_rfl) (by kernel_rfl) (by kernel_rfl) (by kernel_rfl) H (by kernel_rfl)
theorem pu_number_digits (gl:Fr) (s0:ByteArray) (R:Bool→Prop)
  (H:∃ (I_2:(ByteArray×Nat)→Prop) (μ_3:(ByteArray×Nat)→Nat),I_2 (s0,0)∧∀ b6_0_1:ByteArray×Nat,I_2 b6_0_1→(((nxB b6_0_1.1 b6_0_1.2)=true→(nxB b6_0_1.1 b6_0_1.2)=true∧((bif (decide ((nxR b6_0_1.1 b6_0_1.2:Int) < 48)) then true else(decide ((nxR b6_0_1.1 b6_0_1.2:Int) > 57)))=true→R false)∧((bif (decide ((nxR b6_0_1.1 b6_0_1.2:Int) < 48)) then true else(decide ((nxR b6_0_1.1 b6_0_1.2:Int) > 57)))=false→(I_2 (b6_0_1.1,nxP b6_0_1.1 b6_0_1.2)∧μ_3 (b6_0_1.1,nxP b6_0_1.1 b6_0_1.2) < μ_3 b6_0_1)))∧((nxB b6_0_1.1 b6_0_1.2)=false→R (!((s0:ByteArray).toList==((⟨#[]⟩:ByteArray):ByteArray).toList))))):
  PC Tryz.prog gl 128 [Arg.mk .str s0] [.bool] R:=
 PC_of_form Tryz.mixed gl 25 ⟨[],[],[(2,⟨[],[(6,[.dat .iter])],[],[1000384]⟩)],[]⟩ [Arg.mk .str s0] (rs:=[.tmp 2]) (n:=18) Tryz.func128 (by kernel_rfl) (by kernel_rfl) (by kernel_rfl) (by kernel_rfl) H (by kernel_rfl)
theorem pu_number_read (gl:Fr) (s0:ByteArray) (R:((Bool×Bool×ByteArray×ByteArray×ByteArray)×Bool)→Prop)
  (H:PC Tryz.prog gl 154 [Arg.mk .str s0,Arg.mk .str (⟨#[45]⟩:ByteArray)] [.str,.bool] (fun r_1:ByteArray×Bool=>PC Tryz.prog gl 155 [Arg.mk .str r_1.1,Arg.mk .str (⟨#[101,69]⟩:ByteArray)] [.str,.str,.bool] (fun r_2:ByteArray×ByteArray×Bool=>∀ K_9:ByteArray→Bool→Bool→ByteArray→ByteArray→ByteArray→Prop,(∀ exp4_3:ByteArray,∀ x_0_4:Bool,∀ x_1_5:Bool,∀ x_2_6:ByteArray,∀ x_3_7:ByteArray,∀ x_4_8:ByteArray,(PC Tryz.prog gl 155 [Arg.mk .str r_2.1,Arg.mk .str (⟨#[46]⟩:ByteArray)] [.str,.str,.bool] (fun r_20:ByteArray×ByteArray×Bool=>PC Tryz.prog gl 128 [Arg.mk .str r_20.1] [.bool] (fun r_21:Bool=>∃ J_22:Bool→Prop,(((!(!r_21)) && r_20.2.2)=true→PC Tryz.prog gl 128 [Arg.mk .str r_20.2.1] [.bool] J_22)∧∀ r_23:Bool,(((!(!r_21)) && r_20.2.2)=true→J_22 r_23)→((bif (!r_21) then true else(bif r_20.2.2 then(!r_23) else false))=true→R ((x_0_4,(x_1_5,(r_20.1,(r_20.2.1,exp4_3)))),false))∧((bif (!r_21) then true else(bif r_20.2.2 then(!r_23) else false))=false→((!((r_20.1:ByteArray).toList==((⟨#[48]⟩:ByteArray):ByteArray).toList))=true→(0≤(0:Int)∧(0:Int) < ((r_20.1).size:Int)))∧R ((x_0_4,(x_1_5,(r_20.1,(r_20.2.1,exp4_3)))),bif ((r_20.1:ByteArray).toList==((⟨#[48]⟩:ByteArray):ByteArray).toList) then true else((byteAt r_20.1 (0:Int).toNat:Int) != 48))))))→K_9 exp4_3 x_0_4 x_1_5 x_2_6 x_3_7 x_4_8)→(r_2.2.2=true→PC Tryz.prog gl 154 [Arg.mk .str r_2.2.1,Arg.mk .str (⟨#[45]⟩:ByteArray)] [.str,.bool] (fun r_10:ByteArray×Bool=>∀ K_17:ByteArray→Bool→Bool→ByteArray→ByteArray→ByteArray→Prop,(∀ exp4_11:ByteArray,∀ x_0_12:Bool,∀ x_1_13:Bool,∀ x_2_14:ByteArray,∀ x_3_15:ByteArray,∀ x_4_16:ByteArray,(PC Tryz.prog gl 128 [Arg.mk .str exp4_11] [.bool] (fun r_19:Bool=>((!r_19)=true→R ((x_0_12,(x_1_13,(x_2_14,(x_3_15,x_4_16)))),false))∧((!r_19)=false→K_9 exp4_11 x_0_12 x_1_13 x_2_14 x_3_15 x_4_16)))→K_17 exp4_11 x_0_12 x_1_13 x_2_14 x_3_15 x_4_16)→((!r_10.2)=true→PC Tryz.prog gl 156 [Arg.mk .str r_10.1,Arg.mk .str (⟨#[43]⟩:ByteArray)] [.str] (fun r_18:ByteArray=>K_17 r_18 r_1.2 r_10.2 (⟨#[]⟩:ByteArray) (⟨#[]⟩:ByteArray) (⟨#[]⟩:ByteArray)))∧((!r_10.2)=false→K_17 r_10.1 r_1.2 r_10.2 (⟨#[]⟩:ByteArray) (⟨#[]⟩:ByteArray) (⟨#[]⟩:ByteArray))))∧(r_2.2.2=false→K_9 r_2.2.1 r_1.2 false (⟨#[]⟩:ByteArray) (⟨#[]⟩:ByteArray) (⟨#[]⟩:ByteArray))))):
  PC Tryz.prog gl 130 [Arg.mk .str s0] [.pair .bool (.pair .bool (.pair .str (.pair .str .str))),.bool] R:=
 PC_of_form Tryz.mixed gl 25 ⟨[],[(14,8,[],[0,1,2,3,4,5,6,7],[4,5,6,7])],[],[(9,⟨[(4,.one (.dat .str))],[(2,[.dat .bool,.dat .bool,.dat .str,.dat .str,.dat .str])],[],[100256,1000128,1000129,1000130,1000131,1000132]⟩),(7,⟨[(4,.one (.dat .str))],[(2,[.dat .bool,.dat .bool,.dat .str,.dat .str,.dat .str])],[],[100256,1000128,1000129,1000130,1000131,1000132]⟩)]⟩ [Arg.mk .str s0] (rs:=[.cell 2 140,.tmp 3]) (n:=69) Tryz.func130 (by kernel_rfl) (by kernel_rfl) (by kernel_rfl) (by kernel_rfl) H (by kernel_rfl)
theorem pu_unicode_utf8_word_string (gl:Fr) (s0:ByteArray) (R:Int→Prop)
  (H:(false=true→(0≤(0:Int)∧(0:Int) < ((s0).size:Int))∧(0≤(1:Int)∧(1:Int) < ((s0).size:Int))∧(0≤(2:Int)∧(2:Int) < ((s0).size:Int))∧(0≤(3:Int)∧(3:Int) < ((s0).size:Int))∧R (IntKind.wrap .u64 (((BitVec.ofInt (IntKind.bits .u64) (IntKind.wrap .u64 (((BitVec.ofInt (IntKind.bits .u64) (IntKind.wrap .u64 (((BitVec.ofInt (IntKind.bits .u64) (IntKind.wrap .u64 (byteAt s0 (0:Int).toNat))) ||| (BitVec.ofInt (IntKind.bits .u64) (IntKind.wrap .u64 ((IntKind.wrap .u64 (byteAt s0 (1:Int).toNat))*2 ^ 8)))).toNat:Int))) ||| (BitVec.ofInt (IntKind.bits .u64) (IntKind.wrap .u64 ((IntKind.wrap .u64 (byteAt s0 (2:Int).toNat))*2 ^ 16)))).toNat:Int))) ||| (BitVec.ofInt (IntKind.bits .u64) (IntKind.wrap .u64 ((IntKind.wrap .u64 (byteAt s0 (3:Int).toNat))*2 ^ 24)))).toNat:Int)))∧(false=false→(0≤(0:Int)∧(0:Int) < ((s0).size:Int))∧(0≤(1:Int)∧(1:Int) < ((s0).size:Int))∧(0≤(2:Int)∧(2:Int) < ((s0).size:Int))∧(0≤(3:Int)∧(3:Int) < ((s0).size:Int))∧(0≤(4:Int)∧(4:Int) < ((s0).size:Int))∧(0≤(5:Int)∧(5:Int) < ((s0).size:Int))∧(0≤(6:Int)∧(6:Int) < ((s0).size:Int))∧(0≤(7:Int)∧(7:Int) < ((s0).size:Int))∧R (IntKind.wrap .u64 (((BitVec.ofInt (IntKind.bits .u64) (IntKind.wrap .u64 (((BitVec.ofInt (IntKind.bits .u64) (IntKind.wrap .u64 (((BitVec.ofInt (IntKind.bits .u64) (IntKind.wrap .u64 (((BitVec.ofInt (IntKind.bits .u64) (IntKind.wrap .u64 (((BitVec.ofInt (IntKind.bits .u64) (IntKind.wrap .u64 (((BitVec.ofInt (IntKind.bits .u64) (IntKind.wrap .u64 (((BitVec.ofInt (IntKind.bits .u64) (IntKind.wrap .u64 (byteAt s0 (0:Int).toNat))) ||| (BitVec.ofInt (IntKind.bits .u64) (IntKind.wrap .u64 ((IntKind.wrap .u64 (byteAt s0 (1:Int).toNat))*2 ^ 8)))).toNat:Int))) ||| (BitVec.ofInt (IntKind.bits .u64) (IntKind.wrap .u64 ((IntKind.wrap .u64 (byteAt s0 (2:Int).toNat))*2 ^ 16)))).toNat:Int))) ||| (BitVec.ofInt (IntKind.bits .u64) (IntKind.wrap .u64 ((IntKind.wrap .u64 (byteAt s0 (3:Int).toNat))*2 ^ 24)))).toNat:Int))) ||| (BitVec.ofInt (IntKind.bits .u64) (IntKind.wrap .u64 ((IntKind.wrap .u64 (byteAt s0 (4:Int).toNat))*2 ^ 32)))).toNat:Int))) ||| (BitVec.ofInt (IntKind.bits .u64) (IntKind.wrap .u64 ((IntKind.wrap .u64 (byteAt s0 (5:Int).toNat))*2 ^ 40)))).toNat:Int))) ||| (BitVec.ofInt (IntKind.bits .u64) (IntKind.wrap .u64 ((IntKind.wrap .u64 (byteAt s0 (6:Int).toNat))*2 ^ 48)))).toNat:Int))) ||| (BitVec.ofInt (IntKind.bits .u64) (IntKind.wrap .u64 ((IntKind.wrap .u64 (byteAt s0 (7:Int).toNat))*2 ^ 56)))).toNat:Int)))):
  PC Tryz.prog gl 170 [Arg.mk .str s0] [.int .u64] R:=
 PC_of_form Tryz.mixed gl 25 ⟨[],[],[],[]⟩ [Arg.mk .str s0] (rs:=[.tmp 2]) (n:=59) Tryz.func170 (by kernel_rfl) (by kernel_rfl) (by kernel_rfl) (by kernel_rfl) H (by kernel_rfl)
theorem pu_number_Int (gl:Fr) (n0:Bool×ByteArray×Int) (R:(Int×Bool)→Prop)
  (H:PC Tryz.prog gl 96 [Arg.mk (.pair .bool (.pair .str (.int .i64))) (n0.1,(n0.2.1,n0.2.2))] [.bool] (fun r_1:Bool=>((bif (bif (!r_1) then true else(decide ((n0.2.2:Int) < 0))) then true else(decide ((IntKind.wrap .i64 (((n0.2.1).size:Int)+n0.2.2):Int) > 19)))=true→R (0,false))∧((bif (bif (!r_1) then true else(decide ((n0.2.2:Int) < 0))) then true else(decide ((IntKind.wrap .i64 (((n0.2.1).size:Int)+n0.2.2):Int) > 19)))=false→PC Tryz.prog gl 146 [Arg.mk .str (⟨#[48]⟩:ByteArray),Arg.mk (.int .i64) n0.2.2] [.str] (fun r_2:ByteArray=>fits63 ((n0.2.1).size+(r_2).size)∧∀ K_4:ByteArray→Prop,(∀ s4_3:ByteArray,((((s4_3:ByteArray).toList==((⟨#[]⟩:ByteArray):ByteArray).toList)=true→R (0,true))∧(((s4_3:ByteArray).toList==((⟨#[]⟩:ByteArray):ByteArray).toList)=false→PC Tryz.prog gl 147 [Arg.mk .str s4_3,Arg.mk (.int .i64) 10,Arg.mk (.int .i64) 64] [.int .i64,.err] (fun r_5:Int×Bool=>((!r_5.2)=true→R (0,false))∧((!r_5.2)=false→R (r_5.1,true)))))→K_4 s4_3)→(n0.1=true→fits63 (((⟨#[45]⟩:ByteArray)).size+(n0.2.1++r_2).size)∧K_4 ((⟨#[45]⟩:ByteArray)++(n0.2.1++r_2)))∧(n0.1=false→K_4 (n0.2.1++r_2)))))):
  PC Tryz.prog gl 119 [Arg.mk (.pair .bool (.pair .str (.int .i64))) n0] [.int .i64,.bool] R:=
 PC_of_form Tryz.mixed gl 25 ⟨[],[(3,5,[],[0,1,2,3,4],[])],[],[(6,⟨[(4,.one (.dat .str))],[],[],[100256]⟩)]⟩ [Arg.mk (.pair .bool (.pair .str (.int .i64))) n0] (rs:=[.tmp 2,.tmp 3]) (n:=44) Tryz.func119 (by kernel_rfl) (by kernel_rfl) (by kernel_rfl) (by kernel_rfl) H (by kernel_rfl)
theorem pu_number_cut (gl:Fr) (s0:ByteArray) (at1:ByteArray) (R:(ByteArray×ByteArray×Bool)→Prop)
  (H:∃ (I_2:Int→Prop) (μ_3:Int→Nat),I_2 0∧∀ x10_1:Int,I_2 x10_1→(((decide ((x10_1:Int) < ((s0).size:Int)))=true→(0≤(x10_1:Int)∧(x10_1:Int) < ((s0).size:Int))∧PC Tryz.prog gl 191 [Arg.mk .str at1,Arg.mk (.int .u8) (byteAt s0 (x10_1:Int).toNat)] [.int .i64] (fun r_5:Int=>((decide ((r_5:Int)≥0))=true→(0≤(0:Int)∧(0:Int)≤x10_1∧(x10_1:Int)≤((s0).size:Int))∧(0≤(IntKind.wrap .i64 (x10_1+1):Int)∧(IntKind.wrap .i64 (x10_1+1):Int)≤((s0).size:Int)∧(((s0).size:Int):Int)≤((s0).size:Int))∧R ((s0).extract (0:Int).toNat (x10_1:Int).toNat,(s0).extract (IntKind.wrap .i64 (x10_1+1):Int).toNat (((s0).size:Int):Int).toNat,true))∧((decide ((r_5:Int)≥0))=false→(I_2 (IntKind.wrap .i64 (x10_1+1))∧μ_3 (IntKind.wrap .i64 (x10_1+1)) < μ_3 x10_1))))∧((decide ((x10_1:Int) < ((s0).size:Int)))=false→R (s0,(⟨#[]⟩:ByteArray),false)))):
  PC Tryz.prog gl 155 [Arg.mk .str s0,Arg.mk .str at1] [.str,.str,.bool] R:=
 PC_of_form Tryz.mixed gl 25 ⟨[],[],[(2,⟨[(10,.one (.dat (.int .i64)))],[],[],[100640]⟩)],[]⟩ [Arg.mk .str s0,Arg.mk .str at1] (rs:=[.tmp 4,.tmp 5,.tmp 6]) (n:=28) Tryz.func155 (by kernel_rfl) (by kernel_rfl) (by kernel_rfl) (by kernel_rfl) H (by kernel_rfl)
end Go.Proofs.YtbploiccompocaaGreatDoor
end
section
namespace Go.X
open Go
set_option linter.unusedVariables false
abbrev bl (l:List UInt8):ByteArray:=⟨l.toArray⟩
abbrev lb (s:ByteArray):List UInt8:=s.data.toList
@[simp] theorem lb_bl (l:List UInt8):lb (bl l)=l:=by simp [lb]
@[simp] theorem bl_lb (s:ByteArray):bl (lb s)=s:=by cases s;simp [lb,bl]
theorem lb_inj {s t:ByteArray}:lb s=lb t↔s=t:=⟨fun h=>by rw [← bl_lb s,h,bl_lb],fun h=>by rw [h]⟩
theorem lb_len (s:ByteArray):(lb s).length=s.size:=by cases s;simp [lb,ByteArray.size]
theorem lb_append (s t:ByteArray):lb (s++t)=lb s++lb t:=by
 cases s;cases t
 simp [lb]
theorem lb_extract (s:ByteArray) (a b:Nat):lb (s.extract a b)=((lb s).drop a).take (b - a):=by
 cases s
 simp [lb,ByteArray.data_extract,List.extract_eq_take_drop]
theorem byteAt_lb (s:ByteArray) (i:Nat):byteAt s i=((((lb s)[i]?).getD 0).toNat:Int):=by
 cases s;simp [lb,byteAt]
theorem get!_lb (s:ByteArray) (i:Nat):s.get! i=((lb s)[i]?).getD 0:=by
 cases s with
 | mk d=>simp [lb,ByteArray.get!,Array.getElem!_eq_getD];rfl
def dec (l:List UInt8):Nat×Nat:=Go.Lib.decodeN l.length (l.getD 0 0).toNat (l.getD 1 0).toNat (l.getD 2 0).toNat (l.getD 3 0).toNat
theorem dec_at (s:ByteArray) (i:Nat):Utf8.decode s i=dec ((lb s).drop i):=by
 rw [Go.Lib.decode_at,dec]
 simp only [get!_lb,List.getD_eq_getElem?_getD,List.getElem?_drop,List.length_drop,lb_len,Nat.add_zero]
theorem dec_width (l:List UInt8):1≤(dec l).2∧(dec l).2≤4:=by
 unfold dec Go.Lib.decodeN
 repeat' split
 all_goals simp
theorem dec_le {l:List UInt8} (h:l≠[]):(dec l).2≤l.length:=by
 have:0 < l.length:=List.length_pos_iff.2 h
 unfold dec Go.Lib.decodeN
 repeat' split
 all_goals simp only
 all_goals omega
def badD (d:Nat×Nat):Bool:=d.1==65533 && d.2==1
def u8ok (l:List UInt8):Bool:=if h:l=[] then true else if badD (dec l) then false else u8ok (l.drop (dec l).2)
termination_by l.length
decreasing_by
 have h1:=dec_width l
 have h2:0 < l.length:=List.length_pos_iff.2 h
 simp only [List.length_drop];omega
theorem u8ok_nil:u8ok []=true:=by unfold u8ok;simp
theorem u8ok_step {l:List UInt8} (h:l≠[]):u8ok l=if badD (dec l) then false else u8ok (l.drop (dec l).2):=by
 rw [u8ok];simp [h]
theorem dec_ascii {c:UInt8} {l:List UInt8} (h:c.toNat < 128):dec (c::l)=(c.toNat,1):=by
 simp [dec,Go.Lib.decodeN,h]
theorem badD_ascii {c:UInt8} {l:List UInt8} (h:c.toNat < 128):badD (dec (c::l))=false:=by
 rw [dec_ascii h,badD]
 have:(c.toNat==65533)=false:=by simp;omega
 simp [this]
theorem u8ok_ascii {c:UInt8} {l:List UInt8} (h:c.toNat < 128):u8ok (c::l)=u8ok l:=by
 rw [u8ok_step (by simp),badD_ascii h,dec_ascii h];simp
end Go.X
end
section
namespace Go.X
open Go Go.Lib
set_option linter.unusedVariables false
abbrev Bs:=List UInt8
end Go.X
end
section
namespace Go.Proofs.YtbploiccompocaaGreatDoor
open Go Go.X Go.Proofs
set_option linter.unusedVariables false
theorem wrap32' {n:Int} (h1:-2147483648≤n) (h2:n≤2147483647):IntKind.wrap .i32 n=n:=by
 unfold IntKind.wrap
 have e:(2:Int) ^ IntKind.bits .i32=4294967296:=by decide
 have e':(2:Int) ^ (IntKind.bits .i32 - 1)=2147483648:=by decide
 simp only [e,e']
 have hs:IntKind.signed .i32=true:=rfl
 simp only [hs,Bool.true_and,decide_eq_true_eq]
 split <;> omega
theorem dec1 {n b0 b1 b2 b3:Nat} (h:b0 < 128):Lib.decodeN n b0 b1 b2 b3=(b0,1):=by
 unfold Lib.decodeN;rw [if_pos h]
theorem dec0 {n b0 b1 b2 b3:Nat} (h:128≤b0∧b0 < 194∨245≤b0∧b0 < 256):Lib.decodeN n b0 b1 b2 b3=(65533,1):=by
 refine Lib.bad_eq _ _ _ _ _ (by omega) ?_
 unfold Lib.firstT
 repeat' split
 all_goals first | rfl | (exfalso;omega)
theorem dec2 {n b0 b1 b2 b3:Nat} (h:194≤b0∧b0 < 224) (h1:b1 < 256):Lib.decodeN n b0 b1 b2 b3=if 2≤n∧128≤b1∧b1≤191 then((b0 - 192)*64+(b1 - 128),2) else(65533,1):=by
 unfold Lib.decodeN
 rw [if_neg (by omega)]
 by_cases hc:2≤n∧128≤b1∧b1≤191
 ·have e:b0 % 32*64+b1 % 64=(b0 - 192)*64+(b1 - 128):=by omega
  rw [if_pos (by omega),if_pos (by omega),if_pos hc,e]
 ·rw [if_neg (by omega),if_neg (by omega),if_neg (by omega),if_neg hc]
theorem dec3 {n b0 b1 b2 b3:Nat} (h:224≤b0∧b0 < 240) (h1:b1 < 256) (h2:b2 < 256):Lib.decodeN n b0 b1 b2 b3=
  if 3≤n∧(128≤b1∧b1≤191)∧(128≤b2∧b2≤191)∧2048≤((b0 - 224)*64+(b1 - 128))*64+(b2 - 128)∧(((b0 - 224)*64+(b1 - 128))*64+(b2 - 128) < 55296∨57344≤((b0 - 224)*64+(b1 - 128))*64+(b2 - 128))
  then(((b0 - 224)*64+(b1 - 128))*64+(b2 - 128),3) else(65533,1):=by
 unfold Lib.decodeN
 rw [if_neg (by omega),if_neg (by omega)]
 by_cases hc:3≤n∧(128≤b1∧b1≤191)∧(128≤b2∧b2≤191)
 ·rw [if_pos (by omega)]
  have e:b0 % 16*4096+b1 % 64*64+b2 % 64=((b0 - 224)*64+(b1 - 128))*64+(b2 - 128):=by omega
  rw [e]
  split <;> rename_i hx
  ·rw [if_pos (by omega)]
  ·rw [if_neg (by omega)]
 ·rw [if_neg (by omega),if_neg (by omega),if_neg (by omega)]
theorem dec4 {n b0 b1 b2 b3:Nat} (h:240≤b0∧b0 < 245) (h1:b1 < 256) (h2:b2 < 256) (h3:b3 < 256):Lib.decodeN n b0 b1 b2 b3=
  if 4≤n∧(128≤b1∧b1≤191)∧(128≤b2∧b2≤191)∧(128≤b3∧b3≤191)∧65536≤(((b0 - 240)*64+(b1 - 128))*64+(b2 - 128))*64+(b3 - 128)∧(((b0 - 240)*64+(b1 - 128))*64+(b2 - 128))*64+(b3 - 128)≤1114111
  then((((b0 - 240)*64+(b1 - 128))*64+(b2 - 128))*64+(b3 - 128),4) else(65533,1):=by
 unfold Lib.decodeN
 rw [if_neg (by omega),if_neg (by omega),if_neg (by omega)]
 by_cases hc:4≤n∧(128≤b1∧b1≤191)∧(128≤b2∧b2≤191)∧(128≤b3∧b3≤191)
 ·rw [if_pos (by omega)]
  have e:b0 % 8*262144+b1 % 64*4096+b2 % 64*64+b3 % 64=(((b0 - 240)*64+(b1 - 128))*64+(b2 - 128))*64+(b3 - 128):=by omega
  rw [e]
  split <;> rename_i hx
  ·rw [if_pos (by omega)]
  ·rw [if_neg (by omega)]
 ·rw [if_neg (by omega),if_neg (by omega)]
end Go.Proofs.YtbploiccompocaaGreatDoor
end
