/- A part of the proof: nothing is stated here for its own sake. -/
import Derived.Test.YtbploiccompocaaGreatDoorPkE
open _root_.Go.Addr renaming add->Aj
open _root_.Array renaming ext'->ED,getElem?_eq_some_iff->Ac,getElem?_push->BH,getElem?_setIfInBounds_ne->AH,size_push->Ak,toList->D9
open _root_.Bool renaming and_eq_true->AI,cond_false_right->C9,eq_iff_iff->AJ,not_eq_true'->Cb,or_eq_true->Cp,true_and->B0
open _root_.Go.Builtin renaming append_->Ax,len_->CK
open _root_.Go.Instr renaming keyThatStays->Eg,mapUpdate->CO,next->EZ,range->EU,storeAt->Al
open _root_.Int renaming toNat_natCast->Ah,toNat_zero->C8
open _root_.Go.IntKind renaming wrap->Ab
open _root_.List renaming all_cons->DJ,all_eq_true->AP,any_cons->EO,any_eq_true->D8,append_assoc->AQ,drop_eq_getElem_cons->AL,drop_length->C4,drop_zero->A2,eq_nil_of_length_eq_zero->Aw,ext_getElem?->AZ,getD_eq_getElem?_getD->Bm,getElem?_append_left->Bg,getElem?_append_right->Bb,getElem?_eq_getElem->Ai,getElem?_eq_none->Bj,getElem?_eq_some_iff->Az,getElem?_map->Cc,getElem?_take->AC,getElem_append_left->Dj,getElem_append_right->CG,getElem_mem->Ay,getElem_of_mem->Bf,length->CN,length_append->Ar,length_cons->Av,length_map->Bv,length_pos_iff->A5,length_singleton->CH,length_take->AY,map_append->Cq,map_cons->CY,map_id->EW,map_map->DG,mem_append->An,mem_append_left->Ao,mem_append_right->AB,mem_cons->Ad,mem_cons_self->Aq,mem_map->BC,mem_of_getElem?->Ct,mem_singleton->Bu,nodup_append->A6,nodup_cons->CF,take_append_drop->BD,take_length->AN,take_of_length_le->Be,take_succ_cons->B5,take_succ_eq_append_getElem->Am,take_zero->CM
open _root_.Nat renaming add_mul->BB,le_refl->Ae,mul_le_mul_right->AM,mul_one->B6,one_mul->Dd,sub_zero->Cm,succ_mul->Du,zero_add->AD,zero_le->CW
open _root_.Option.some renaming inj->Au
open _root_.Go.Proofs.Tryz renaming prog->AF,underlying9->A9
open _root_.Go.Value renaming string->AW
set_option linter.unusedVariables false
set_option maxRecDepth 100000
namespace Go.X
end Go.X
namespace Go.Proofs
end Go.Proofs
open Go Go.X Go.Proofs
section
namespace Go.X
section
variable {M gl:Fr} {o:OpT} {u u2:Value} {h h':zb} {rb:Nat} {D bs:List Nat} {K:Value -> zb -> Prop} {v:Tr}
abbrev Yn:Ty:=.pair .str (.pair (.row .str) (.pair (.row .str) .tree))
def zw(s:Bt)(sp sf:Sl)(v:Tr)(sk si:Sl):List Value:=[.string s,slV sp,slV sf,.int .i64 v.kind,.string v.text,slV sk,slV si]
theorem z3l(h:RdV M Yn o u):∃sp sf sk si:Sl,u=.agg (zw o.1 sp sf o.2.2.2 sk si).toArray/\RdV M (.row .str) o.2.1 (slV sp)/\RdV M (.row .str) o.2.2.1 (slV sf)/\RdV M .tree o.2.2.2 (.agg (zi o.2.2.2 sk si).toArray):=by
 unfold RdV at h
 simp only[zdn,if_true]at h
 obtain⟨cs,rfl,c1,c2,rfl,h1,c3,c4,rfl,h2,c5,c6,rfl,h3,h4⟩:=h
 have h1:c1=[.string o.1]:=h1
 subst h1
 obtain⟨v2,e2,a2,aa,q2,g2⟩:=h2
 obtain⟨v3,e3,a3,O,q3,g3⟩:=h3
 subst e2;subst e3;subst q2;subst q3
 have Z:RdV M .tree o.2.2.2 (.agg c6.toArray):=by unfold RdV;simp only[zdn,if_true];exact⟨_,rfl,h4⟩
 obtain⟨sk,si,e4,_⟩:=wq Z
 have e5:c6=zi o.2.2.2 sk si:=by
  injection e4 with e4
  exact congrArg D9 e4
 subst e5
 refine⟨⟨a2,o.2.1.length,aa⟩,⟨a3,o.2.2.1.length,O⟩,sk,si,rfl,?_,?_,Z⟩
 ·rw[zfn rfl];exact⟨_,rfl,a2,aa,rfl,g2⟩
 ·rw[zfn rfl];exact⟨_,rfl,a3,O,rfl,g3⟩
def Res(h:zb)(rb:Nat)(D:List Nat)(r:Tr×Int)(K:Value->zb->Prop):Prop:=∀h' D',(r.2=0->Doc h' rb r.1 D')->Turn h h' rb D [] D'->K (.int .i64 r.2) h'
theorem z8u(k:Keep h.size h h'):Turn h h' rb D [] []:=⟨k.size,λc h1 _ _=>k.get c h1,λc hc=>by cases hc⟩
theorem Turn.new{h h1 h':zb}{D bs D':List Nat}(H:Turn h1 h' rb D bs D')(k:Keep h.size h h1)(hb:∀c∈bs,h.size<=c):Turn h h' rb D [] D':=by
 have:=k.size
 refine⟨by have:=H.size;omega,λc h1 h2 h3=>(H.old c (by omega) h2 h3).trans (k.get c h1),λc hc=>?_⟩
 rcases H.own c hc with h|h|h
 ·exact .inl h
 ·exact .inr (.inr (hb c h))
 ·exact .inr (.inr (by omega))
theorem zar{r:Tr×Int}(H:Res h rb D r K)(hr:r.2≠0)(k:Keep h.size h h'):K (.int .i64 r.2) h':=H h' [] (λe=>absurd e hr) (z8u k)
theorem zfz{v x:Tr}{p:List Bt}(hs:tsz v<=4096)(h:qz v p=some x):x.items.length<=1000000000:=by
 have h1:=(jz h).1
 have h2:=Yi x.items
 rw[wa]at h1;omega
structure At (gl:Fr) (v:Tr) (h:zb) (M:Fr) (rb:Nat) (D:List Nat):Prop where
 le:Fr.le gl M
 ag:AgM M h
 doc:Doc h rb v D
 sm:Sm v
 ok:Y9 zy v=true
 sz:tsz v<=4096
theorem At.keep(A:At gl v h M rb D)(k:Keep h.size h h'):At gl v h' M rb D:=
 ⟨A.le,A.ag.keep k,A.doc.keep λc hc=>k.get c (A.doc.lt c hc),A.sm,A.ok,A.sz⟩
theorem At.out(A:At gl v h M rb D)(hb:∀c∈bs,h.size<=c):∀c∈bs,c≠rb/\c∉D:=λc hc=>by
 have:=hb c hc
 exact⟨λe=>by have:=A.doc.lt c (.inl e);omega,λhm=>by have:=A.doc.lt c (.inr hm);omega⟩
theorem At.add(hg:GL gl){v w:Tr}(A:At gl v h M rb D){p:List Bt}(hp:SL p)(O:RdV M (.row .str) p u2){bw:List Nat}{wk wi:Sl}(ow:OT h w bw (zi w wk wi))(Z:∀c∈bw,c≠rb/\c∉D)
  {h0:zb} (k0:Keep h0.size h0 h) (aa:∀c∈bw,h0.size<=c) (hK:Res h0 rb D (zje (zni v p w)) K):XC Tp 101 #[.pointer (some ⟨rb,0,none⟩),u2,.agg #[.int .i64 w.kind,.string w.text,slV wk,slV wi]] h K:=by
 refine z4w hg A.sm A.ok hp A.le A.ag A.doc O ow Z (λx hx=>zfz A.sz hx) (λhn h' k=>?_) λt ht h' D' ac tn=>?_
 ·rw[hn]at hK
  exact zar hK (by simp[zje]) (k0.trans k k0.size)
 ·rw[ht]at hK
  exact hK h' D' (λ_=>ac) (tn.new k0 aa)
theorem At.at(hg:GL gl)(A:At gl v h M rb D){p:List Bt}(hp:SL p)(aa:RdV M (.row .str) p u2)
  (Z:qz v p=none->∀h',Keep h.size h h'->K (.pointer none) h')
  (O:∀x,qz v p=some x->∀h' pa,Keep h.size h h'->Plc h' D rb pa x (λy=>Xk v p y)->K (.pointer (some pa)) h'):
  XC Tp 102 #[.pointer (some ⟨rb,0,none⟩),u2] h K:=
 z8d hg A.sm A.ok hp A.le A.ag A.doc aa Z λx hx _ _ h' pa k plc=>O x hx h' pa k plc
theorem At.find_sm{v x:Tr}(A:At gl v h M rb D){p:List Bt}(hf:qz v p=some x):Sm x:=by
 obtain⟨h1,h2,_⟩:=jz hf
 exact⟨by have:=A.sm.sz;omega,h2 _ A.sm.tx⟩
theorem z3m(hg:GL gl)(A:At gl v h M rb D)(hp:SL o.2.1)(hw:Sm o.2.2.2)(ho:ye o.2.2.2=true)(hu:RdV M Yn o u)(hK:Res h rb D (zje (zni v o.2.1 o.2.2.2)) K):
  XC Tp 59 #[.pointer (some ⟨rb,0,none⟩),u] h K:=by
 obtain⟨sp,sf,sk,si,rfl,r1,r2,r3⟩:=z3l hu
 apply zc9 (some ⟨rb,0,none⟩) o.1 sp sf o.2.2.2.kind o.2.2.2.text sk si
 intro h1
 have k1:Keep h.size h h1:=Keep.push _ _ (Ae _)
 have b1:Blk h1 h.size (zw o.1 sp sf o.2.2.2 sk si).toArray:=Blk.new _ _ _
 have z1:h1.size=h.size+1:=Ak _
 clear_value h1
 have A1:=A.keep k1
 refine⟨sp,b1.cellAdd (by rfl),o.2.2.2.kind,o.2.2.2.text,sk,si,?_,?_⟩
 ·rw[zh];exact zml b1 (vs:=zi o.2.2.2 sk si) (o:=0+3) (i:=0) rfl
 refine zht hg hw ho A1.le A1.ag r3 λh8 bs ck ci k8 ot O=>⟨o.2.2.2.kind,o.2.2.2.text,ck,ci,rfl,k8,?_⟩
 have A8:=A1.keep k8
 refine A8.add hg hp r1 ot (A1.out O) (h0:=h) (k1.trans k8 (by omega)) (λc hc=>by have:=O c hc;omega) λh' D' hD tn=>⟨_,rfl,hK h' D' hD tn⟩
theorem zrj(hg:GL gl)(A:At gl v h M rb D)(hp:SL o.2.1)(hu:RdV M Yn o u)
  (hK:Res h rb D (match qz v o.2.1 with
   |none=>(zT,8)
   |some _=>if o.2.1=[]then(zT,1)else(zpp v o.2.1,0)) K):
  XC Tp 60 #[.pointer (some ⟨rb,0,none⟩),u] h K:=by
 obtain⟨sp,sf,sk,si,rfl,r1,r2,r3⟩:=z3l hu
 apply Xl (some ⟨rb,0,none⟩) o.1 sp sf o.2.2.2.kind o.2.2.2.text sk si
 intro h1
 have k1:Keep h.size h h1:=Keep.push _ _ (Ae _)
 have b1:Blk h1 h.size (zw o.1 sp sf o.2.2.2 sk si).toArray:=Blk.new _ _ _
 have z1:h1.size=h.size+1:=Ak _
 clear_value h1
 have A1:=A.keep k1
 refine⟨sp,b1.cellAdd (by rfl),?_⟩
 refine A1.at hg hp r1 (λhn h4 k4=>⟨none,rfl,(λ_=>?_),λhc=>by cases hc⟩) λx hx h4 pa k4 plc=>⟨some pa,rfl,(λhc=>by cases hc),λ_=>⟨sp,(b1.ofKeep k4).cellAdd (by rfl),?_⟩⟩
 ·rw[hn]at hK
  exact zar hK (by simp) (k1.trans k4 (by omega))
 ·rw[hx]at hK
  have A4:=A1.keep k4
  have O:Keep h.size h h4:=k1.trans k4 (by omega)
  simp only at hK
  refine zph hg A4.sm A4.ok hp A4.le A4.ag A4.doc r1 (λaa hl=>?_) (λy hy=>zfz A4.sz hy) (λh0=>⟨1,rfl,?_⟩) λy j hl hy hj ac h' D' Z tn=>⟨0,rfl,?_⟩
  ·obtain⟨y,q1,k,q2,q3⟩:=zee aa hx
   exact⟨y,q1,by rw[zh0 hl,q2];omega⟩
  ·rw[if_pos h0]at hK
   exact zar hK (by simp) O
  ·rw[if_neg (λe=>by rw[e]at hl;simp at hl)]at hK
   refine hK h' D' (λ_=>?_) (tn.new O λc hc=>by cases hc)
   have:zpp v o.2.1=Xk v (o.2.1.take (o.2.1.length-1)) (znh y j):=by
    unfold zpp zkt
    rw[hy]
    simp only
    rw[<-zh0 hl,hj];rfl
   rw[this];exact Z
theorem zpj(hg:GL gl)(A:At gl v h M rb D)(hp:SL o.2.1)(hw:Sm o.2.2.2)(ho:ye o.2.2.2=true)(hu:RdV M Yn o u)
  (hK:Res h rb D (match qz v o.2.1 with
   |none=>(zT,8)
   |some _=>(Xk v o.2.1 o.2.2.2,0)) K):
  XC Tp 61 #[.pointer (some ⟨rb,0,none⟩),u] h K:=by
 obtain⟨sp,sf,sk,si,rfl,r1,r2,r3⟩:=z3l hu
 apply Wh (some ⟨rb,0,none⟩) o.1 sp sf o.2.2.2.kind o.2.2.2.text sk si
 intro h1
 have k1:Keep h.size h h1:=Keep.push _ _ (Ae _)
 have b1:Blk h1 h.size (zw o.1 sp sf o.2.2.2 sk si).toArray:=Blk.new _ _ _
 have z1:h1.size=h.size+1:=Ak _
 clear_value h1
 have A1:=A.keep k1
 refine⟨sp,b1.cellAdd (by rfl),?_⟩
 refine A1.at hg hp r1 (λhn h4 k4=>⟨none,rfl,(λ_=>?_),λhc=>by cases hc⟩) λx hx h4 pa k4 plc=>⟨some pa,rfl,(λhc=>by cases hc),λ_=>⟨o.2.2.2.kind,o.2.2.2.text,sk,si,?_,?_⟩⟩
 ·rw[hn]at hK
  exact zar hK (by simp) (k1.trans k4 (by omega))
 ·rw[zh];exact zml (b1.ofKeep k4) (vs:=zi o.2.2.2 sk si) (o:=0+3) (i:=0) rfl
 rw[hx]at hK
 have A4:=A1.keep k4
 have z4:=k4.size
 have aj:Keep h.size h h4:=k1.trans k4 (by omega)
 refine zht hg hw ho A4.le A4.ag r3 λh8 bs ck ci k8 ot ac=>⟨o.2.2.2.kind,o.2.2.2.text,ck,ci,rfl,pa,rfl,?_⟩
 have z8:=k8.size
 have ae:=Plc.keepK plc (by have:=A.doc.lt rb (.inl rfl);omega) k8
 have O:=A4.out ac
 obtain⟨b,of,cs,bx,rfl,hb,ak,ar,ap,Z,am,al,an,ah⟩:=ae
 have aa:∀c,c≠rb->c∉D->c≠b:=λc q1 q2 e=>by
  rcases Z with h|h
  ·exact q1 (by rw[e,h])
  ·exact q2 (by rw[e];exact h)
 refine Q1 (vs:=zi o.2.2.2 ck ci) zrh hb rfl zrg (by show of+4<=_;omega) (Jd _ ck ci) λh' b' z' f'=>?_
 obtain⟨D',ai,af⟩:=ah h' o.2.2.2 (zi o.2.2.2 ck ci) bs (λc n1 _ _=>f' c n1) b' (ot.frame λc hc=>f' c (aa c (O c hc).1 (O c hc).2)) (λc hc=>.inr (O c hc))
 refine hK h' D' (λ_=>ai) ⟨by omega,λc q1 q2 q3=>(f' c (aa c q2 q3)).trans ((k8.get c (by omega)).trans (aj.get c q1)),λc hc=>?_⟩
 rcases af c hc with hc|hc
 ·exact .inl hc
 ·exact .inr (.inr (by have:=ac c hc;omega))
theorem zz3(hg:GL gl)(A:At gl v h M rb D)(hp:SL o.2.1)(hf:SL o.2.2.1)(hv:ye v=true)(hu:RdV M Yn o u)
  (hK:Res h rb D (match qz v o.2.2.1 with
   |none=>(zT,8)
   |some y=>zje (zni v o.2.1 y)) K):
  XC Tp 63 #[.pointer (some ⟨rb,0,none⟩),u] h K:=by
 obtain⟨sp,sf,sk,si,rfl,r1,r2,r3⟩:=z3l hu
 apply zbq (some ⟨rb,0,none⟩) o.1 sp sf o.2.2.2.kind o.2.2.2.text sk si
 intro h1
 have k1:Keep h.size h h1:=Keep.push _ _ (Ae _)
 have b1:Blk h1 h.size (zw o.1 sp sf o.2.2.2 sk si).toArray:=Blk.new _ _ _
 have z1:h1.size=h.size+1:=Ak _
 clear_value h1
 have A1:=A.keep k1
 refine⟨sf,b1.cellAdd (by rfl),?_⟩
 refine A1.at hg hf r2 (λhn h4 k4=>⟨none,rfl,(λ_=>?_),λhc=>by cases hc⟩) λx hx h4 pa k4 plc=>⟨some pa,rfl,(λhc=>by cases hc),λ_=>⟨sp,(b1.ofKeep k4).cellAdd (by rfl),pa,rfl,?_⟩⟩
 ·rw[hn]at hK
  exact zar hK (by simp) (k1.trans k4 (by omega))
 rw[hx]at hK
 have A4:=A1.keep k4
 have z4:=k4.size
 have aa:Keep h.size h h4:=k1.trans k4 (by omega)
 obtain⟨xk,xi,bx,Z,ot,ae,_⟩:=Plc.ld plc
 refine⟨x.kind,x.text,xk,xi,Z,?_⟩
 refine zht hg (A4.find_sm hx) (zef hv hx) (A4.le.trans (Xm A4.ag bx)) (MxL.ag A4.ag bx) ot.rdv λh8 bs ck ci k8 ac O=>⟨x.kind,x.text,ck,ci,rfl,k8,?_⟩
 have A8:=A4.keep k8
 refine A8.add hg hp r1 ac (A4.out O) (h0:=h) (aa.trans k8 (by omega)) (λc hc=>by have:=O c hc;omega) λh' D' hD tn=>⟨_,rfl,hK h' D' hD tn⟩
end
end Go.X
end
section
namespace Go.Proofs.YtbploiccompocaaGreatDoor
open Go Go.X Go.ChangeShapes Go.WideShapes Go.ChangeAt Go.RowKit Go.Lib
set_option linter.unusedVariables false
section
variable {cs:List Value} {H:Type} {held:Bool} {fuel:Nat}
theorem seven(hl:cs.length=7):cs=(cs.drop 0).take 1++((cs.drop 1).take 1++((cs.drop 2).take 1++(cs.drop 3).take 4)):=by
 match cs,hl with
 |[a,b,c,d,e,f,g],_=>rfl
theorem qcs{enc:TypeId×Value->H}{W:World}{sp:Nat->Bool}{x:DataW H×List MemPlace}(h:DataW.trod enc AF W 0 sp held fuel 38 cs=some x)(hw:zg1 AF 38 x.1):∃o:OpT,Rd (Fz W) Yn o cs:=by
 obtain⟨xs,n,rfl,hx,hl,ac,O⟩:=DataW.trod_struct Tryz.underlying38 h
 have aa:cs.length=7:=hl.trans (by kernel_rfl)
 have ae:xs.length=4:=ac
 have g0:DataW.trod enc AF W 0 sp held n 9 ((cs.drop 0).take (AF.cellsOf 9))=xs[0]?:=O 0 _ rfl
 have g1:DataW.trod enc AF W 0 sp held n 22 ((cs.drop 1).take (AF.cellsOf 22))=xs[1]?:=O 1 _ rfl
 have g2:DataW.trod enc AF W 0 sp held n 22 ((cs.drop 2).take (AF.cellsOf 22))=xs[2]?:=O 2 _ rfl
 have g3:DataW.trod enc AF W 0 sp held n 25 ((cs.drop 3).take (AF.cellsOf 25))=xs[3]?:=O 3 _ rfl
 rw[Ai (by omega)]at g0 g1 g2 g3
 have Z:∀(j:Nat) (t:TypeId) (hj:j<xs.length),([9,22,22,25]:List TypeId)[j]?=some t->zg1 AF t (xs[j]).1:=λj t hj hf m hm=>hw m (by
   rw[hx]
   unfold DataW.weights
   rw[Tryz.underlying38]
   exact DataW.weights_mem_each (j:=j) (t:=t) (d:=(xs[j]).1) (by rw[<-hf];rfl) (by rw[Cc,Ai hj];rfl) m hm)
 have c1:AF.cellsOf 9=1:=by kernel_rfl
 have c2:AF.cellsOf 22=1:=by kernel_rfl
 have c3:AF.cellsOf 25=4:=by kernel_rfl
 rw[c1]at g0
 rw[c2]at g1 g2
 rw[c3]at g3
 obtain⟨s,e0⟩:=zxx A9 g0
 obtain⟨p,e1⟩:=zyv g1 (Z 1 _ (by omega) rfl)
 obtain⟨f,e2⟩:=zyv g2 (Z 2 _ (by omega) rfl)
 obtain⟨v,e3⟩:=zyu _ _ _ g3 (Z 3 _ (by omega) rfl)
 exact⟨(s,p,f,v),_,_,seven aa,e0,_,_,rfl,e1,_,_,rfl,e2,e3⟩
theorem qa8{enc:TypeId×Value->H}{W:World}{sp:Nat->Bool}{x:DataW H×List MemPlace}(h:DataW.trod enc AF W 0 sp held fuel 26 cs=some x)(hw:zg1 AF 26 x.1):∃xs:List OpT,Rd (Fz W) (.row Yn) xs cs:=
 zxw (T:=Yn) Tryz.underlying26 (by kernel_rfl) (by decide) (by decide +kernel) (λ_ _ cs y hy hs=>qcs hy hs) h hw
end
end Go.Proofs.YtbploiccompocaaGreatDoor
end
section
namespace Go.X
section
theorem qdi:zan (yy (Lib.itoa 1)).1=[49]:=by kernel_rfl
theorem qc5:zan (yy (Lib.itoa 2)).1=[50]:=by kernel_rfl
def smT:Tr:=.mk 6 ⟨#[]⟩ [⟨#[97]⟩] [.mk 5 ⟨#[]⟩ [] [.mk 3 (bl [49]) [] [],.mk 3 (bl [50]) [] []]]
theorem qa9:Sm smT:=by
 refine Sm.few ?_ ?_
 ·have:tks smT=5:=by kernel_rfl
  omega
 ·have O:∀b:Bs,b.length<=2048->txS (.mk 3 (bl b) [] []):=λb hb=>by
   rw[txS,zif];exact⟨⟨by rw[zq];exact hb,by simp⟩,trivial⟩
  unfold smT
  rw[txS,zif,zif,txS,zif,zif,zif]
  exact⟨⟨by decide,by decide⟩,⟨⟨by decide,by simp⟩,O _ (by decide),O _ (by decide),trivial⟩,trivial⟩
theorem zab{l:List Bt}(h:l.length<=1000000)(h2:∀x∈l,x.size<=1048576):SL l:=⟨h,λx hx=>by rw[zcp];exact h2 x hx⟩
end
section
theorem zpk(l:List Bs):(l.map bl).map lb=l:=by
 rw[DG]
 have:(lb ∘ bl)=(id:Bs->Bs):=funext λx=>js x
 rw[this,EW]
theorem zh5{l:List Bt}:jc l=(decide (l.length<=64)&&(l.map lb).all j9):=by
 unfold jc;rw[List.all_map];rfl
theorem qba(x:Bs):x.length<=(esc x).length:=by
 induction x with
 |nil=>simp
 |cons c t ih=>
  rw[zfu,Ar,Av]
  have:1<=(zqv c).length:=by
   unfold zqv
   by_cases a:c=126
   ·simp[a]
   ·by_cases b:c=47 <;> simp[a,b]
  omega
theorem zz4{x:Bs}:∀{p:List Bs},x∈p->x.length<=(Wj p).length
 |y::p,h=>by
  rw[show y::p=[y]++p from rfl,yf,xe,Ar,Av]
  rcases Ad.1 h with rfl|h
  ·have:=qba x;omega
  ·have:=zz4 h;omega
end
section
variable {gl:Fr} {v:Tr} {R:Bool -> Prop}
theorem zz5(hg:GL gl)(hv:Sm v)(h:R (decide (v.kind≠7)&&zy v)):PC Tp gl 46 [Arg.mk .tree v] [.bool] R:=by
 apply zfe
 simp only[y8]
 refine⟨λb=>b=zy v,λ_=>zza hg hv rfl,λb hb=>?_⟩
 cases hk:(v.kind != 7)with
 |false=>
  have e:v.kind=7:=by simpa using hk
  have:(decide (v.kind≠7)&&zy v)=false:=by simp[e]
  rw[this]at h
  simpa[hk]using h
 |true=>
  have e:v.kind≠7:=by simpa using hk
  have hb:=hb hk
  subst hb
  have:(decide (v.kind≠7)&&zy v)=zy v:=by simp[e]
  rw[this]at h
  simpa[hk]using h
theorem Xo(hg:GL gl)(hv:Sm v)(hR:R (ql v)):PC Tp gl 21 [Arg.mk .tree v] [.bool] R:=by
 intro h M vs hM ag ha
 match vs,ha with
 |[u],⟨hu,_⟩=>
  have hu:RdV M .tree v u:=hu
  have ae:=hu
  obtain⟨sk,si,rfl,rk,ri⟩:=wq hu
  apply PX.of
  apply zjd v.kind v.text sk si
  intro h1
  have L1:Later h M h1 M:=Later.push ag _
  have s1:h1.size=h.size+1:=Ak _
  have Z:∀h':zb,Keep h1.size h1 h'->zd h' ⟨h.size,0,none⟩ 0 [.int .i64 v.kind,.string v.text,slV sk,slV si]:=λh' k=>z19 (h':=h') (by rw[s1]at k;exact k)
  clear_value h1
  refine⟨v.kind,v.text,sk,si,Z h1 (Keep.refl _ _),?_⟩
  have ai:PC Tp gl 44 [Arg.mk .tree v] [.bool] (λr=>r=Wd v):=zs9 hv rfl
  refine ai.go (vs:=[.agg #[.int .i64 v.kind,.string v.text,slV sk,slV si]]) (hM.trans L1.le) L1.ag (yj (RdV.mono L1.le ae) wm) λw h2 M2 r L2 ac hr=>?_
  refine⟨r,zdd ac,v.kind,v.text,sk,si,λ_=>Z h2 L2.keep,?_⟩
  have O:=L1.trans L2
  refine⟨λw h4=>∃b,w=.bool b/\(r=true->b=Y9 (λx=>decide (x.kind≠7)&&zy x) v)/\∃M4,Later h M h4 M4,λaj=>?_,λaf=>⟨true,true,rfl,λe=>(by rw[e]at af;cases af),M2,O⟩,λ_ w h4 ⟨b,e,_⟩=>⟨b,e⟩,?_⟩
  ·refine(ztb (F:=46) (by kernel_rfl) (p:=λx=>decide (x.kind≠7)&&zy x) (λx hx=>zz5 hg hx rfl) v hv (hM.trans O.le) L2.ag (RdV.mono O.le ae)).go λw h3 M3 b L3 aa ah=>⟨b,zdd aa,b,rfl,λ_=>ah,M3,O.trans L3⟩
  ·rintro b h4 ⟨b',e,hb,M4,L4⟩
   cases e
   refine⟨M4,_,L4,zcn.2 (rdBool _),?_⟩
   unfold ql at hR
   rw[<-hr]at hR
   cases r with
   |false=>exact hR
   |true=>rw[cond_true,hb rfl];exact hR
theorem z8v(hk:v.keys.length<=1000000000)(hi:v.items.length<=1000000000000)(h:R (zfh v)):PC Tp gl 38 [Arg.mk .tree v] [.bool] R:=by
 apply zmv
 have e:(bif (bif ((v.kind:Int)==0)then((v.text:Bt).toList==((⟨#[]⟩:Bt):Bt).toList)else false)then((Ab .i64 (((CN v.keys:Nat):Int)+((CN v.items:Nat):Int)):Int)==0)else false)=zfh v:=by
  rw[w64 (by omega),AJ]
  unfold zfh
  simp only[C9,AI,beq_iff_eq,decide_eq_true_eq,ByteArray.toList_eq,lb]
  constructor
  ·rintro⟨⟨h1,h2⟩,h3⟩
   exact⟨h1,h2,Aw (by omega),Aw (by omega)⟩
  ·rintro⟨h1,h2,h3,h4⟩
   exact⟨⟨h1,h2⟩,by rw[h3,h4];rfl⟩
 rw[e];exact h
end
end Go.X
end
section
namespace Go.X
open Go Go.ChangeMaps
section
variable {h h':zb} {m r:Nat} {P:Program} {t kt et ty:TypeId} {K:Value -> zb -> Prop} {dn:List Value}
def MapW(h:zb)(m:Nat)(l:List (Value×Value)):Prop:=
 ∃es O,h[m]?=some (.map es O)/\es.toList.map (λe=>(e.key,e.val))=l/\(∀e∈es.toList,e.born<O)/\(es.toList.map (·.born)).Nodup
theorem MapW.keep{l:List (Value×Value)}(H:MapW h m l)(k:h'[m]?=h[m]?):MapW h' m l:=by
 obtain⟨es,c,h1,h2⟩:=H;exact⟨es,c,k.trans h1,h2⟩
theorem MapW.lt{l:List (Value×Value)}(H:MapW h m l):m<h.size:=by
 obtain⟨es,c,h1,h2⟩:=H;exact(Ac.1 h1).1
theorem MapW.new(h:zb):MapW (h.push (.map #[] 0)) h.size []:=⟨#[],0,j6 _ _,rfl,by simp,by simp⟩
def zig(l:List (Bt×Value)):List (Value×Value):=l.map λp=>(AW p.1,p.2)
theorem MapW.at{l:List (Bt×Value)}(H:MapW h m (zig l)):MapAt h m l:=by
 obtain⟨es,c,h1,h2,_⟩:=H;exact⟨es,c,h1,h2⟩
theorem z3n{z:Value}(T:MapT P t kt et z){l:List (Bt×Value)}(H:MapW h m (zig l))(k:Bt)(v:Value){K:zb->Prop}
  (hK:∀h':zb,MapW h' m (zig (zwp l k v))->h'.size=h.size->(∀i,i≠m->h'[i]?=h[i]?)->K h'):XRunU P (CO t (.map (some m)) (.string k) v) h K:=by
 have ae:=H.lt
 obtain⟨es,c,h1,h2,h3,h4⟩:=H
 intro B d
 have hu:=QExec.underlying (h:=h) T.map B d
 have hg:=Yv (P:=P) h1 B d
 have hc:=Wv T.key false k h B d
 have O:∀o:Obj,(setObj m o).run P (mk B d h)=.ok () (mk B d (h.setIfInBounds m o)):=by
  intro o
  have:(mk B d h).heap[m]?=some (.map es c):=h1
  simp[setObj,Sem.run,this]
  rfl
 unfold CO
 rcases Jp k es.toList l 0 h2 with⟨g1,g2⟩|⟨j,v0,e,g1,g2,g3,g4,g5,g6⟩
 ·refine⟨d,h.setIfInBounds m (.map (es.push { key:=.string k,val:=v,born:=c }) (c+1)),?_,hK _ ⟨es.push { key:=.string k,val:=v,born:=c },c+1,by simp[ae],?_,?_,?_⟩ (by simp) (λi hi=>by rw[AH (Ne.symm hi)])⟩
  ·rw[Sem.run_bind,hu]
   simp only[Result.andThen_ok,Sem.run_bind,hg,hc]
   rw[Zo T.key k es.toList none h g2 B d]
   simp only[Result.andThen_ok]
   exact O _
  ·rw[zax g1]
   unfold zig at h2 ⊢
   simp[h2]
  ·intro e he
   simp at he
   rcases he with he|rfl
   ·have:=h3 e (by simpa using he);omega
   ·simp
  ·simp only[Array.toList_push,Cq,CY,List.map_nil]
   rw[A6]
   refine⟨h4,by simp,λx hx y hy e=>?_⟩
   simp at hy
   obtain⟨e',aa,rfl⟩:=BC.1 hx
   have:=h3 e' aa;omega
 ·have ai:j<es.size:=by
   have:=(Az.1 g2).1
   simpa using this
  have Z:((es.modify j λe=>{ e with key:=.string k,val:=v }).toList.map (·.born))=es.toList.map (·.born):=by
   apply AZ
   intro i
   simp only[Array.toList_modify,Cc,List.getElem?_modify]
   by_cases ac:j=i
   ·subst ac;cases es.toList[j]? <;> simp
   ·cases es.toList[i]? <;> simp[ac]
  refine⟨d,_,?_,hK (h.setIfInBounds m (.map (es.modify j λe=>{ e with key:=.string k,val:=v }) c)) ⟨es.modify j λe=>{ e with key:=.string k,val:=v },c,by simp[ae],?_,?_,?_⟩ (by simp) (λi hi=>by rw[AH (Ne.symm hi)])⟩
  ·rw[Sem.run_bind,hu]
   simp only[Result.andThen_ok,Sem.run_bind,hg,hc]
   rw[Zo T.key k es.toList _ h g5 B d]
   simp only[Result.andThen_ok,AD]
   have af:((es[j]?).map (·.key)).getD (.string k)=.string k:=by
    have:es[j]?=some e:=by simpa using g2
    rw[this];exact g3
   rw[af]
   have hs:Eg (.string k) (.string k)=pure (.string k):=by
    unfold Eg
    rw[if_pos (by show(k==k)=true;rw[zjt];simp)]
   rw[hs]
   exact O _
  ·have:=g6 v
   unfold zig
   simpa using this
  ·intro e' aa
   have:e'.born∈((es.modify j λe=>{ e with key:=.string k,val:=v }).toList.map (·.born)):=BC.2 ⟨e',aa,rfl⟩
   rw[Z]at this
   obtain⟨e2,ah,e3⟩:=BC.1 this
   rw[<-e3];exact h3 e2 ah
  ·rw[Z];exact h4
def MapIt(h:zb)(r m:Nat)(l:List (Value×Value))(dn:List Value):Prop:=
 ∃es Z O aa c,h[r]?=some (.mapIter (some m) O aa c)/\h[m]?=some (.map es Z)/\es.toList.map (λe=>(e.key,e.val))=l/\(∀e∈es.toList,e.born<O)/\O<=c/\O<=Z/\(es.toList.map (·.born)).Nodup /\
  ∀e∈es.toList,aa.contains e.born=true↔e.key∈dn
theorem MapIt.keep{l:List (Value×Value)}(H:MapIt h r m l dn)(k1:h'[r]?=h[r]?)(k2:h'[m]?=h[m]?):MapIt h' r m l dn:=by
 obtain⟨es,Z,O,aa,c,h1,h2,h3⟩:=H
 exact⟨es,Z,O,aa,c,k1.trans h1,k2.trans h2,h3⟩
def z4x(h:zb)(r m:Nat)(k v:Value):Prop:=
 ∃(es:Array MapEntry) (O Z:Nat) (aa:Array Nat) (e:MapEntry),h[r]?=some (.mapIter (some m) Z (aa.push e.born) O)/\h[m]?=some (.map es O)/\e∈es.toList/\(es.toList.map (·.born)).Nodup/\e.key=k/\e.val=v
theorem z3o(ht:P.underlying t=some (.map kt et)){l:List (Value×Value)}(H:MapW h m l)
  (hK:∀h',h'.size=h.size+1->Keep h.size h h'->MapIt h' h.size m l []->K (.pointer (some ⟨h.size,0,none⟩)) h'):XRun P (EU t (.map (some m))) h K:=by
 have O:=H.lt
 obtain⟨es,c,h1,h2,h3,h4⟩:=H
 intro B d
 have hu:=QExec.underlying (h:=h) ht B d
 have hg:=Yv (P:=P) h1 B d
 refine⟨.pointer (some ⟨h.size,0,none⟩),d,h.push (.mapIter (some m) c #[] c),?_,hK _ (by simp) (Keep.push _ _ (Ae _)) ⟨es,c,c,#[],c,j6 _ _,?_,h2,h3,Ae _,Ae _,h4,λe he=>by simp⟩⟩
 ·unfold EU
  rw[Sem.run_bind,hu]
  simp only[Result.andThen_ok,Sem.run_bind,hg,Sem.run_pure]
  rfl
 ·rw[BH,if_neg (by omega)];exact h1
theorem zvx{es:List MapEntry}(h:(es.map (·.born)).Nodup){a b:MapEntry}(ha:a∈es)(hb:b∈es)(e:a.born=b.born):a=b:=by
 induction es with
 |nil=>cases ha
 |cons x es ih=>
  rw[CY,CF]at h
  rcases Ad.1 ha with h1|h1
  ·rcases Ad.1 hb with h2|h2
   ·rw[h1,h2]
   ·exact(h.1 (BC.2 ⟨b,h2,by rw[<-e,h1]⟩)).elim
  ·rcases Ad.1 hb with h2|h2
   ·exact(h.1 (BC.2 ⟨a,h1,by rw[e,h2]⟩)).elim
   ·exact ih h.2 h1 h2
theorem zz6{es:List MapEntry}(h:(es.map (·.key)).Nodup){a b:MapEntry}(ha:a∈es)(hb:b∈es)(e:a.key=b.key):a=b:=by
 induction es with
 |nil=>cases ha
 |cons x es ih=>
  rw[CY,CF]at h
  rcases Ad.1 ha with h1|h1
  ·rcases Ad.1 hb with h2|h2
   ·rw[h1,h2]
   ·exact(h.1 (BC.2 ⟨b,h2,by rw[<-e,h1]⟩)).elim
  ·rcases Ad.1 hb with h2|h2
   ·exact(h.1 (BC.2 ⟨a,h1,by rw[e,h2]⟩)).elim
   ·exact ih h.2 h1 h2
def leftN(h:zb)(r m:Nat):Nat:=match h[r]?,h[m]? with
 |some (.mapIter _ _ seen _),some (.map es _)=>(es.toList.filter λe=>!seen.contains e.born).length
 |_,_=>0
theorem leftN.keep(k1:h'[r]?=h[r]?)(k2:h'[m]?=h[m]?):leftN h' r m=leftN h r m:=by unfold leftN;rw[k1,k2]
theorem zpl{α:Type}{p q:α->Bool}(h:∀x,p x=true->q x=true):∀l:List α,(l.filter p).length<=(l.filter q).length
 |[]=>Ae _
 |x::l=>by
  have:=zpl h l
  rw[List.filter_cons,List.filter_cons]
  by_cases hp:p x=true
  ·rw[if_pos hp,if_pos (h x hp)];simp;omega
  ·rw[if_neg hp]
   split
   ·simp;omega
   ·exact this
theorem filter_lt{α:Type}{p q:α->Bool}(h:∀x,p x=true->q x=true){e:α}(h1:p e=false)(h2:q e=true):∀l:List α,e∈l->(l.filter p).length<(l.filter q).length
 |[],he=>by cases he
 |x::l,he=>by
  rw[List.filter_cons,List.filter_cons]
  rcases Ad.1 he with rfl|he
  ·have:=zpl h l
   rw[if_neg (by rw[h1];simp),if_pos h2];simp;omega
  ·have:=filter_lt h h1 h2 l he
   by_cases hp:p x=true
   ·rw[if_pos hp,if_pos (h x hp)];simp;omega
   ·rw[if_neg hp]
    split
    ·simp;omega
    ·exact this
theorem z8w{l:List (Value×Value)}(H:MapIt h r m l dn)(hn:(l.map (·.1)).Nodup)(ak:r≠m)
  (ai:(∀p∈l,p.1∈dn)->K (.tuple #[.bool false]) h)
  (af:∀k v,(k,v)∈l->k∉dn->∀h',MapIt h' r m l (k::dn)->z4x h' r m k v->h'.size=h.size->(∀j,j≠r->h'[j]?=h[j]?)->leftN h' r m<leftN h r m->K (.tuple #[.bool true,k,v]) h'):
  XRun P (EZ (.pointer (some ⟨r,0,none⟩)) false ty) h K:=by
 obtain⟨es,O,Z,aa,c,h1,h2,h3,h4,h5,h6,h7,h8⟩:=H
 intro B d
 have hk:(es.toList.map (·.key)).Nodup:=by
  have e:es.toList.map (·.key)=l.map (·.1):=by rw[<-h3,DG];rfl
  rw[e];exact hn
 rcases run_next_at (P:=P) (mk B d h) ty r m Z c aa es O h1 h2 h4 h5 with⟨e0,e1⟩|⟨e,he,w1,hw,e1⟩
 ·refine⟨_,d,h,e1,ai λp hp=>?_⟩
  rw[<-h3]at hp
  obtain⟨x,hx,rfl⟩:=BC.1 hp
  refine(h8 x hx).1 ?_
  have:leftOf es aa=#[]:=Array.eq_empty_of_size_eq_zero e0
  unfold leftOf at this
  rw[Array.filter_eq_empty_iff]at this
  have:=this x (by simpa using hx)
  simpa using this
 ·have ac:e∈es.toList/\aa.contains e.born=false:=by
   unfold leftOf at he
   simpa using he
  have hr:r<h.size:=(Ac.1 h1).1
  have aj:∃d',setBlock w1 r (.mapIter (some m) Z (aa.push e.born) O)=mk B d' (h.setIfInBounds r (.mapIter (some m) Z (aa.push e.born) O)):=by
   rcases hw with rfl|rfl
   ·exact⟨d,rfl⟩
   ·exact⟨d+1,rfl⟩
  obtain⟨d',al⟩:=aj
  rw[al]at e1
  have ah:(h.setIfInBounds r (.mapIter (some m) Z (aa.push e.born) O))[m]?=some (.map es O):=by rw[AH ak];exact h2
  have ae:(h.setIfInBounds r (.mapIter (some m) Z (aa.push e.born) O))[r]?=some (.mapIter (some m) Z (aa.push e.born) O):=by simp[hr]
  refine⟨_,d',_,e1,af e.key e.val (by rw[<-h3];exact BC.2 ⟨e,ac.1,rfl⟩) (λhm=>?_) _ ⟨es,O,Z,aa.push e.born,O,ae,ah,h3,h4,h6,h6,h7,λx hx=>?_⟩ ⟨es,O,Z,aa,e,ae,ah,ac.1,h7,rfl,rfl⟩ (by simp) (λj hj=>by rw[AH (Ne.symm hj)]) ?_⟩
  ·have:=(h8 e ac.1).2 hm
   rw[ac.2]at this;cases this
  ·rw[Ad,<-h8 x hx]
   simp only[Array.contains_eq_mem,Array.mem_push,decide_eq_true_eq]
   constructor
   ·rintro(h|h)
    ·exact .inr h
    ·exact .inl (by rw[zvx h7 hx ac.1 h])
   ·rintro(h|h)
    ·exact .inr (by rw[zz6 hk hx ac.1 h])
    ·exact .inl h
  ·unfold leftN
   rw[ae,ah,h1,h2]
   refine filter_lt (e:=e) (λx hx=>?_) ?_ ?_ _ ac.1
   ·simp only[Array.contains_eq_mem,Array.mem_push]at hx ⊢
    simp at hx ⊢
    exact hx.1
   ·simp
   ·rw[ac.2];rfl
theorem z3p{k v:Value}(H:z4x h r m k v)(hK:K (.tuple #[k,v]) h):XRun P (Instr.entry (.pointer (some ⟨r,0,none⟩))) h K:=by
 obtain⟨es,Z,O,aa,e,h1,h2,h3,h4,rfl,rfl⟩:=H
 intro B d
 exact⟨_,d,h,run_entry_at (P:=P) (mk B d h) r m O aa es Z e h1 h2 h3 h4,hK⟩
theorem zz7(ht:P.underlying t=some (.map kt et)){l:List (Value×Value)}(H:MapW h m l):QExec P (CK #[t] ty #[.map (some m)]) h (.int .i64 (l.length:Int)):=by
 obtain⟨es,c,h1,h2,_⟩:=H
 intro B d
 have hu:=QExec.underlying (h:=h) ht B d
 have hg:=Yv (P:=P) h1 B d
 have hl:l.length=es.size:=by rw[<-h2];simp
 simp[CK,hu,hg,goInt,hl]
end
end Go.X
end
section
namespace Go.X
open Go Go.Lib
section
variable {v:Tr} {o:OpT}
def z01(kb:List Bt)(ys:List Tr)(q:Tr->Tr->Bool)(k:Bt)(x:Tr):Bool:=match ys[(idxOfS kb k).toNat]? with
 |some y=>decide (0<=idxOfS kb k)&&q x y
 |none=>false
theorem zpm(b:Tr):∀(ks:List Bt) (xs:List Tr),ks.length=xs.length->zrd ks xs b=(ks.zip xs).all λp=>z01 b.keys b.items J9 p.1 p.2
 |[],[],_=>by simp[zrd]
 |k::ks,x::xs,h=>by
  rw[zrd,zpm b ks xs (by simpa using h)]
  rfl
 |[],_::_,h=>by simp at h
 |_::_,[],h=>by simp at h
theorem zpn:∀(xs ys:List Tr),xs.length=ys.length->zrc xs ys=(xs.zip ys).all λp=>J9 p.1 p.2
 |[],[],_=>by simp[zrc]
 |x::xs,y::ys,h=>by
  rw[zrc,zpn xs ys (by simpa using h)]
  rfl
 |[],_::_,h=>by simp at h
 |_::_,[],h=>by simp at h
theorem zf0(a b:Tr):J9 a b=(decide (a.kind=b.kind)&&(decide (a.text=b.text)&&(decide (a.items.length=b.items.length)&&(if a.kind=6 then zrd a.keys a.items b else zrc a.items b.items)))):=by cases a;rw[J9]
theorem zz8{ks:List Bt}{k:Bt}{j:Nat}(h:idxOfS ks k=(j:Int)):j<ks.length:=by
 rcases zmg k ks 0 with⟨h1,_⟩|⟨i,h1,h2,_⟩
 ·unfold idxOfS at h;rw[h1]at h;omega
 ·unfold idxOfS at h;rw[h1]at h;omega
theorem Ym:Sm zT:=⟨by simp[zT,tsz,xd],by
 refine(Ja _ _).2 ⟨⟨?_,by simp[zT],by simp[zT]⟩,Yh.2 (by simp[zT])⟩
 show(0:Nat)<=_;omega⟩
theorem Sm.find{v x:Tr}{p:List Bt}(h:Sm v)(hf:qz v p=some x):Sm x:=by
 obtain⟨h1,h2,_⟩:=jz hf
 exact⟨by have:=h.sz;omega,h2 _ h.tx⟩
theorem zm6{v w:Tr}{p:List Bt}(hv:Sm v)(hw:Sm w)(ho:Y9 zy v=true)(h1:tsz v<=1000000)(h2:tsz w<=1000000)(hp:∀s∈p,s.size<=1048576):Sm (zje (zni v p w)).1:=by
 cases h:zni v p w with
 |none=>exact Ym
 |some t=>exact⟨by have:=z8o h;show tsz t<=_;omega,z8p h hv.tx hw.tx ho h1 hp⟩
theorem z4y(hv:Sm v)(ov:ye v=true)(hw:Sm o.2.2.2)(h2:tsz o.2.2.2<=1000000)(hp:∀s∈o.2.1,s.size<=1048576):Sm (doR v o).1:=by
 have hs:=zmj ov
 have ok:=Xn ov
 unfold doR
 split
 ·split
  ·exact Ym
  ·split
   ·exact Ym
   ·exact⟨by have:=zh4 v o.2.1;show tsz (zpp v o.2.1)<=_;omega,zre hv.tx _⟩
 ·split
  ·split
   ·exact Ym
   ·exact z7h hv hw (by omega) _
  ·split
   ·split
    ·exact Ym
    ·rename_i y hy
     have Z:=jz hy
     split
     ·split
      ·exact Ym
      ·exact hv
     ·rename_i O
      have hf:o.2.2.1≠[]:=λe=>O (by rw[e];simp)
      exact zm6 ⟨by have:=zh4 v o.2.2.1;omega,zre hv.tx _⟩ (hv.find hy) (ztt ok hf hy) (by have:=zh4 v o.2.2.1;omega) (by omega) hp
   ·split
    ·split
     ·exact Ym
     ·rename_i y hy
      have Z:=jz hy
      exact zm6 hv (hv.find hy) ok (by omega) (by omega) hp
    ·split
     ·split
      ·exact Ym
      ·split
       ·exact hv
       ·exact Ym
     ·exact zm6 hv hw ok (by omega) h2 hp
theorem zda(h:ql v=true):tsz v<=4096:=zmj (wh h)
theorem z3q(h:zfh v=true):tsz v=1:=by
 unfold zfh at h
 have:=(of_decide_eq_true h).2.2.2
 rw[wa,this];rfl
theorem zh6(h:qg o=true):tsz o.2.2.2<=4096:=by
 unfold qg at h
 simp only[AI]at h
 have h:=h.2.2.2.2
 cases hs:(zz (lb o.1)).1 with
 |true=>rw[hs]at h;exact zda h
 |false=>rw[hs]at h;rw[z3q h];omega
theorem Wb(h:qg o=true)(hs:(zz (lb o.1)).1=true):ye o.2.2.2=true:=by
 unfold qg at h
 simp only[AI]at h
 have h:=h.2.2.2.2
 rw[hs]at h;exact wh h
theorem zh7{s:Bs}(h:s=z3i\/s=Q2\/s=zh1):(zz s).1=true:=by unfold zz;rw[if_pos h]
theorem z3r{s:Bs}(h:(zz s).2.2=true)(h1:s≠zaa)(h2:s≠Q2)(h3:s≠zku)(h4:s≠zkv)(h5:s≠zh1):s=z3i:=by
 unfold zz at h
 split at h
 ·rename_i hc
  rcases hc with hc|hc|hc
  ·exact hc
  ·exact absurd hc h2
  ·exact absurd hc h5
 ·split at h
  ·rename_i hc
   rcases hc with hc|hc
   ·exact absurd hc h3
   ·exact absurd hc h4
  ·exact absurd (of_decide_eq_true h) h1
end
end Go.X
end
section
namespace Go.X
open Go Go.X Go.Proofs Go.Lib
section
variable {h:zb} {M gl:Fr} {F:FuncId} {xs ys:List Tr}
theorem mapVal:MapT Tp 137 9 25 (.agg #[.int .i64 0,.string ⟨#[]⟩,.slice none 0 0,.slice none 0 0]):=⟨by kernel_rfl,by kernel_rfl,⟨Tryz.t25,by kernel_rfl,by kernel_rfl⟩⟩
theorem zm7(k:Bt):∀(ks:List Bt) (us:List Value) (i:Nat),ks.length=us.length->(idxFromS ks k i=-1/\zb4 (ks.zip us) k=none)\/∃j u,idxFromS ks k i=((i+j:Nat):Int)/\us[j]?=some u/\zb4 (ks.zip us) k=some u
 |[],[],_,_=>.inl ⟨rfl,rfl⟩
 |z::ks,u::us,i,h=>by
  unfold idxFromS
  rw[List.zip_cons_cons,zb4]
  by_cases hz:z=k
  ·rw[if_pos hz]
   exact .inr ⟨0,u,rfl,rfl,by rw[if_pos hz]⟩
  ·rw[if_neg hz,if_neg hz]
   rcases zm7 k ks us (i+1) (by simpa using h)with h1|⟨j,w,h1,h2,h3⟩
   ·exact .inl h1
   ·exact .inr ⟨j+1,w,by rw[h1];congr 1;omega,by simpa using h2,h3⟩
 |[],_::_,_,h=>by simp at h
 |_::_,[],_,h=>by simp at h
theorem zz9{l:List (Bt×Value)}{k:Bt}(h:k∉l.map (·.1)):zb4 l k=none:=by
 induction l with
 |nil=>rfl
 |cons p l ih=>
  simp only[CY,Ad,not_or]at h
  rw[zb4,if_neg (λe=>h.1 e.symm),ih h.2]
theorem zm8{α β:Type}{xs:List α}{ys:List β}{k:Nat}(hk:k<xs.length){u:β}(hy:ys.length=k):(xs.take (k+1)).zip (ys++[u])=(xs.take k).zip ys++[(xs[k],u)]:=by
 rw[Am hk,List.zip_append (by simp;omega)];rfl
set_option maxHeartbeats 1000000 in
theorem zeg{v:Tr}(hn:v.keys.Nodup)(hl:v.keys.length=v.items.length)(hi:v.items.length<=1000000000000){u:Value}(ag:AgM M h)(hu:RdV M .tree v u){K:Value->zb->Prop}
  (hK:∀(h':zb) (m:Nat) (us:List Value),Keep h.size h h'->h.size<=m->us.length=v.items.length->(∀i (h1:i<v.items.length) (h2:i<us.length),RdV M .tree v.items[i] us[i])->MapW h' m (zig (v.keys.zip us))->K (.map (some m)) h'):
  XC Tp 125 #[u] h K:=by
 obtain⟨sk,si,rfl,rk,ri⟩:=wq hu
 obtain⟨lk,_,_⟩:=rowLen rk
 obtain⟨li,_,_⟩:=rowLen ri
 apply zfg v.kind v.text sk si
 intro h1
 have k1:Keep h.size h h1:=Keep.push _ _ (Ae _)
 have b1:Blk h1 h.size (zc v.kind v.text sk si).toArray:=Blk.new _ _ _
 have z1:h1.size=h.size+1:=Ak _
 clear_value h1
 refine⟨sk,b1.cellAdd (by rfl),?_⟩
 intro h3
 have k3:Keep h1.size h1 h3:=Keep.push _ _ (Ae _)
 have w3:MapW h3 h1.size []:=MapW.new _
 have z3:h3.size=h1.size+1:=Ak _
 clear_value h3
 have b3:=b1.ofKeep k3
 have kk:Keep h.size h h3:=k1.trans k3 (by omega)
 refine⟨sk,b3.cellAdd (by rfl),λx g=>∃(k:Nat) (us:List Value),x=(k:Int)/\k<=v.items.length/\us.length=k/\g.size=h3.size/\(∀j,j≠h1.size->g[j]?=h3[j]?)/\(∀i (h1:i<v.items.length) (h2:i<us.length),RdV M .tree v.items[i] us[i])/\MapW g h1.size (zig ((v.keys.take k).zip us)),
  λx _=>v.items.length-x.toNat,⟨0,[],rfl,CW _,rfl,rfl,λ_ _=>rfl,λi _ h2=>by simp at h2,by simpa[zig]using w3⟩,?_⟩
 rintro x g ⟨k,us,rfl,hk,aa,zg,fg,hr,wg⟩
 have kg:Keep h.size h g:=⟨by omega,λj hj=>by rw[fg j (by omega)];exact kk.get j hj⟩
 have agg:=ag.keep kg
 refine⟨λhc=>?_,λhc=>?_⟩
 ·have O:k<v.keys.length:=by rw[lk]at hc;simp at hc;omega
  have af:k<v.items.length:=by omega
  refine zio agg rk O rfl rfl ?_
  have bg:Blk g h.size (zc v.kind v.text sk si).toArray:=b3.keep (fg _ (by omega))
  obtain⟨a,ck,ci,ea,ah,r1,r2⟩:=zok agg ri af
  refine⟨si,bg.cellAdd (by rfl),a,⟨ea,by omega,by omega⟩,v.items[k].kind,v.items[k].text,ck,ci,?_,?_⟩
  ·rw[Ah];exact ah
  refine z3n mapVal wg v.keys[k] _ λg' ac aj ai=>?_
  rw[Zz af (by omega)]
  refine⟨⟨k+1,us++[.agg #[.int .i64 v.items[k].kind,.string v.items[k].text,slV ck,slV ci]],rfl,by omega,by simp;omega,by omega,λj hj=>(ai j hj).trans (fg j hj),λi h1 h2=>?_,?_⟩,by simp only[Ah];omega⟩
  ·rw[List.getElem_append]
   split
   ·rename_i h3;exact hr i h1 h3
   ·rename_i h3
    have:i=k:=by simp at h2;omega
    subst this
    simp only[aa,Nat.sub_self,List.getElem_cons_zero]
    exact yh r1 r2
  ·rw[zm8 O aa]
   have Z:zb4 ((v.keys.take k).zip us) v.keys[k]=none:=zz9 λhm=>by
    rw[List.map_fst_zip (by simp;omega)]at hm
    have ae:=hn
    have e:v.keys=v.keys.take k++v.keys[k]::v.keys.drop (k+1):=by rw[<-AL O,BD]
    rw[e,A6]at ae
    exact ae.2.2 _ hm _ Aq rfl
   rw[zax Z]at ac
   exact ac
 ·have O:k=v.keys.length:=by rw[lk]at hc;simp at hc;omega
  subst O
  rw[AN]at wg
  exact hK g h1.size us kg (by omega) (by omega) hr wg
theorem z0a(hF:qk Tp F=true){q:Tr->Tr->Bool}(hp:∀x∈xs,∀y∈ys,PC Tp gl F [Arg.mk .tree x,Arg.mk .tree y] [.bool] (λr=>r=q x y)){s1 s2:Sl}(hM:Fr.le gl M)(ag:AgM M h)
  (r1:Rd M (.row .tree) xs [slV s1]) (r2:Rd M (.row .tree) ys [slV s2]):
  PX Tp 165 #[slV s1,slV s2,.func (.func F) #[] #[]] h M [.bool] (λr=>r=(decide (xs.length=ys.length)&&(xs.zip ys).all λp=>q p.1 p.2)):=by
 obtain⟨l1,n1,_⟩:=rowLen r1
 obtain⟨l2,n2,_⟩:=rowLen r2
 apply PX.of
 apply ya s1 s2 F #[] #[]
 refine⟨λhx=>⟨M,_,Later.refl ag,zcn.2 (rdBool _),?_⟩,λhx=>?_⟩
 ·have:¬xs.length=ys.length:=by rw[l1,l2]at hx;simp at hx;omega
  simp[this]
 have aA:xs.length=ys.length:=by rw[l1,l2]at hx;simp at hx;omega
 refine⟨λi g=>∃(k:Nat) (M':Fr),i=(k:Int)/\k<=xs.length/\Later h M g M'/\((xs.zip ys).take k).all (λp=>q p.1 p.2)=true,λi _=>xs.length-i.toNat,⟨0,M,rfl,CW _,Later.refl ag,by simp⟩,?_⟩
 rintro i g ⟨k,M',rfl,hk,L,O⟩
 refine⟨λhc=>?_,λhc=>?_⟩
 ·have af:k<xs.length:=by rw[l1]at hc;simp at hc;omega
  have ax:k<ys.length:=by omega
  obtain⟨a,ck,ci,ea,aL,t1,t2⟩:=zok L.ag (r1.mono L.le) af
  refine⟨a,⟨ea,by omega,by omega⟩,xs[k].kind,xs[k].text,ck,ci,by rw[Ah];exact aL,?_⟩
  intro ah
  have aC:Keep g.size g ah:=Keep.push _ _ (Ae _)
  have aF:Blk ah g.size (zc 0 ⟨#[]⟩ ⟨none,0,0⟩ ⟨none,0,0⟩).toArray:=Blk.new _ _ _
  have aT:ah.size=g.size+1:=Ak _
  clear_value ah
  refine qf aF rfl _ _ _ _ λZ aG aO aI=>?_
  have ar:Keep g.size g Z:=⟨by omega,λj hj=>by rw[aI j (by omega)];exact aC.get j hj⟩
  have an:=L.ag.keep ar
  obtain⟨a2,dk,di,aB,au,t3,t4⟩:=zok an (r2.mono L.le) ax
  refine⟨a2,⟨aB,by omega,by omega⟩,ys[k].kind,ys[k].text,dk,di,by rw[Ah];exact au,?_⟩
  intro ae
  have aj:Keep Z.size Z ae:=Keep.push _ _ (Ae _)
  have aM:Blk ae Z.size (zc 0 ⟨#[]⟩ ⟨none,0,0⟩ ⟨none,0,0⟩).toArray:=Blk.new _ _ _
  have aS:ae.size=Z.size+1:=Ak _
  clear_value ae
  refine qf aM rfl _ _ _ _ λac aN aQ az=>?_
  have al:Blk ac g.size (zc xs[k].kind xs[k].text ck ci).toArray:=(aG.ofKeep aj).keep (az _ (by omega))
  have aJ:Keep g.size g ac:=⟨by omega,λj hj=>by rw[az j (by omega),aj.get j (by omega)];exact ar.get j hj⟩
  have aa:Later h M ac M':=L.trans (Later.same L.ag aJ)
  refine⟨xs[k].kind,xs[k].text,ck,ci,al.ld (cs:=zc xs[k].kind xs[k].text ck ci),ys[k].kind,ys[k].text,dk,di,aN.ld (cs:=zc ys[k].kind ys[k].text dk di),hF,?_⟩
  have ai:=(hp xs[k] (Ay af) ys[k] (Ay ax)).px (h:=ac) (M:=M') (vs:=[.agg #[.int .i64 xs[k].kind,.string xs[k].text,slV ck,slV ci],.agg #[.int .i64 ys[k].kind,.string ys[k].text,slV dk,slV di]]) (hM.trans aa.le) aa.ag (yj (yh t1 t2) (yj (yh t3 t4) wm))
  refine ai.go λw aP ay r ap ak hr=>?_
  have hr:r=q xs[k] ys[k]:=hr
  subst hr
  have am:(xs.zip ys).take (k+1)=(xs.zip ys).take k++[(xs[k],ys[k])]:=by
   rw[Am (by simp;omega)];simp
  refine⟨q xs[k] ys[k],zdd ak,λhf=>⟨ay,_,aa.trans ap,zcn.2 (rdBool _),?_⟩,λht=>?_⟩
  ·have aH:q xs[k] ys[k]=false:=by simpa using hf
   have:(xs.zip ys).all (λp=>q p.1 p.2)=false:=by
    rw[List.all_eq_false]
    exact⟨(xs[k],ys[k]),List.mem_iff_getElem.2 ⟨k,by simp;omega,by simp⟩,by simp[aH]⟩
   rw[this,Bool.and_false]
  ·have aD:q xs[k] ys[k]=true:=by simpa using ht
   rw[Zz af (by omega)]
   refine⟨⟨k+1,ay,rfl,af,aa.trans ap,?_⟩,by simp only[Ah];omega⟩
   rw[am,List.all_append,O];simp[aD]
 ·have aE:k=xs.length:=by rw[l1]at hc;simp at hc;omega
  subst aE
  refine⟨M',_,L,zcn.2 (rdBool _),?_⟩
  rw[Be (by simp;omega)]at O
  rw[O];simp[aA]
theorem z0b{l:List Bt}(h:l.Nodup){i j:Nat}(hi:i<l.length)(hj:j<l.length)(e:l[i]=l[j]):i=j:=by
 unfold List.Nodup at h
 rw[List.pairwise_iff_getElem]at h
 rcases Nat.lt_trichotomy i j with h1|h1|h1
 ·exact absurd e (h i j hi hj h1)
 ·exact h1
 ·exact absurd e.symm (h j i hj hi h1)
theorem z0c{a b:Bt}(h:AW a=AW b):a=b:=by injection h
theorem z3s(ks:List Bt)(us:List Value)(h:ks.length=us.length):(zig (ks.zip us)).map (·.1)=ks.map AW:=by
 unfold zig
 rw[DG]
 have:(ks.zip us).map (λp=>AW p.1)=(ks.zip us).unzip.1.map AW:=by simp
 show(ks.zip us).map (λp=>AW p.1)=_
 rw[this,List.unzip_zip h]
theorem z0d{ks:List Bt}(h:ks.Nodup):(ks.map AW).Nodup:=by
 induction ks with
 |nil=>simp
 |cons k ks ih=>
  rw[CF]at h
  rw[CY,CF]
  refine⟨λhm=>?_,ih h.2⟩
  obtain⟨x,hx,e⟩:=BC.1 hm
  exact h.1 (z0c e ▸ hx)
set_option maxHeartbeats 2000000 in
theorem z0e(hF:qk Tp F=true){q:Tr->Tr->Bool}{ka kb:List Bt}{ua ub:List Value}(aL:ka.Nodup)(la:ka.length=xs.length)(bj:kb.length=ys.length)(bo:ua.length=xs.length)(bn:ub.length=ys.length)(ba:xs.length<=1000000000000/\ys.length<=1000000000000)
  (hp:∀x∈xs,∀y∈ys,PC Tp gl F [Arg.mk .tree x,Arg.mk .tree y] [.bool] (λr=>r=q x y)) {m1 m2:Nat} (hM:Fr.le gl M) (ag:AgM M h) (w1:MapW h m1 (zig (ka.zip ua))) (w2:MapW h m2 (zig (kb.zip ub)))
  (ra:∀i (h1:i<xs.length) (h2:i<ua.length),RdV M .tree xs[i] ua[i]) (rb:∀i (h1:i<ys.length) (h2:i<ub.length),RdV M .tree ys[i] ub[i]):
  PX Tp 166 #[.map (some m1),.map (some m2),.func (.func F) #[] #[]] h M [.bool] (λr=>r=(decide (xs.length=ys.length)&&(ka.zip xs).all λp=>z01 kb ys q p.1 p.2)):=by
 apply PX.of
 apply zx (some m1) (some m2) F #[] #[]
 have L1:(zig (ka.zip ua)).length=xs.length:=by unfold zig;simp;omega
 have L2:(zig (kb.zip ub)).length=ys.length:=by unfold zig;simp;omega
 have ai:=zz7 (P:=Tp) (ty:=3) mapVal.map w1
 have aj:=zz7 (P:=Tp) (ty:=3) mapVal.map w2
 rw[L1]at ai
 rw[L2]at aj
 refine⟨xs.length,ai,ys.length,aj,λhx=>⟨M,_,Later.refl ag,zcn.2 (rdBool _),?_⟩,λhx=>?_⟩
 ·have:¬xs.length=ys.length:=by simp at hx;omega
  simp[this]
 have aQ:xs.length=ys.length:=by simp at hx;omega
 have bc:=w1.lt
 have aE:=w2.lt
 have a6:((zig (ka.zip ua)).map (·.1)).Nodup:=by rw[z3s _ _ (by omega)];exact z0d aL
 refine z3o mapVal.map w1 λh4 z4 k4 aT=>⟨some ⟨h.size,0,none⟩,rfl,?_⟩
 refine⟨λg=>∃dn M',MapIt g h.size m1 (zig (ka.zip ua)) dn/\Later h M g M'/\h.size<g.size/\∀i (h1:i<ka.length) (h2:i<xs.length),AW ka[i]∈dn->z01 kb ys q ka[i] xs[i]=true,λg=>leftN g h.size m1,
  ⟨[],M,aT,Later.same ag k4,by omega,λi _ _ hm=>by cases hm⟩,?_⟩
 rintro g ⟨dn,M',it,L,zg,aM⟩
 have kg:=L.keep
 refine z8w it a6 (by omega) (λax=>.inl ⟨rfl,(λhc=>by cases hc),λ_=>⟨M',_,L,zcn.2 (rdBool _),?_⟩⟩) λk u aA hk g1 aZ aG z1 f1 qc3=>.inr ⟨k,u,rfl,λ_=>?_,λhc=>by cases hc⟩
 ·have aD:((ka.zip xs).all λp=>z01 kb ys q p.1 p.2)=true:=by
   rw[AP]
   intro p an
   obtain⟨i,hi,e⟩:=Bf an
   rw[List.length_zip,Nat.lt_min]at hi
   have:=aM i hi.1 hi.2 (ax (.string ka[i],ua[i]) (by
    unfold zig
    refine BC.2 ⟨(ka[i],ua[i]),List.mem_iff_getElem.2 ⟨i,by simp;omega,by simp⟩,rfl⟩))
   rw[<-e];simpa using this
  rw[aD];simp[aQ]
 ·obtain⟨i,aN,a8,ek,eu⟩:∃i,∃(h1:i<ka.length) (h2:i<ua.length),k=.string ka[i]/\u=ua[i]:=by
   unfold zig at aA
   obtain⟨p,an,e⟩:=BC.1 aA
   obtain⟨i,hi,e2⟩:=Bf an
   rw[List.length_zip,Nat.lt_min]at hi
   simp at e2
   injection e with e3 e4
   exact⟨i,hi.1,hi.2,by rw[<-e3,<-e2],by rw[<-e4,<-e2]⟩
  subst ek
  subst eu
  have aC:i<xs.length:=by omega
  have aB:Keep h.size h g1:=⟨by omega,λj hj=>by rw[f1 j (by omega)];exact kg.get j hj⟩
  have au:AgM M' g1:=λb c e=>by
   obtain⟨T,mm,e2⟩:=L.ag b c e
   by_cases hb:b=h.size
   ·subst hb
    obtain⟨_,_,_,_,_,e3,_⟩:=it
    rw[e3]at e2;cases e2
   ·exact⟨T,mm,by rw[f1 b hb];exact e2⟩
  refine z3p aG ⟨_,_,rfl,?_⟩
  intro af
  have a7:Keep g1.size g1 af:=Keep.push _ _ (Ae _)
  have aO:Blk af g1.size (zc 0 ⟨#[]⟩ ⟨none,0,0⟩ ⟨none,0,0⟩).toArray:=Blk.new _ _ _
  have bq:af.size=g1.size+1:=Ak _
  clear_value af
  obtain⟨ck,ci,eu,t1,t2⟩:=wq (ra i aC a8)
  rw[eu]
  refine qf aO rfl _ _ _ _ λac aP bh aU=>?_
  have am:Keep g1.size g1 ac:=⟨by omega,λj hj=>by rw[aU j (by omega)];exact a7.get j hj⟩
  have be:=au.keep am
  have a1:MapW ac m2 (zig (kb.zip ub)):=w2.keep ((am.get _ (by omega)).trans (aB.get _ aE))
  have Z:=zaw mapVal a1.at ka[i] true
  simp only[if_true]at Z
  obtain⟨y,dk,di,hget,t3,t4,hm1⟩:∃(y:Tr) (dk di:Sl),zuf (kb.zip ub) ka[i] (.agg #[.int .i64 0,.string ⟨#[]⟩,.slice none 0 0,.slice none 0 0])=.agg #[.int .i64 y.kind,.string y.text,slV dk,slV di]/\RdV M .tree y (.agg #[.int .i64 y.kind,.string y.text,slV dk,slV di]) /\
    ((zb4 (kb.zip ub) ka[i]).isSome=true->y∈ys)/\z01 kb ys q ka[i] xs[i]=((zb4 (kb.zip ub) ka[i]).isSome&&q xs[i] y):=by
   rcases zm7 ka[i] kb ub 0 (by omega)with⟨g1,g2⟩|⟨j,w,g1,g2,g3⟩
   ·refine⟨zT,⟨none,0,0⟩,⟨none,0,0⟩,by unfold zuf;rw[g2];rfl,?_,?_,?_⟩
    ·refine yh (v:=zT) ?_ ?_
     ·exact⟨_,rfl,none,0,rfl,⟨by simp[zT],by simp[zT]⟩,.inl rfl⟩
     ·exact⟨_,rfl,none,0,rfl,⟨by simp[zT],by simp[zT]⟩,.inl rfl⟩
    ·rw[g2];intro hc;cases hc
    ·rw[g2]
     unfold z01 idxOfS
     rw[g1]
     simp
     split
     ·rfl
     ·rfl
   ·obtain⟨hj,ej⟩:=Az.1 g2
    have al:j<ys.length:=by omega
    have hr:=rb j al hj
    rw[ej]at hr
    obtain⟨dk,di,ew,t3,t4⟩:=wq hr
    refine⟨ys[j],dk,di,by unfold zuf;rw[g3];exact ew,by rw[<-ew];exact hr,λ_=>Ay al,?_⟩
    rw[g3]
    unfold z01 idxOfS
    rw[g1]
    simp[Ai al]
  rw[hget]at Z
  refine⟨y.kind,y.text,dk,di,(zb4 (kb.zip ub) ka[i]).isSome,Z,?_⟩
  intro ah
  have aF:Keep ac.size ac ah:=Keep.push _ _ (Ae _)
  have aV:Blk ah ac.size (zc 0 ⟨#[]⟩ ⟨none,0,0⟩ ⟨none,0,0⟩).toArray:=Blk.new _ _ _
  have bp:ah.size=ac.size+1:=Ak _
  clear_value ah
  refine qf aV rfl _ _ _ _ λO aY bm aJ=>?_
  have ay:Blk O g1.size (zc xs[i].kind xs[i].text ck ci).toArray:=(aP.ofKeep aF).keep (aJ _ (by omega))
  have aa:Keep g1.size g1 O:=⟨by omega,λj hj=>by rw[aJ j (by omega),aF.get j (by omega)];exact am.get j hj⟩
  have aI:Keep h.size h O:=aB.trans aa (by omega)
  have ae:Later h M O M':=⟨aI,L.le,L.old,au.keep aa⟩
  have aH:MapIt O h.size m1 (zig (ka.zip ua)) (.string ka[i]::dn):=aZ.keep (aa.get _ (by omega)) (aa.get _ (by omega))
  have ar:leftN O h.size m1<leftN g h.size m1:=by rw[leftN.keep (aa.get h.size (by omega)) (aa.get m1 (by omega))];exact qc3
  refine⟨xs[i].kind,xs[i].text,ck,ci,λ_=>ay.ld (cs:=zc xs[i].kind xs[i].text ck ci),y.kind,y.text,dk,di,λ_=>aY.ld (cs:=zc y.kind y.text dk di),?_⟩
  have ak:z01 kb ys q ka[i] xs[i]=false->((ka.zip xs).all λp=>z01 kb ys q p.1 p.2)=false:=λhf=>by
   rw[List.all_eq_false]
   exact⟨(ka[i],xs[i]),List.mem_iff_getElem.2 ⟨i,by simp;omega,by simp⟩,by simp[hf]⟩
  refine⟨λw g2=>∃b M2,w=.bool b/\Later O M' g2 M2/\((zb4 (kb.zip ub) ka[i]).isSome=true->b=q xs[i] y),λhs=>⟨hF,?_⟩,λhs=>⟨true,true,M',rfl,Later.refl ae.ag,λhc=>by rw[hc]at hs;cases hs⟩,λ_ w g2 ⟨b,_,e,_⟩=>⟨b,e⟩,?_⟩
  ·have aS:(zb4 (kb.zip ub) ka[i]).isSome=true:=by simpa using hs
   have ap:=(hp xs[i] (Ay aC) y (t4 aS)).px (h:=O) (M:=M') (vs:=[.agg #[.int .i64 xs[i].kind,.string xs[i].text,slV ck,slV ci],.agg #[.int .i64 y.kind,.string y.text,slV dk,slV di]]) (hM.trans ae.le) ae.ag (yj (RdV.mono L.le (yh t1 t2)) (yj (RdV.mono L.le t3) wm))
   exact ap.go λw g2 M2 r L2 az hr=>⟨r,zdd az,r,M2,rfl,L2,λ_=>hr⟩
  ·rintro b g2 ⟨b',M2,e,L2,hb⟩
   cases e
   refine⟨λhf=>⟨M2,_,ae.trans L2,zcn.2 (rdBool _),?_⟩,λht=>⟨⟨_,M2,aH.keep (L2.keep.get _ (by omega)) (L2.keep.get _ (by omega)),ae.trans L2,by have:=L2.keep.size;omega,λi2 h1 h2 hm=>?_⟩,?_⟩⟩
   ·have:z01 kb ys q ka[i] xs[i]=false:=by
     rw[hm1]
     cases hs:(zb4 (kb.zip ub) ka[i]).isSome with
     |false=>rfl
     |true=>
      rw[hs]at hf
      rw[<-hb hs]
      simpa using hf
    rw[ak this,Bool.and_false]
   ·rcases Ad.1 hm with e|hm
    ·have e2:=z0c e
     have:i2=i:=z0b aL h1 aN e2
     subst this
     rw[hm1]
     cases hs:(zb4 (kb.zip ub) ka[i2]).isSome with
     |false=>rw[hs]at ht;simp at ht
     |true=>
      rw[hs]at ht
      rw[<-hb hs]
      simpa using ht
    ·exact aM i2 h1 h2 hm
   ·show leftN g2 h.size m1<leftN g h.size m1
    rw[leftN.keep (L2.keep.get h.size (by omega)) (L2.keep.get m1 (by omega))];exact ar
end
section
variable {gl:Fr}
theorem zev:qk Tp 137=true:=by kernel_rfl
theorem ztu(a b:Bt):(a.toList==b.toList)=decide (a=b):=by
 rw[AJ]
 simp only[ByteArray.toList_eq,beq_iff_eq,decide_eq_true_eq]
 constructor
 ·intro h
  cases a;cases b
  simpa using h
 ·intro h;rw[h]
theorem zh8{v:Tr}(h:zy v=true)(h6:v.kind=6):v.keys.Nodup/\v.keys.length=v.items.length:=by
 refine⟨?_,Wa h h6⟩
 unfold zy at h
 simp[h6]at h
 have:=h.1.1
 unfold Qy at this
 rw[AI]at this
 simpa using this.2
set_option maxHeartbeats 1000000 in
theorem z8x:∀(n:Nat) (a b:Tr),tsz a<=n->Sm a->Sm b->Y9 zy a=true->Y9 zy b=true->∀{R:Bool->Prop},R (J9 a b)->PC Tp gl 137 [Arg.mk .tree a,Arg.mk .tree b] [.bool] R:=by
 intro n
 induction n with
 |zero=>intro a _ h;have:=zme a;omega
 |succ n ih=>
  intro a b hn ha hb oa ob R hR h M vs hM ag aj
  match vs,aj with
  |[u1,u2],⟨ah,ak,_⟩=>
  have ah:RdV M .tree a u1:=ah
  have ak:RdV M .tree b u2:=ak
  obtain⟨sk,si,rfl,rk,ri⟩:=wq ah
  obtain⟨tk,ti,rfl,aB,af⟩:=wq ak
  obtain⟨li,_,_⟩:=rowLen ri
  obtain⟨an,_,_⟩:=rowLen af
  apply PX.of
  apply zmz a.kind a.text sk si b.kind b.text tk ti
  intro h1 h2
  have k1:Keep h.size h h1:=Keep.push _ _ (Ae _)
  have k2:Keep h1.size h1 h2:=Keep.push _ _ (Ae _)
  have b1:Blk h1 h.size (zc a.kind a.text sk si).toArray:=Blk.new _ _ _
  have b2:Blk h2 h1.size (zc b.kind b.text tk ti).toArray:=Blk.new _ _ _
  have z1:h1.size=h.size+1:=Ak _
  have z2:h2.size=h1.size+1:=Ak _
  clear_value h1 h2
  have O:=b1.ofKeep k2
  have kk:Keep h.size h h2:=k1.trans k2 (by omega)
  have L2:Later h M h2 M:=Later.same ag kk
  intro K5 az
  have ac:∀x:Bool,(x=true->J9 a b=false)->(x=false->a.kind=b.kind/\a.text=b.text/\a.items.length=b.items.length)->K5 x h2:=by
   intro x ap ax
   refine az x h2 ⟨λhx=>⟨M,_,L2,zcn.2 (rdBool _),?_⟩,λhx=>?_⟩
   ·rw[ap hx]at hR;exact hR
   obtain⟨e1,e2,e3⟩:=ax hx
   have aC:J9 a b=(if a.kind=6 then zrd a.keys a.items b else zrc a.items b.items):=by rw[zf0];simp[e1,e2,e3]
   rw[aC]at hR
   refine⟨a.kind,O.cellAdd (by rfl),λh6=>?_,λh6=>?_⟩
   ·have Z:¬a.kind=6:=by simpa using h6
    rw[if_neg Z,zpn _ _ e3]at hR
    refine⟨si,O.cellAdd (by rfl),ti,b2.cellAdd (by rfl),?_⟩
    refine(z0a (gl:=gl) zev (q:=J9) (xs:=a.items) (ys:=b.items) (λx hx y hy=>ih x y (by have:=wn hx;omega) (ha.item hx) (hb.item hy) (y0 oa hx) (y0 ob hy) rfl) hM L2.ag ri af).go λw aH au r L aa hr=>?_
    have hr:r=_:=hr
    subst hr
    refine⟨_,zdd aa,au,_,L2.trans L,zcn.2 (rdBool _),?_⟩
    rw[e3];simpa using hR
   ·have Z:a.kind=6:=by simpa using h6
    rw[if_pos Z,zpm _ _ _ (Wa (y5 oa) Z)]at hR
    obtain⟨na,la⟩:=zh8 (y5 oa) Z
    obtain⟨nb,lb⟩:=zh8 (y5 ob) (by rw[<-e1];exact Z)
    refine⟨a.kind,a.text,sk,si,O.ld (cs:=zc a.kind a.text sk si),b.kind,b.text,tk,ti,b2.ld (cs:=zc b.kind b.text tk ti),?_⟩
    refine zeg na la ha.items L2.ag (yh rk ri) λaF m1 ua ai aI ar ra w1=>⟨some m1,rfl,ai,?_⟩
    have ae:=L2.ag.keep ai
    refine zeg nb lb hb.items ae (yh aB af) λaE m2 ub am aJ aA rb w2=>⟨some m2,rfl,?_⟩
    have al:Later h M aE M:=(L2.trans (Later.same L2.ag ai)).trans (Later.same ae am)
    refine(z0e (gl:=gl) zev (q:=J9) na la lb ar aA ⟨ha.items,hb.items⟩ (λx hx y hy=>ih x y (by have:=wn hx;omega) (ha.item hx) (hb.item hy) (y0 oa hx) (y0 ob hy) rfl) hM al.ag (w1.keep (am.get _ w1.lt)) w2 ra rb).go λw aG ay r L aa hr=>?_
    have hr:r=_:=hr
    subst hr
    refine⟨_,zdd aa,ay,_,al.trans L,zcn.2 (rdBool _),?_⟩
    rw[e3];simpa using hR
  refine⟨a.kind,O.cellAdd (by rfl),b.kind,b2.cellAdd (by rfl),λhk=>ac _ (λ_=>?_) (λhc=>?_),λhk=>?_⟩
  ·rw[zf0]
   have:¬a.kind=b.kind:=by simpa using hk
   simp[this]
  ·rw[hk]at hc;cases hc
  have aD:a.kind=b.kind:=by simpa using hk
  refine⟨a.text,O.cellAdd (by rfl),b.text,b2.cellAdd (by rfl),λht=>ac _ (λ_=>?_) (λhc=>?_),λht=>⟨si,O.cellAdd (by rfl),ti,b2.cellAdd (by rfl),ac _ (λhc=>?_) (λhc=>?_)⟩⟩
  ·rw[zf0]
   have:¬a.text=b.text:=by rw[ztu]at ht;simpa using ht
   simp[this]
  ·rw[ht]at hc;cases hc
  ·rw[zf0]
   have:¬a.items.length=b.items.length:=by rw[li,an]at hc;simp at hc;omega
   simp[this]
  ·have:a.text=b.text:=by rw[ztu]at ht;simpa using ht
   exact⟨aD,this,by rw[li,an]at hc;simp at hc;omega⟩
theorem z8y(hg:GL gl){a b:Tr}(ha:Sm a)(hb:Sm b){R:Bool->Prop}(h:R (ye a&&(ye b&&J9 a b))):PC Tp gl 105 [Arg.mk .tree a,Arg.mk .tree b] [.bool] R:=by
 apply zmy
 simp only[y8]
 refine zd9 hg ha ⟨λr=>r=ye b,λ_=>zd9 hg hb rfl,λr hr=>⟨λx=>x=J9 a b,λhc=>?_,λx hx=>?_⟩⟩
 ·cases h1:ye a with
  |false=>rw[h1]at hc;cases hc
  |true=>
   rw[h1,cond_true]at hc
   have h2:=hr h1
   rw[hc]at h2
   exact z8x _ a b (Ae _) ha hb (Xn h1) (Xn h2.symm) rfl
 ·cases h1:ye a with
  |false=>rw[h1]at h;exact h
  |true=>
   rw[h1]at h hx
   have h2:=hr h1
   subst h2
   simp only[cond_true,B0]at h hx ⊢
   cases h3:ye b with
   |false=>rw[h3]at h;exact h
   |true=>rw[h3]at h hx;rw[cond_true,hx rfl];exact h
end
section
variable {h:zb} {M gl:Fr} {v:Tr} {rb:Nat} {D:List Nat} {o:OpT} {u:Value} {K:Value -> zb -> Prop}
theorem z8z{xs ys:List Bt}{s1 s2:Sl}(ag:AgM M h)(r1:Rd M (.row .str) xs [slV s1])(r2:Rd M (.row .str) ys [slV s2]):XC Tp 104 #[slV s1,slV s2] h λv h'=>v=.bool (decide (xs=ys))/\h'=h:=by
 obtain⟨l1,n1,_⟩:=rowLen r1
 obtain⟨l2,n2,_⟩:=rowLen r2
 apply Qa s1 s2
 refine⟨λhc=>⟨?_,rfl⟩,λhc=>?_⟩
 ·have:¬xs=ys:=λe=>by rw[l1,l2,e]at hc;simp at hc
  simp[this]
 have aa:xs.length=ys.length:=by rw[l1,l2]at hc;simp at hc;omega
 refine⟨λi g=>∃k:Nat,i=k/\k<=xs.length/\g=h/\xs.take k=ys.take k,λi _=>xs.length-i.toNat,⟨0,rfl,CW _,rfl,by simp⟩,?_⟩
 rintro i g ⟨k,rfl,hk,rfl,he⟩
 refine⟨λhc=>?_,λhc=>?_⟩
 ·have h1:k<xs.length:=by rw[l1]at hc;simp at hc;omega
  have h2:k<ys.length:=by omega
  refine zio ag r1 h1 rfl rfl (zio ag r2 h2 rfl rfl ⟨λhf=>⟨?_,rfl⟩,λht=>?_⟩)
  ·rw[ztu]at hf
   have:¬xs=ys:=λe=>by subst e;simp at hf
   simp[this]
  ·rw[ztu]at ht
   have O:xs[k]=ys[k]:=by simpa using ht
   rw[Zz h1 (by omega)]
   exact⟨⟨k+1,rfl,h1,rfl,by rw[Am h1,Am h2,he,O]⟩,by simp only[Ah];omega⟩
 ·have Z:k=xs.length:=by rw[l1]at hc;simp at hc;omega
  subst Z
  refine⟨?_,rfl⟩
  rw[AN,Be (by omega)]at he
  simp[he]
set_option maxHeartbeats 2000000 in
theorem z0f(hg:GL gl)(A:At gl v h M rb D)(hp:SL o.2.1)(hw:Sm o.2.2.2)(ho:ye o.2.2.2=true)(hv:ye v=true)(hu:RdV M Yn o u)
  (hK:Res h rb D (match qz v o.2.1 with
   |none=>(zT,8)
   |some x=>if J9 x o.2.2.2 then(v,0)else(zT,9)) K):
  XC Tp 64 #[.pointer (some ⟨rb,0,none⟩),u] h K:=by
 obtain⟨sp,sf,sk,si,rfl,r1,r2,r3⟩:=z3l hu
 apply zbr (some ⟨rb,0,none⟩) o.1 sp sf o.2.2.2.kind o.2.2.2.text sk si
 intro h1
 have k1:Keep h.size h h1:=Keep.push _ _ (Ae _)
 have b1:Blk h1 h.size (zw o.1 sp sf o.2.2.2 sk si).toArray:=Blk.new _ _ _
 have z1:h1.size=h.size+1:=Ak _
 clear_value h1
 have A1:=A.keep k1
 refine⟨sp,b1.cellAdd (by rfl),?_⟩
 refine A1.at hg hp r1 (λhn h4 k4=>⟨none,rfl,(λ_=>?_),λhc=>by cases hc⟩) λx hx h4 pa k4 plc=>⟨some pa,rfl,(λhc=>by cases hc),λ_=>?_⟩
 ·rw[hn]at hK
  exact zar hK (by simp) (k1.trans k4 (by omega))
 rw[hx]at hK
 simp only at hK
 have A4:=A1.keep k4
 have z4:=k4.size
 have an:Keep h.size h h4:=k1.trans k4 (by omega)
 obtain⟨xk,xi,bx,aj,ot,ap,_⟩:=Plc.ld plc
 have ah:=ot.lt
 refine⟨pa,rfl,x.kind,x.text,xk,xi,aj,o.2.2.2.kind,o.2.2.2.text,sk,si,?_,J9 x o.2.2.2,λal aa=>?_,λaf ai=>?_⟩
 ·rw[zh];exact zml (b1.ofKeep k4) (vs:=zi o.2.2.2 sk si) (o:=0+3) (i:=0) rfl
 ·have Z:=A4.ag.keep aa
  have ae:OT al x bx (zi x xk xi):=ot.frame λc hc=>aa.get c (ah c hc)
  have hs:PC Tp gl 105 [Arg.mk .tree x,Arg.mk .tree o.2.2.2] [.bool] (λr=>r=J9 x o.2.2.2):=z8y hg (A4.find_sm hx) hw (by rw[zef hv hx,ho];rfl)
  refine(hs.go (vs:=[.agg #[.int .i64 x.kind,.string x.text,slV xk,slV xi],.agg #[.int .i64 o.2.2.2.kind,.string o.2.2.2.text,slV sk,slV si]]) (A4.le.trans (Xm Z bx)) (MxL.ag Z bx) (yj ae.rdv (yj (RdV.mono (Xm Z bx) r3) wm)) λw h' M' r L ac hr=>?_)
  have hr:r=_:=hr
  subst hr
  exact⟨zdd ac,L.keep⟩
 ·have O:Keep h.size h af:=an.trans ai (by omega)
  refine⟨λhf=>?_,λht=>?_⟩
  ·have am:J9 x o.2.2.2=false:=by simpa using hf
   rw[am]at hK
   exact zar hK (by simp) O
  ·have ak:J9 x o.2.2.2=true:=by simpa using ht
   rw[ak]at hK
   refine hK af D (λ_=>A.doc.keep λc hc=>O.get c (A.doc.lt c hc)) ⟨O.size,λc q1 _ _=>O.get c q1,λc hc=>.inl hc⟩
theorem z0g{p f:List Bt}:(f=p.take f.length/\f.length<=p.length)↔(f.length<=p.length/\p.take f.length=f):=⟨λh=>⟨h.2,h.1.symm⟩,λh=>⟨h.2.symm,h.1⟩⟩
set_option maxHeartbeats 4000000 in
theorem z0h(hg:GL gl)(A:At gl v h M rb D)(aV:∀b cs,M b=some cs->b≠rb/\b∉D)(hp:SL o.2.1)(hf:SL o.2.2.1)(hv:ye v=true)(hu:RdV M Yn o u)
  (hK:Res h rb D (match qz v o.2.2.1 with
   |none=>(zT,8)
   |some y=>if o.2.2.1=o.2.1.take o.2.2.1.length/\o.2.2.1.length<=o.2.1.length then(if o.2.2.1.length<o.2.1.length then(zT,1)else(v,0))else zje (zni (zpp v o.2.2.1) o.2.1 y)) K):
  XC Tp 62 #[.pointer (some ⟨rb,0,none⟩),u] h K:=by
 obtain⟨sp,sf,sk,si,rfl,r1,r2,r3⟩:=z3l hu
 have rp:Rd M (.row .str) o.2.1 [slV sp]:=by rw[zfn rfl]at r1;exact r1
 have rf:Rd M (.row .str) o.2.2.1 [slV sf]:=by rw[zfn rfl]at r2;exact r2
 obtain⟨lp,np,cp⟩:=rowLen rp
 obtain⟨lf,nf,cf⟩:=rowLen rf
 apply zbp (some ⟨rb,0,none⟩) o.1 sp sf o.2.2.2.kind o.2.2.2.text sk si
 intro h1
 have k1:Keep h.size h h1:=Keep.push _ _ (Ae _)
 have b1:Blk h1 h.size (zw o.1 sp sf o.2.2.2 sk si).toArray:=Blk.new _ _ _
 have z1:h1.size=h.size+1:=Ak _
 clear_value h1
 have A1:=A.keep k1
 refine⟨sf,b1.cellAdd (by rfl),?_⟩
 refine A1.at hg hf r2 (λhn h4 k4=>⟨none,rfl,sf,(b1.ofKeep k4).cellAdd (by rfl),(λ_=>?_),λhc=>by cases hc⟩) λy hy h4 pa k4 plc=>⟨some pa,rfl,sf,(b1.ofKeep k4).cellAdd (by rfl),(λhc=>by cases hc),λ_=>?_⟩
 ·rw[hn]at hK
  exact zar hK (by simp) (k1.trans k4 (by omega))
 rw[hy]at hK
 simp only at hK
 have A4:=A1.keep k4
 have z4:=k4.size
 have am:Keep h.size h h4:=k1.trans k4 (by omega)
 have b4:=b1.ofKeep k4
 have a6:=A.doc.lt rb (.inl rfl)
 obtain⟨yk,yi,bx,aO,ot,a7,_⟩:=Plc.ld plc
 refine⟨sp,b4.cellAdd (by rfl),sp,(λ_=>b4.cellAdd (by rfl)),.inr ⟨_,rfl⟩,(λhc=>⟨by omega,by omega,?_,by omega⟩),sf,(λ_=>b4.cellAdd (by rfl)),decide (o.2.1.take o.2.2.1.length=o.2.2.1),(λhc=>?_),?_⟩
 ·simp at hc;omega
 ·have ai:o.2.2.1.length<=o.2.1.length:=by simp at hc;omega
  have au:=zrf rp ai
  rw[zfn rfl]at au
  have aC:(o.2.1.take o.2.2.1.length).length=o.2.2.1.length:=by rw[AY];omega
  rw[<-lf]at au aC
  have hq:=z8z (h:=h4) (s1:=⟨sp.a,sf.len,sp.cap⟩) (A4.ag) au rf
  rw[lf]at hq
  simp only[Ah,C8,Cm,Qr]
  rw[<-lf]at hq
  rw[<-lf]
  exact hq
 have aJ:(bif (decide (((sp.len:Nat):Int)>=((sf.len:Nat):Int)))then decide (o.2.1.take o.2.2.1.length=o.2.2.1)else false)=decide (o.2.2.1=o.2.1.take o.2.2.1.length/\o.2.2.1.length<=o.2.1.length):=by
  rw[AJ]
  simp only[C9,AI,decide_eq_true_eq]
  rw[z0g]
  exact⟨λh=>⟨by omega,h.2⟩,λh=>⟨by omega,h.2⟩⟩
 rw[aJ]
 refine⟨λhc=>?_,λhc=>?_⟩
 ·have ai:=of_decide_eq_true hc
  rw[if_pos ai]at hK
  refine⟨sp,b4.cellAdd (by rfl),λhl=>?_,λhl=>?_⟩
  ·rw[if_pos (by rw[lp,lf]at hl;simp at hl;omega)]at hK
   exact zar hK (by simp) am
  ·rw[if_neg (by rw[lp,lf]at hl;simp at hl;omega)]at hK
   exact hK h4 D (λ_=>A4.doc) ⟨am.size,λc q1 _ _=>am.get c q1,λc hc=>.inl hc⟩
 ·have ai:=of_decide_eq_false hc
  rw[if_neg ai]at hK
  have an:o.2.2.1≠[]:=λe=>ai (by rw[e];simp)
  refine⟨pa,rfl,y.kind,y.text,yk,yi,aO,?_⟩
  have aE:=A4.find_sm hy
  refine zht hg aE (zef hv hy) (A4.le.trans (Xm A4.ag bx)) (MxL.ag A4.ag bx) ot.rdv λaa bs ck ci aM ap aB=>⟨y.kind,y.text,ck,ci,rfl,?_⟩
  have a1:=aM.size
  intro al
  have aP:Keep aa.size aa al:=Keep.push _ _ (Ae _)
  have aU:Blk al aa.size (zc 0 ⟨#[]⟩ ⟨none,0,0⟩ ⟨none,0,0⟩).toArray:=Blk.new _ _ _
  have aY:al.size=aa.size+1:=Ak _
  clear_value al
  refine qf aU rfl _ _ _ _ λaf aQ a8 aS=>?_
  have aN:Keep aa.size aa af:=⟨by omega,λj hj=>by rw[aS j (by omega)];exact aP.get j hj⟩
  have ae:Keep h4.size h4 af:=aM.trans aN (by omega)
  have ar:Keep h.size h af:=am.trans ae (by omega)
  have Z:=A4.keep ae
  have aj:OT af y bs (zi y ck ci):=ap.frame λc hc=>aN.get c (ap.lt c hc)
  have ac:=A4.out aB
  refine⟨sf,(b4.ofKeep ae).cellAdd (by rfl),?_⟩
  refine zph hg Z.sm Z.ok hf Z.le Z.ag Z.doc r2 (λan hl=>?_) (λy hy=>zfz Z.sz hy) (λh0=>absurd h0 an) λz j hl hz hj aZ ak D' aA tn=>⟨0,rfl,(λhx=>by simp at hx),λ_=>?_⟩
  ·obtain⟨z,q1,k,q2,q3⟩:=zee an hy
   exact⟨z,q1,by rw[zh0 hl,q2];omega⟩
  have aF:zpp v o.2.2.1=Xk v (o.2.2.1.take (o.2.2.1.length-1)) (znh z j):=by
   unfold zpp zkt
   rw[hz]
   simp only
   rw[<-zh0 hl,hj];rfl
  rw[<-aF]at aA
  have zt:=tn.size
  have O:∀c,c<af.size->c≠rb->c∉D->ak[c]?=af[c]?:=tn.old
  have aI:∀c∈D,c<h.size:=λc hc=>A.doc.lt c (.inr hc)
  have ah:At gl (zpp v o.2.2.1) ak M rb D':=by
   refine⟨A.le,λb c e=>?_,aA,?_,ztt A.ok an hy,by have:=zh4 v o.2.2.1;have:=A.sz;omega⟩
   ·have hb:=Z.ag.lt e
    obtain⟨q1,q2⟩:=aV b c e
    obtain⟨T,mm,e2⟩:=Z.ag b c e
    exact⟨T,mm,by rw[O b hb q1 q2];exact e2⟩
   ·exact⟨by have:=zh4 v o.2.2.1;have:=A.sm.sz;omega,zre A.sm.tx _⟩
  have aG:Blk ak h.size (zw o.1 sp sf o.2.2.2 sk si).toArray:=(b4.ofKeep ae).keep (O _ (by omega) (by omega) (λhm=>by have:=aI _ hm;omega))
  have aL:Blk ak aa.size (zc y.kind y.text ck ci).toArray:=aQ.keep (O _ (by omega) (by omega) (λhm=>by have:=aI _ hm;omega))
  have az:OT ak y bs (zi y ck ci):=aj.frame λc hc=>O c (aj.lt c hc) (ac c hc).1 (ac c hc).2
  have aD:∀c∈bs,c≠rb/\c∉D':=λc hc=>⟨(ac c hc).1,λhm=>by
   rcases tn.own c hm with q|q|q
   ·exact(ac c hc).2 q
   ·cases q
   ·have:=aj.lt c hc;omega⟩
  refine⟨sp,aG.cellAdd (by rfl),y.kind,y.text,ck,ci,aL.ld (cs:=zc y.kind y.text ck ci),?_⟩
  refine z4w hg ah.sm ah.ok hp ah.le ah.ag ah.doc r1 az aD (λx hx=>zfz ah.sz hx) (λhn h' k'=>⟨8,rfl,?_⟩) λt ht h' aT ay ax=>⟨0,rfl,?_⟩
  ·rw[hn]at hK
   refine hK h' [] (λe=>by simp[zje]at e) ⟨by have:=k'.size;omega,λc q1 q2 q3=>?_,λc hc=>by cases hc⟩
   rw[k'.get c (by omega),O c (by omega) q2 q3];exact ar.get c q1
  ·rw[ht]at hK
   refine hK h' aT (λ_=>ay) ⟨by have:=ax.size;omega,λc q1 q2 q3=>?_,λc hc=>?_⟩
   ·have aH:c∉D':=λhm=>by
     rcases tn.own c hm with q|q|q
     ·exact q3 q
     ·cases q
     ·omega
    rw[ax.old c (by omega) q2 aH,O c (by omega) q2 q3];exact ar.get c q1
   ·rcases ax.own c hc with q|q|q
    ·rcases tn.own c q with q|q|q
     ·exact .inl q
     ·cases q
     ·exact .inr (.inr (by omega))
    ·exact .inr (.inr (by have:=aB c q;omega))
    ·exact .inr (.inr (by omega))
end
section
variable {gl M:Fr} {o:OpT}
theorem qc6(s:Bt)(a:Array UInt8):(s.toList==(⟨a⟩:Bt).toList)=decide (lb s=a.toList):=by
 rw[AJ];simp[ByteArray.toList_eq,lb]
structure OpS (o:OpT):Prop where
 p:SL o.2.1
 f:SL o.2.2.1
 v:Sm o.2.2.2
theorem zm9{s:Bt}{R:Bool×Bool×Bool->Prop}(h:R (zz (lb s))):PC Tp gl 36 [Arg.mk .str s] [.bool,.bool,.bool] R:=by
 apply zja
 simp only[qc6]
 unfold zz z3i Q2 zh1 zku zkv zaa at h
 intro K hK
 have yes:(lb s=[97,100,100]\/lb s=[114,101,112,108,97,99,101]\/lb s=[116,101,115,116])->K true:=λhc=>hK true ⟨λ_=>by rw[if_pos hc]at h;exact h,(λhc=>by cases hc)⟩
 have no:¬(lb s=[97,100,100]\/lb s=[114,101,112,108,97,99,101]\/lb s=[116,101,115,116])->K false:=λhc=>hK false ⟨(λhc=>by cases hc),λ_=>by
  rw[if_neg hc]at h
  refine⟨λh1=>⟨λ_=>?_,λh2=>?_⟩,λh1=>⟨λh2=>?_,λh2=>?_⟩⟩
  ·rw[if_pos (.inl (by simpa using h1))]at h;exact h
  ·rw[h1]at h2;cases h2
  ·rw[if_pos (.inr (by simpa using h2))]at h;exact h
  ·rw[if_neg (λhx=>by rcases hx with hx|hx <;> simp_all)]at h
   exact h⟩
 refine⟨λh1=>?_,λh1=>⟨λh2=>?_,λh2=>?_⟩⟩
 ·rw[h1];exact yes (.inl (by simpa using h1))
 ·rw[h2];exact yes (.inr (.inl (by simpa using h2)))
 ·cases h3:decide (lb s=#[116,101,115,116].toList)with
  |true=>exact yes (.inr (.inr (by simpa using h3)))
  |false=>exact no (by rintro(hx|hx|hx) <;> simp_all)
theorem zh9(hg:GL gl)(ho:OpS o){R:Bool->Prop}(h:R (qg o)):PC Tp gl 17 [Arg.mk Yn o] [.bool] R:=by
 apply zi8
 refine zm9 ?_
 simp only[y8]
 intro K hK
 have no:qg o=false->K true:=λhf=>hK true ⟨λ_=>by rw[hf]at h;exact h,(λhc=>by cases hc)⟩
 refine⟨λh1=>?_,λh1=>?_⟩
 ·rw[h1]
  exact no (by unfold qg;simp at h1;simp[h1])
 have O:(zz (lb o.1)).2.2=true:=by simpa using h1
 refine zfy hg ho.p ⟨λh2=>?_,λh2=>?_⟩
 ·rw[h2]
  exact no (by unfold qg;simp at h2;simp[h2])
 have Z:jc o.2.1=true:=by simpa using h2
 refine zfy hg ho.f ⟨λh3=>?_,λh3=>?_⟩
 ·rw[h3]
  exact no (by unfold qg;simp at h3;simp[h3])
 have aa:jc o.2.2.1=true:=by simpa using h3
 have e:(bif (!(zz (lb o.1)).2.1)then(decide (((CN o.2.2.1:Nat):Int)>0))else false)=!((zz (lb o.1)).2.1||decide (o.2.2.1=[])):=by
  rw[AJ]
  cases(zz (lb o.1)).2.1 with
  |true=>simp
  |false=>simp[A5]
 rw[e]
 cases h4:((zz (lb o.1)).2.1||decide (o.2.2.1=[]))with
 |false=>exact no (by unfold qg;rw[h4];simp)
 |true=>
  have hr:qg o=(bif (zz (lb o.1)).1 then ql o.2.2.2 else zfh o.2.2.2):=by unfold qg;rw[O,Z,aa,h4];rfl
  rw[hr]at h
  refine hK false ⟨(λhc=>by cases hc),λ_=>⟨λh5=>?_,λh5=>?_⟩⟩
  ·rw[h5]at h;exact Xo hg ho.v h
  ·rw[h5]at h;exact z8v (by have:=ho.v.keys;omega) ho.v.items h
theorem z81{sp sf sk si:Sl}(r1:RdV M (.row .str) o.2.1 (slV sp))(r2:RdV M (.row .str) o.2.2.1 (slV sf))(r3:RdV M .tree o.2.2.2 (.agg (zi o.2.2.2 sk si).toArray)):RdV M Yn o (.agg (zw o.1 sp sf o.2.2.2 sk si).toArray):=by
 rw[zfn rfl]at r1 r2
 unfold RdV at r3 ⊢
 simp only[zdn,if_true]at r3 ⊢
 obtain⟨cs,e,r3⟩:=r3
 have e:zi o.2.2.2 sk si=cs:=by injection e with e;simpa using congrArg D9 e
 subst e
 exact⟨zw o.1 sp sf o.2.2.2 sk si,rfl,[.string o.1],_,rfl,rfl,[slV sp],_,rfl,r1,[slV sf],_,rfl,r2,r3⟩
set_option maxHeartbeats 2000000 in
theorem z88(hg:GL gl){v:Tr}{h:zb}{rb:Nat}{D:List Nat}(A:At gl v h M rb D)(aF:∀b cs,M b=some cs->b≠rb/\b∉D)(hv:ql v=true)(ho:OpS o){u:Value}(hu:RdV M Yn o u){K:Value->zb->Prop}(hK:Res h rb D (Yl v o) K):
  XC Tp 33 #[.pointer (some ⟨rb,0,none⟩),u] h K:=by
 have ov:=wh hv
 have af:=hu
 obtain⟨sp,sf,sk,si,rfl,r1,r2,r3⟩:=z3l hu
 apply zed (some ⟨rb,0,none⟩) o.1 sp sf o.2.2.2.kind o.2.2.2.text sk si
 intro h1
 have k1:Keep h.size h h1:=Keep.push _ _ (Ae _)
 have b1:Blk h1 h.size (zw o.1 sp sf o.2.2.2 sk si).toArray:=Blk.new _ _ _
 have z1:h1.size=h.size+1:=Ak _
 clear_value h1
 have A1:=A.keep k1
 refine⟨o.1,sp,sf,o.2.2.2.kind,o.2.2.2.text,sk,si,b1.ld (cs:=zw o.1 sp sf o.2.2.2 sk si),?_⟩
 have al:PC Tp gl 17 [Arg.mk Yn o] [.bool] (λr=>r=qg o):=zh9 hg ho rfl
 refine al.go (vs:=[.agg (zw o.1 sp sf o.2.2.2 sk si).toArray]) A1.le A1.ag (yj af wm) λw aj aT r ax aB hr=>?_
 have hr:r=qg o:=hr
 subst hr
 have aa:Keep h.size h aj:=k1.trans ax.keep (by omega)
 have ae:=A.keep aa
 have aE:=b1.ofKeep ax.keep
 have aZ:=ax.keep.size
 refine⟨qg o,zdd aB,λhf=>?_,λht=>?_⟩
 ·have au:qg o=false:=by simpa using hf
  have:Yl v o=(zT,1):=by unfold Yl;rw[au];rfl
  rw[this]at hK
  exact zar hK (by simp) aa
 have ac:qg o=true:=by simpa using ht
 have ai:Yl v o=(if(doR v o).2=0 then(if ql (doR v o).1 then((doR v o).1,0)else(zT,1))else(zT,(doR v o).2)):=by unfold Yl;rw[ac,if_pos rfl]
 have aL:∀s∈o.2.1,s.size<=1048576:=λs hs=>by rw[<-zcp];exact ho.p.s s hs
 have aJ:Sm (doR v o).1:=z4y A.sm ov ho.v (by have:=zh6 ac;omega) aL
 intro aP az
 have Z:∀F,qk Tp F=true->(∀KK,Res aj rb D (doR v o) KK->XC Tp F #[.pointer (some ⟨rb,0,none⟩),.agg (zw o.1 sp sf o.2.2.2 sk si).toArray] aj KK)->aP (.func (.func F) #[.pointer (some ⟨rb,0,none⟩)] #[]) aj:=by
  intro F hF hX
  refine az _ aj ⟨o.1,sp,sf,o.2.2.2.kind,o.2.2.2.text,sk,si,aE.ld (cs:=zw o.1 sp sf o.2.2.2 sk si),hF,?_⟩
  refine hX _ λh' D' hD tn=>⟨(doR v o).2,rfl,λaN=>?_,λaS=>?_⟩
  ·have ap:(doR v o).2≠0:=by simpa using aN
   rw[ai,if_neg ap]at hK
   exact hK h' [] (λe=>absurd e ap) ⟨by have:=tn.size;have:=aa.size;omega,λc q1 q2 q3=>(tn.old c (by have:=aa.size;omega) q2 q3).trans (aa.get c q1),λc hc=>by cases hc⟩
  ·have ak:(doR v o).2=0:=by simpa using aS
   rw[ai,if_pos ak]at hK
   have aD:=hD ak
   have zt:=tn.size
   obtain⟨⟨cs,bd,aV,ot⟩,aU⟩:=aD
   obtain⟨dk,di,aH⟩:=ot.cells
   have aG:AgM M h':=λb c e=>by
    have hb:=ae.ag.lt e
    obtain⟨q1,q2⟩:=aF b c e
    obtain⟨T,mm,e2⟩:=ae.ag b c e
    exact⟨T,mm,by rw[tn.old b hb q1 q2];exact e2⟩
   have aA:cs=(zi (doR v o).1 dk di).toArray:=by apply ED;rw[aH];rfl
   rw[aH]at ot
   subst aA
   refine⟨⟨rb,0,none⟩,rfl,(doR v o).1.kind,(doR v o).1.text,dk,di,?_,?_⟩
   ·rw[zh];exact bd.ld (cs:=zi (doR v o).1 dk di)
   have aI:PC Tp gl 21 [Arg.mk .tree (doR v o).1] [.bool] (λr=>r=ql (doR v o).1):=Xo hg aJ rfl
   refine aI.go (vs:=[.agg #[.int .i64 (doR v o).1.kind,.string (doR v o).1.text,slV dk,slV di]]) (A.le.trans (Xm aG D')) (MxL.ag aG D') (yj ot.rdv wm) λw2 ay aY aM ar am ah=>?_
   have ah:aM=ql (doR v o).1:=ah
   subst ah
   have a1:=ar.keep.size
   have aC:Turn h ay rb D [] D':=⟨by have:=aa.size;omega,λc q1 q2 q3=>by
    have:=aa.size
    rw[ar.keep.get c (by omega),tn.old c (by omega) q2 q3];exact aa.get c q1,λc hc=>by
    rcases tn.own c hc with q|q|q
    ·exact .inl q
    ·cases q
    ·exact .inr (.inr (by have:=aa.size;omega))⟩
   refine⟨ql (doR v o).1,zdd am,λhf=>?_,λaQ=>?_⟩
   ·have au:ql (doR v o).1=false:=by simpa using hf
    rw[if_neg (by rw[au];simp)]at hK
    exact hK ay D' (λe=>by simp at e) aC
   ·have aO:ql (doR v o).1=true:=by simpa using aQ
    rw[if_pos aO]at hK
    refine hK ay D' (λ_=>?_) aC
    have hd:Doc h' rb (doR v o).1 D':=hD ak
    exact hd.keep λc hc=>ar.keep.get c (hd.lt c hc)
 have an:(zz (lb o.1)).2.2=true:=by
  unfold qg at ac
  simp only[AI]at ac
  exact ac.1
 refine⟨o.1,?_,?_⟩
 ·rw[zh];exact aE.cell (by rfl)
 simp only[qc6]
 refine⟨λc1=>?_,λc1=>⟨λc2=>?_,λc2=>⟨λc3=>?_,λc3=>⟨λc4=>?_,λc4=>⟨λc5=>?_,λc5=>?_⟩⟩⟩⟩⟩
 ·have e1:lb o.1=zaa:=of_decide_eq_true c1
  refine Z _ (by kernel_rfl) λKK O=>zrj hg ae ho.p af ?_
  unfold doR at O;rw[if_pos e1]at O;exact O
 all_goals have n1:lb o.1≠zaa:=of_decide_eq_false c1
 ·have e2:lb o.1=Q2:=of_decide_eq_true c2
  refine Z _ (by kernel_rfl) λKK O=>zpj hg ae ho.p ho.v (Wb ac (zh7 (.inr (.inl e2)))) af ?_
  unfold doR at O;rw[if_neg n1,if_pos e2]at O;exact O
 all_goals have n2:lb o.1≠Q2:=of_decide_eq_false c2
 ·have e3:lb o.1=zku:=of_decide_eq_true c3
  refine Z _ (by kernel_rfl) λKK O=>z0h hg ae aF ho.p ho.f ov af ?_
  unfold doR at O;rw[if_neg n1,if_neg n2,if_pos e3]at O;exact O
 all_goals have n3:lb o.1≠zku:=of_decide_eq_false c3
 ·have e4:lb o.1=zkv:=of_decide_eq_true c4
  refine Z _ (by kernel_rfl) λKK O=>zz3 hg ae ho.p ho.f ov af ?_
  unfold doR at O;rw[if_neg n1,if_neg n2,if_neg n3,if_pos e4]at O;exact O
 all_goals have n4:lb o.1≠zkv:=of_decide_eq_false c4
 ·have e5:lb o.1=zh1:=of_decide_eq_true c5
  refine Z _ (by kernel_rfl) λKK O=>z0f hg ae ho.p ho.v (Wb ac (zh7 (.inr (.inr e5)))) ov af ?_
  unfold doR at O;rw[if_neg n1,if_neg n2,if_neg n3,if_neg n4,if_pos e5]at O;exact O
 ·have n5:lb o.1≠zh1:=of_decide_eq_false c5
  have e6:=z3r an n1 n2 n3 n4 n5
  refine Z _ (by kernel_rfl) λKK O=>z3m hg ae ho.p ho.v (Wb ac (zh7 (.inl e6))) af ?_
  unfold doR at O;rw[if_neg n1,if_neg n2,if_neg n3,if_neg n4,if_neg n5]at O;exact O
end
section
variable {h:zb} {v:Tr} {o:OpT}
theorem opAt{M:Fr}(ag:AgM M h){xs:List OpT}{s:Sl}(H:Rd M (.row Yn) xs [slV s]){k:Nat}(hk:k<xs.length):∃(a:Addr) (sp sf sk si:Sl),s.a=some a/\zd h (a.add (k*7)) 0 (zw xs[k].1 sp sf xs[k].2.2.2 sk si)/\RdV M Yn xs[k] (.agg (zw xs[k].1 sp sf xs[k].2.2.2 sk si).toArray):=by
 obtain⟨b,o,cs,e1,e2,e3⟩:=Go.X.rowAt H hk
 have e4:RdV M Yn xs[k] (.agg (cut cs (o+k*sz Yn) (sz Yn)).toArray):=by
  unfold RdV;simp only[zdn,if_true];exact⟨_,rfl,e3⟩
 obtain⟨sp,sf,sk,si,q,_⟩:=z3l e4
 have:(cut cs (o+k*sz Yn) (sz Yn))=zw xs[k].1 sp sf xs[k].2.2.2 sk si:=by
  injection q with q
  exact congrArg D9 q
 refine⟨_,sp,sf,sk,si,e1,?_,by rw[<-this];exact e4⟩
 rw[qci]
 exact z13 ag e2 (i:=0) this
theorem zrk(s:Bt)(sp sf:Sl)(v:Tr)(sk si:Sl):∀u∈zw s sp sf v sk si,u.oneCell'=true:=by
 intro u hu
 simp[zw]at hu
 rcases hu with rfl|rfl|rfl|rfl|rfl|rfl|rfl <;> simp[Value.oneCell',slV]
theorem qdj:yu Tp 38=true:=by kernel_rfl
theorem qdk:yr Tp 38=7:=by kernel_rfl
def opZero:List Value:=[.string ⟨#[]⟩,.slice none 0 0,.slice none 0 0,.int .i64 0,.string ⟨#[]⟩,.slice none 0 0,.slice none 0 0]
theorem zrl{b:Nat}{cs:Array Value}(H:Blk h b cs)(hn:cs.size=7)(s:Bt)(sp sf:Sl)(v:Tr)(sk si:Sl){K:zb->Prop}
  (hK:∀h':zb,Blk h' b (zw s sp sf v sk si).toArray->h'.size=h.size->(∀j,j≠b->h'[j]?=h[j]?)->K h'):XRunU Tp (Al 38 (.pointer (some ⟨b,0,none⟩)) (.agg (zw s sp sf v sk si).toArray)) h K:=
 Q1 (vs:=zw s sp sf v sk si) qdj H rfl qdk (by rw[hn];exact Ae _) (zrk s sp sf v sk si) λh' e1 e2 e3=>hK h' (by rw[zzd (by rw[hn];rfl)]at e1;exact e1) e2 e3
theorem zrm(h:(Yl v o).2=0):ql (Yl v o).1=true:=by
 unfold Yl at h ⊢
 split
 ·split
  ·split
   ·rename_i h3;exact h3
   ·rename_i h1 h2 h3;rw[if_pos h1,if_pos h2,if_neg h3]at h;simp at h
  ·rename_i h1 h2;rw[if_pos h1,if_neg h2]at h;exact absurd h h2
 ·rename_i h1;rw[if_neg h1]at h;simp at h
theorem z3t(hv:Sm v)(hr:ql v=true)(ho:OpS o):Sm (Yl v o).1:=by
 unfold Yl
 split
 ·rename_i h1
  split
  ·split
   ·exact z4y hv (wh hr) ho.v (by have:=zh6 h1;omega) λs hs=>by rw[<-zcp];exact ho.p.s s hs
   ·exact Ym
  ·exact Ym
 ·exact Ym
set_option maxHeartbeats 4000000 in
theorem zna{gl:Fr}(hg:GL gl){l:List OpT}(hv:Sm v)(hl:∀o∈l,OpS o)(hn:l.length<=1000000){R:Tr×Int×Int->Prop}(hR:R (zh3 v l)):
  PC Tp gl 13 [Arg.mk .tree v,Arg.mk (.row Yn) l] [.tree,.int .i64,.int .i64] R:=by
 intro h M vs hM ag aC
 match vs,aC with
 |[u1,u2],⟨aj,aD,_⟩=>
 have aj:RdV M .tree v u1:=aj
 have aD:RdV M (.row Yn) l u2:=aD
 have ax:=aj
 obtain⟨sk,si,rfl,rk,ri⟩:=wq aj
 obtain⟨sl,rfl,rl⟩:=zin aD
 obtain⟨ll,_,_⟩:=rowLen rl
 apply PX.of
 apply zjc v.kind v.text sk si sl
 intro h1 h2
 have k1:Keep h.size h h1:=Keep.push _ _ (Ae _)
 have k2:Keep h1.size h1 h2:=Keep.push _ _ (Ae _)
 have b1:Blk h1 h.size (zc v.kind v.text sk si).toArray:=Blk.new _ _ _
 have b2:Blk h2 h1.size (zc 0 ⟨#[]⟩ ⟨none,0,0⟩ ⟨none,0,0⟩).toArray:=Blk.new _ _ _
 have z1:h1.size=h.size+1:=Ak _
 have z2:h2.size=h1.size+1:=Ak _
 clear_value h1 h2
 have aT:=b1.ofKeep k2
 have aU:Keep h.size h h2:=k1.trans k2 (by omega)
 have aZ:=ag.keep aU
 have ret:∀(g g':zb) (M':Fr) (r:Tr) (sk si:Sl) (i e:Int),Later h M g' M'->RdV M' .tree r (.agg #[.int .i64 r.kind,.string r.text,slV sk,slV si])->R (r,i,e) ->
   ∃M' r',Later h M g' M'/\zak M' [.tree,.int .i64,.int .i64] r' (.tuple #[.agg #[.int .i64 r.kind,.string r.text,slV sk,slV si],.int .i64 i,.int .i64 e])/\R r':=by
  intro g g' M' r sk si i e L hr hR
  exact⟨M',(r,i,e),L,⟨[_,_,_],⟨_,_,rfl,hr,_,_,rfl,z6j _ _,_,rfl,z6j _ _⟩,rfl⟩,hR⟩
 have aL:∀(g:zb) (i e:Int),Keep h.size h g->Blk g h1.size (zc 0 ⟨#[]⟩ ⟨none,0,0⟩ ⟨none,0,0⟩).toArray->R (zT,i,e) ->
   XRunU Tp (Al 25 (.pointer (some ⟨h1.size,0,none⟩)) (.agg #[.int .i64 0,.string (⟨#[]⟩:Bt),.slice none 0 0,.slice none 0 0])) g (λg'=>∃ar:Int,∃au:Bt,∃Z:Sl,∃aa:Sl,zd g' ⟨h1.size,0,none⟩ 0 [.int .i64 ar,.string au,.slice Z.a Z.len Z.cap,.slice aa.a aa.len aa.cap] /\
    (∃M' r',Later h M g' M'/\zak M' [.tree,.int .i64,.int .i64] r' (.tuple #[.agg #[.int .i64 ar,.string au,.slice Z.a Z.len Z.cap,.slice aa.a aa.len aa.cap],.int .i64 i,.int .i64 e])/\R r')):=by
  intro g i e kg bg a8
  refine qf bg rfl 0 ⟨#[]⟩ ⟨none,0,0⟩ ⟨none,0,0⟩ λg' b' z' f'=>⟨0,⟨#[]⟩,⟨none,0,0⟩,⟨none,0,0⟩,b'.ld (cs:=zc 0 ⟨#[]⟩ ⟨none,0,0⟩ ⟨none,0,0⟩),?_⟩
  have aB:Keep h.size h g':=⟨by have:=kg.size;omega,λj hj=>by rw[f' j (by omega)];exact kg.get j hj⟩
  refine ret g g' M zT ⟨none,0,0⟩ ⟨none,0,0⟩ i e (Later.same ag aB) ?_ a8
  refine yh (v:=zT) ?_ ?_
  ·exact⟨_,rfl,none,0,rfl,⟨by simp[zT],by simp[zT]⟩,.inl rfl⟩
  ·exact⟨_,rfl,none,0,rfl,⟨by simp[zT],by simp[zT]⟩,.inl rfl⟩
 refine⟨v.kind,v.text,sk,si,aT.ld (cs:=zc v.kind v.text sk si),?_⟩
 have ak:PC Tp gl 21 [Arg.mk .tree v] [.bool] (λr=>r=ql v):=Xo hg hv rfl
 refine ak.go (vs:=[.agg #[.int .i64 v.kind,.string v.text,slV sk,slV si]]) hM aZ (yj ax wm) λw h8 M8 r L8 aH hr=>?_
 have hr:r=ql v:=hr
 subst hr
 have k8:Keep h.size h h8:=aU.trans L8.keep (by omega)
 have z8:=L8.keep.size
 refine⟨ql v,zdd aH,λhf=>?_,λht=>?_⟩
 ·have bc:ql v=false:=by simpa using hf
  unfold zh3 at hR
  rw[bc]at hR
  exact aL h8 0 1 k8 (b2.ofKeep L8.keep) hR
 have az:ql v=true:=by simpa using ht
 have aN:zh3 v l=zh2 v l 0:=by unfold zh3;rw[az];rfl
 rw[aN]at hR
 refine⟨v.kind,v.text,sk,si,(aT.ofKeep L8.keep).ld (cs:=zc v.kind v.text sk si),?_⟩
 refine zht hg hv (wh az) hM (ag.keep k8) ax λO bs ck ci aF ot bm=>⟨v.kind,v.text,ck,ci,rfl,?_⟩
 have bC:=aF.size
 intro ac
 have aA:Keep O.size O ac:=Keep.push _ _ (Ae _)
 have bj:Blk ac O.size (zc v.kind v.text ck ci).toArray:=Blk.new _ _ _
 have bG:ac.size=O.size+1:=Ak _
 clear_value ac
 have bp:Keep h.size h ac:=(k8.trans aF (by omega)).trans aA (by omega)
 have aO:OT ac v bs (zi v ck ci):=ot.frame λc hc=>aA.get c (ot.lt c hc)
 have bh:Doc ac O.size v bs:=⟨⟨_,bj,rfl,aO⟩,λhm=>by have:=ot.lt _ hm;omega⟩
 have aV:Blk ac h1.size (zc 0 ⟨#[]⟩ ⟨none,0,0⟩ ⟨none,0,0⟩).toArray:=((b2.ofKeep L8.keep).ofKeep aF).ofKeep aA
 refine⟨λi g=>∃(k:Nat) (w:Tr) (D:List Nat),i=(k:Int)/\k<=l.length/\Keep h.size h g/\O.size<g.size/\Blk g h1.size (zc 0 ⟨#[]⟩ ⟨none,0,0⟩ ⟨none,0,0⟩).toArray/\Doc g O.size w D/\(∀c∈D,h2.size<=c)/\ql w=true/\Sm w/\R (zh2 w (l.drop k) k),
  λi _=>l.length-i.toNat,⟨0,v,bs,rfl,CW _,bp,by omega,aV,bh,(λc hc=>by have:=bm c hc;omega),az,hv,by rw[A2];exact hR⟩,?_⟩
 rintro i g ⟨k,w,D,rfl,hk,kg,zg,bg,dg,hD,ap,aP,an⟩
 have agg:=ag.keep kg
 refine⟨λhc=>?_,λhc=>?_⟩
 ·have ae:k<l.length:=by rw[ll]at hc;simp at hc;omega
  obtain⟨a,sp,sf,tk,ti,ea,bn,bo⟩:=opAt agg rl ae
  have aQ:=hl l[k] (Ay ae)
  refine⟨a,⟨ea,by omega,by omega⟩,l[k].1,sp,sf,l[k].2.2.2.kind,l[k].2.2.2.text,tk,ti,by rw[Ah];exact bn,?_⟩
  intro ai
  have a6:Keep g.size g ai:=Keep.push _ _ (Ae _)
  have bA:Blk ai g.size opZero.toArray:=Blk.new _ _ _
  have bB:ai.size=g.size+1:=Ak _
  clear_value ai
  refine zrl bA rfl l[k].1 sp sf l[k].2.2.2 tk ti λam bq bF ba=>?_
  refine⟨l[k].1,sp,sf,l[k].2.2.2.kind,l[k].2.2.2.text,tk,ti,bq.ld (cs:=zw l[k].1 sp sf l[k].2.2.2 tk ti),?_⟩
  have ay:Keep g.size g am:=⟨by omega,λj hj=>by rw[ba j (by omega)];exact a6.get j hj⟩
  have af:Keep h.size h am:=kg.trans ay (by have:=kg.size;omega)
  have a1:At gl w am M O.size D:=⟨hM,ag.keep af,dg.keep λc hc=>ay.get c (dg.lt c hc),aP,Xn (wh ap),zda ap⟩
  have be:∀b cs,M b=some cs->b≠O.size/\b∉D:=λb cs e=>by
   have:=ag.lt e
   exact⟨by omega,λhm=>by have:=hD b hm;omega⟩
  have al:R (if(Yl w l[k]).2=0 then zh2 (Yl w l[k]).1 (l.drop (k+1)) (k+1)else(zT,(k:Int),(Yl w l[k]).2)):=by
   rw[AL ae,zh2]at an
   exact an
  have key:∀(h':zb) (D':List Nat),Turn am h' O.size D [] D'->Keep h.size h h'/\Blk h' h1.size (zc 0 ⟨#[]⟩ ⟨none,0,0⟩ ⟨none,0,0⟩).toArray:=λh' D' tn=>
   ⟨⟨by have:=tn.size;have:=af.size;omega,λj hj=>by rw[tn.old j (by have:=af.size;omega) (by omega) (λhm=>by have:=hD j hm;omega)];exact af.get j hj⟩,
    (bg.ofKeep ay).keep (tn.old _ (by omega) (by omega) (λhm=>by have:=hD _ hm;omega))⟩
  refine z88 hg a1 be ap aQ bo λh' D' aJ tn=>⟨(Yl w l[k]).2,rfl,λa7=>?_,λbz=>?_⟩
  all_goals obtain⟨aI,aS⟩:=key h' D' tn
  ·have aM:¬(Yl w l[k]).2=0:=by simpa using a7
   rw[if_neg aM]at al
   exact aL h' k (Yl w l[k]).2 aI aS al
  ·have ah:(Yl w l[k]).2=0:=by simpa using bz
   rw[if_pos ah]at al
   rw[Zz ae (by omega)]
   refine⟨⟨k+1,(Yl w l[k]).1,D',rfl,ae,aI,by have:=tn.size;omega,aS,aJ ah,λc hc=>?_,zrm ah,z3t aP ap aQ,al⟩,by simp only[Ah];omega⟩
   rcases tn.own c hc with q|q|q
   ·exact hD c q
   ·cases q
   ·omega
 ·have ae:k=l.length:=by rw[ll]at hc;simp at hc;omega
  subst ae
  rw[C4,zh2]at an
  obtain⟨⟨cs,bd,bE,aE⟩,bD⟩:=dg
  obtain⟨dk,di,aY⟩:=aE.cells
  have aG:cs=(zi w dk di).toArray:=by apply ED;rw[aY];rfl
  rw[aY]at aE
  subst aG
  refine⟨⟨O.size,0,none⟩,rfl,w.kind,w.text,dk,di,?_,?_⟩
  ·rw[zh];exact bd.ld (cs:=zi w dk di)
  refine qf bg rfl w.kind w.text dk di λg' b' z' f'=>⟨w.kind,w.text,dk,di,b'.ld (cs:=zc w.kind w.text dk di),?_⟩
  have aB:Keep h.size h g':=⟨by have:=kg.size;omega,λj hj=>by rw[f' j (by omega)];exact kg.get j hj⟩
  have bu:OT g' w D (zi w dk di):=aE.frame λc hc=>f' c (by have:=hD c hc;omega)
  have L:=MxL.later (M:=M) (h0:=h) (h:=g') ag aB (bs:=D) (λc hc=>by have:=hD c hc;omega)
  rw[ll]
  exact ret g g' _ w dk di _ _ L bu.rdv an
end
end Go.X
end
section
namespace Go.X
section
theorem znb(l0:Sl)(h:zb)(R:Value->zb->Prop)
  (H:let b:=h.push (.cells #[.int .i64 0,.string (⟨#[]⟩:Bt),.slice none 0 0,.slice none 0 0] 25);XC Tp 48 #[slV l0,.func (.func 49) #[] #[]] b (λc d=>∃e,c=.bool e/\(e=true->XRunU Tp (Al 25 (.pointer (some ⟨h.size,0,none⟩)) (.agg #[.int .i64 0,.string (⟨#[]⟩:Bt),.slice none 0 0,.slice none 0 0])) d (λf=>∃g i j k,zd f ⟨h.size,0,none⟩ 0 [.int .i64 g,.string i,slV j,slV k]/\R (.tuple #[.agg #[.int .i64 g,.string i,slV j,slV k],.int .i64 1]) f))/\(e=false->(decide ((l0.len:Int)>4096)=true->XRunU Tp (Al 25 (.pointer (some ⟨h.size,0,none⟩)) (.agg #[.int .i64 0,.string (⟨#[]⟩:Bt),.slice none 0 0,.slice none 0 0])) d (λl=>∃m n o p,zd l ⟨h.size,0,none⟩ 0 [.int .i64 m,.string n,slV o,slV p]/\R (.tuple #[.agg #[.int .i64 m,.string n,slV o,slV p],.int .i64 6]) l))/\(decide ((l0.len:Int)>4096)=false->let q:=d.push (.cells #[.int .i64 0,.string (⟨#[]⟩:Bt),.slice none 0 0,.slice none 0 0] 25);XRunU Tp (Al 25 (.pointer (some ⟨d.size,0,none⟩)) (.agg #[.int .i64 5,.string (⟨#[]⟩:Bt),.slice none 0 0,.slice none 0 0])) q (λr=>∃(s:Int->zb->Prop) (t:Int->zb->Nat),s 0 r/\∀u:Int,∀v:zb,s u v->((decide (u<l0.len)=true->∃w,(l0.a=some w/\0<=u/\u<l0.len)/\∃x y z A B C D,zd v (w.add (u.toNat*7)) 0 [.string x,slV y,slV z,.int .i64 A,.string B,slV C,slV D]/\let E:=v.push (.cells #[.string (⟨#[]⟩:Bt),.slice none 0 0,.slice none 0 0,.int .i64 0,.string (⟨#[]⟩:Bt),.slice none 0 0,.slice none 0 0] 38);XRunU Tp (Al 38 (.pointer (some ⟨v.size,0,none⟩)) (.agg #[.string x,slV y,slV z,.int .i64 A,.string B,slV C,slV D])) E (λF=>∃G,zj F (Aj ⟨d.size,0,none⟩ 3)=some (slV G)/\∃I J L M N O P,zd F ⟨v.size,0,none⟩ 0 [.string I,slV J,slV L,.int .i64 M,.string N,slV O,slV P]/\XC Tp 50 #[.agg #[.string I,slV J,slV L,.int .i64 M,.string N,slV O,slV P]] F (λQ S=>∃T U V W,Q=.agg #[.int .i64 T,.string U,slV V,slV W]/\(S)[((Aj ⟨d.size,0,none⟩ 3):Addr).block]?=(F)[((Aj ⟨d.size,0,none⟩ 3):Addr).block]?/\let X:=S.push (.cells #[.int .i64 T,.string U,slV V,slV W] 25);(X)[((Aj ⟨d.size,0,none⟩ 3):Addr).block]?=(F)[((Aj ⟨d.size,0,none⟩ 3):Addr).block]?/\XRun Tp (Ax #[23,23] 23 #[slV G,.slice (some ⟨S.size,0,none⟩) 1 1]) X (λY Z=>∃aa,Y=slV aa/\XRunU Tp (Al 23 (.pointer (some (Aj ⟨d.size,0,none⟩ 3))) (slV aa)) Z (λab=>(s (Ab .i64 (u+1)) ab/\t (Ab .i64 (u+1)) ab<t u v))))))/\(decide (u<l0.len)=false->∃ac ad ae af,zd v ⟨d.size,0,none⟩ 0 [.int .i64 ac,.string ad,slV ae,slV af]/\XC Tp 21 #[.agg #[.int .i64 ac,.string ad,slV ae,slV af]] v (λag ah=>∃ai,ag=.bool ai/\((!ai)=true->XRunU Tp (Al 25 (.pointer (some ⟨h.size,0,none⟩)) (.agg #[.int .i64 0,.string (⟨#[]⟩:Bt),.slice none 0 0,.slice none 0 0])) ah (λaj=>∃ak al am an,zd aj ⟨h.size,0,none⟩ 0 [.int .i64 ak,.string al,slV am,slV an]/\R (.tuple #[.agg #[.int .i64 ak,.string al,slV am,slV an],.int .i64 1]) aj))/\((!ai)=false->∃ao ap aq ar,zd ah ⟨d.size,0,none⟩ 0 [.int .i64 ao,.string ap,slV aq,slV ar]/\XRunU Tp (Al 25 (.pointer (some ⟨h.size,0,none⟩)) (.agg #[.int .i64 ao,.string ap,slV aq,slV ar])) ah (λau=>∃av aw ax ay,zd au ⟨h.size,0,none⟩ 0 [.int .i64 av,.string aw,slV ax,slV ay]/\R (.tuple #[.agg #[.int .i64 av,.string aw,slV ax,slV ay],.int .i64 0]) au)))))))))):
  XC Tp 22 #[.slice l0.a l0.len l0.cap] h R:=
 XF ⟨[(9,8000)],[(7,[(19,.one (.int .i64))])],[]⟩ [.cell 2 25,.tmp 3] 36 Tryz.func22 H
theorem zia(b:Bt)(c:Sl)(d:Sl)(e:Int)(f:Bt)(g:Sl)(i:Sl)(h:zb)(R:Value->zb->Prop)
  (H:let j:=h.push (.cells #[.string b,slV c,slV d,.int .i64 e,.string f,slV g,slV i] 38);let k:=j.push (.cells #[.int .i64 0,.string (⟨#[]⟩:Bt),.slice none 0 0,.slice none 0 0] 25);∃l,zj k (Aj ⟨h.size,0,none⟩ 0)=some (.string l)/\XC Tp 36 #[.string l] k (λm n=>∃o p q,m=.tuple #[.bool o,.bool p,.bool q]/\let r:=n.push (.cells #[.int .i64 0,.string (⟨#[]⟩:Bt),.slice none 0 0,.slice none 0 0] 25);XRunU Tp (Al 25 (.pointer (some ⟨n.size,0,none⟩)) (.agg #[.int .i64 6,.string (⟨#[]⟩:Bt),.slice none 0 0,.slice none 0 0])) r (λs=>∃t,zj s (Aj ⟨h.size,0,none⟩ 0)=some (.string t)/\XC Tp 88 #[.string t] s (λu v=>∃w x y z,u=.agg #[.int .i64 w,.string x,slV y,slV z]/\XC Tp 87 #[.pointer (some ⟨n.size,0,none⟩),.string (⟨#[111,112]⟩:Bt),.agg #[.int .i64 w,.string x,slV y,slV z]] v (λA B=>A=.tuple #[]/\∃C,zj B (Aj ⟨h.size,0,none⟩ 1)=some (slV C)/\XC Tp 89 #[slV C] B (λD E=>∃F G,D=.tuple #[.string F,.int .i64 G]/\XC Tp 88 #[.string F] E (λI J=>∃L M N O,I=.agg #[.int .i64 L,.string M,slV N,slV O]/\XC Tp 87 #[.pointer (some ⟨n.size,0,none⟩),.string (⟨#[112,97,116,104]⟩:Bt),.agg #[.int .i64 L,.string M,slV N,slV O]] J (λP Q=>P=.tuple #[]/\∀S:zb->Prop,(∀T:zb,((o=true->∃U V W X,zd T (Aj ⟨h.size,0,none⟩ 3) 0 [.int .i64 U,.string V,slV W,slV X]/\XC Tp 32 #[.agg #[.int .i64 U,.string V,slV W,slV X]] T (λY Z=>∃aa ab ac ad,Y=.agg #[.int .i64 aa,.string ab,slV ac,slV ad]/\XC Tp 87 #[.pointer (some ⟨n.size,0,none⟩),.string (⟨#[118,97,108,117,101]⟩:Bt),.agg #[.int .i64 aa,.string ab,slV ac,slV ad]] Z (λae af=>ae=.tuple #[]/\∃ag ah ai aj,zd af ⟨n.size,0,none⟩ 0 [.int .i64 ag,.string ah,slV ai,slV aj]/\XRunU Tp (Al 25 (.pointer (some ⟨j.size,0,none⟩)) (.agg #[.int .i64 ag,.string ah,slV ai,slV aj])) af (λak=>∃al am an ao,zd ak ⟨j.size,0,none⟩ 0 [.int .i64 al,.string am,slV an,slV ao]/\R (.agg #[.int .i64 al,.string am,slV an,slV ao]) ak))))/\(o=false->∃ap aq ar au,zd T ⟨n.size,0,none⟩ 0 [.int .i64 ap,.string aq,slV ar,slV au]/\XRunU Tp (Al 25 (.pointer (some ⟨j.size,0,none⟩)) (.agg #[.int .i64 ap,.string aq,slV ar,slV au])) T (λav=>∃aw ax ay az,zd av ⟨j.size,0,none⟩ 0 [.int .i64 aw,.string ax,slV ay,slV az]/\R (.agg #[.int .i64 aw,.string ax,slV ay,slV az]) av)))->S T)->(p=true->∃aA,zj Q (Aj ⟨h.size,0,none⟩ 2)=some (slV aA)/\XC Tp 89 #[slV aA] Q (λaB aC=>∃aD aE,aB=.tuple #[.string aD,.int .i64 aE]/\XC Tp 88 #[.string aD] aC (λaF aG=>∃aH aI aJ aL,aF=.agg #[.int .i64 aH,.string aI,slV aJ,slV aL]/\XC Tp 87 #[.pointer (some ⟨n.size,0,none⟩),.string (⟨#[102,114,111,109]⟩:Bt),.agg #[.int .i64 aH,.string aI,slV aJ,slV aL]] aG (λaM aN=>aM=.tuple #[]/\S aN))))/\(p=false->S Q))))))))):
  XC Tp 50 #[.agg #[.string b,.slice c.a c.len c.cap,.slice d.a d.len d.cap,.int .i64 e,.string f,.slice g.a g.len g.cap,.slice i.a i.len i.cap]] h R:=
 XF ⟨[],[],[(9,[])]⟩ [.cell 2 25] 46 Tryz.func50 H
theorem zib(v0:Option Addr)(ac:Bt)(b:Int)(c:Bt)(d:Sl)(e:Sl)(h:zb)(R:Value->zb->Prop)
  (H:let f:=h.push (.cells #[.int .i64 b,.string c,slV d,slV e] 25);∃g,v0=some g/\∃i,zj f (Aj g 2)=some (slV i)/\∃j,v0=some j/\∃k,zj f (Aj j 3)=some (slV k)/\∃l m n o,zd f ⟨h.size,0,none⟩ 0 [.int .i64 l,.string m,slV n,slV o]/\(let p:=f.push (.cells #[.string ac] 9);(p)[(⟨h.size,0,none⟩:Addr).block]?=(f)[(⟨h.size,0,none⟩:Addr).block]?/\(p)[((Aj j 3):Addr).block]?=(f)[((Aj j 3):Addr).block]?/\(p)[((Aj g 2):Addr).block]?=(f)[((Aj g 2):Addr).block]?/\(XRun Tp (Ax #[22,22] 22 #[slV i,.slice (some ⟨f.size,0,none⟩) 1 1]) p (λq r=>∃s,q=slV s/\(r)[(⟨h.size,0,none⟩:Addr).block]?=(f)[(⟨h.size,0,none⟩:Addr).block]?/\(r)[((Aj j 3):Addr).block]?=(f)[((Aj j 3):Addr).block]?/\let t:=r.push (.cells #[.int .i64 l,.string m,slV n,slV o] 25);(t)[((Aj j 3):Addr).block]?=(f)[((Aj j 3):Addr).block]?/\XRun Tp (Ax #[23,23] 23 #[slV k,.slice (some ⟨r.size,0,none⟩) 1 1]) t (λu v=>∃w,u=slV w/\∃x,v0=some x/\XRunU Tp (Al 22 (.pointer (some (Aj x 2))) (slV s)) v (λy=>∃z,v0=some z/\XRunU Tp (Al 23 (.pointer (some (Aj z 3))) (slV w)) y (λA=>R (.tuple #[]) A)))))/\(let B:=p.push (.cells #[.int .i64 l,.string m,slV n,slV o] 25);(B)[((Aj j 3):Addr).block]?=(f)[((Aj j 3):Addr).block]?/\(B)[((Aj g 2):Addr).block]?=(f)[((Aj g 2):Addr).block]?/\XRun Tp (Ax #[22,22] 22 #[slV i,.slice (some ⟨f.size,0,none⟩) 1 1]) B (λC D=>∃E,C=slV E/\(D)[((Aj j 3):Addr).block]?=(f)[((Aj j 3):Addr).block]?/\XRun Tp (Ax #[23,23] 23 #[slV k,.slice (some ⟨p.size,0,none⟩) 1 1]) D (λF G=>∃I,F=slV I/\∃J,v0=some J/\XRunU Tp (Al 22 (.pointer (some (Aj J 2))) (slV E)) G (λL=>∃M,v0=some M/\XRunU Tp (Al 23 (.pointer (some (Aj M 3))) (slV I)) L (λN=>R (.tuple #[]) N))))))/\(let O:=f.push (.cells #[.int .i64 l,.string m,slV n,slV o] 25);(O)[((Aj j 3):Addr).block]?=(f)[((Aj j 3):Addr).block]?/\(O)[((Aj g 2):Addr).block]?=(f)[((Aj g 2):Addr).block]?/\let P:=O.push (.cells #[.string ac] 9);(P)[((Aj j 3):Addr).block]?=(f)[((Aj j 3):Addr).block]?/\(P)[((Aj g 2):Addr).block]?=(f)[((Aj g 2):Addr).block]?/\XRun Tp (Ax #[22,22] 22 #[slV i,.slice (some ⟨O.size,0,none⟩) 1 1]) P (λQ S=>∃T,Q=slV T/\(S)[((Aj j 3):Addr).block]?=(f)[((Aj j 3):Addr).block]?/\XRun Tp (Ax #[23,23] 23 #[slV k,.slice (some ⟨f.size,0,none⟩) 1 1]) S (λU V=>∃W,U=slV W/\∃X,v0=some X/\XRunU Tp (Al 22 (.pointer (some (Aj X 2))) (slV T)) V (λY=>∃Z,v0=some Z/\XRunU Tp (Al 23 (.pointer (some (Aj Z 3))) (slV W)) Y (λaa=>R (.tuple #[]) aa)))))):
  XC Tp 87 #[.pointer v0,.string ac,.agg #[.int .i64 b,.string c,.slice d.a d.len d.cap,.slice e.a e.len e.cap]] h R:=
 XF ⟨[(1,8000)],[],[]⟩ [] 26 Tryz.func87 H
theorem znc(b:Int)(c:Bt)(d:Sl)(e:Sl)(h:zb)(R:Value->zb->Prop)
  (H:let f:=h.push (.cells #[.int .i64 b,.string c,slV d,slV e] 25);let g:=f.push (.cells #[.string (⟨#[]⟩:Bt),.slice none 0 0,.slice none 0 0,.int .i64 0,.string (⟨#[]⟩:Bt),.slice none 0 0,.slice none 0 0] 38);∃i j k l,zd g ⟨h.size,0,none⟩ 0 [.int .i64 i,.string j,slV k,slV l]/\XC Tp 90 #[.agg #[.int .i64 i,.string j,slV k,slV l],.string (⟨#[111,112]⟩:Bt)] g (λm n=>∃o p,m=.tuple #[.string o,.bool p]/\XC Tp 36 #[.string o] n (λq r=>∃s t u,q=.tuple #[.bool s,.bool t,.bool u]/\((bif (!p)then true else(!u))=true->∃v w x y z A B,zd r ⟨f.size,0,none⟩ 0 [.string v,slV w,slV x,.int .i64 y,.string z,slV A,slV B]/\XRunU Tp (Al 38 (.pointer (some ⟨f.size,0,none⟩)) (.agg #[.string v,slV w,slV x,.int .i64 y,.string z,slV A,slV B])) r (λC=>∃D E F G I J L,zd C ⟨f.size,0,none⟩ 0 [.string D,slV E,slV F,.int .i64 G,.string I,slV J,slV L]/\R (.tuple #[.agg #[.string D,slV E,slV F,.int .i64 G,.string I,slV J,slV L],.bool false]) C))/\((bif (!p)then true else(!u))=false->XRunU Tp (Al 9 (.pointer (some (Aj ⟨f.size,0,none⟩ 0))) (.string o)) r (λM=>∃N O P Q,zd M ⟨h.size,0,none⟩ 0 [.int .i64 N,.string O,slV P,slV Q]/\XC Tp 91 #[.agg #[.int .i64 N,.string O,slV P,slV Q],.string (⟨#[112,97,116,104]⟩:Bt)] M (λS T=>∃U V,S=.tuple #[slV U,.bool V]/\XRunU Tp (Al 22 (.pointer (some (Aj ⟨f.size,0,none⟩ 1))) (slV U)) T (λW=>∀X:Bool->zb->Prop,(∀Y:Bool,∀Z:zb,(∀aa:Bool->zb->Prop,(∀ab:Bool,∀ac:zb,(∃ad ae af ag ah ai aj,zd ac ⟨f.size,0,none⟩ 0 [.string ad,slV ae,slV af,.int .i64 ag,.string ah,slV ai,slV aj]/\XRunU Tp (Al 38 (.pointer (some ⟨f.size,0,none⟩)) (.agg #[.string ad,slV ae,slV af,.int .i64 ag,.string ah,slV ai,slV aj])) ac (λak=>∃al am an ao ap aq ar,zd ak ⟨f.size,0,none⟩ 0 [.string al,slV am,slV an,.int .i64 ao,.string ap,slV aq,slV ar]/\R (.tuple #[.agg #[.string al,slV am,slV an,.int .i64 ao,.string ap,slV aq,slV ar],.bool ab]) ak))->aa ab ac)->((bif s then Y else false)=true->∃au av aw ax,zd Z ⟨h.size,0,none⟩ 0 [.int .i64 au,.string av,slV aw,slV ax]/\XC Tp 92 #[.agg #[.int .i64 au,.string av,slV aw,slV ax],.string (⟨#[118,97,108,117,101]⟩:Bt)] Z (λay az=>∃aA aB aC aD aE,ay=.tuple #[.agg #[.int .i64 aA,.string aB,slV aC,slV aD],.bool aE]/\XRunU Tp (Al 25 (.pointer (some (Aj ⟨f.size,0,none⟩ 3))) (.agg #[.int .i64 aA,.string aB,slV aC,slV aD])) az (λaF=>aa aE aF)))/\((bif s then Y else false)=false->aa Y Z))->X Y Z)->((bif t then V else false)=true->∃aG aH aI aJ,zd W ⟨h.size,0,none⟩ 0 [.int .i64 aG,.string aH,slV aI,slV aJ]/\XC Tp 91 #[.agg #[.int .i64 aG,.string aH,slV aI,slV aJ],.string (⟨#[102,114,111,109]⟩:Bt)] W (λaL aM=>∃aN aO,aL=.tuple #[slV aN,.bool aO]/\XRunU Tp (Al 22 (.pointer (some (Aj ⟨f.size,0,none⟩ 2))) (slV aN)) aM (λaP=>X aO aP)))/\((bif t then V else false)=false->X V W)))))))):
  XC Tp 53 #[.agg #[.int .i64 b,.string c,.slice d.a d.len d.cap,.slice e.a e.len e.cap]] h R:=
 XF ⟨[],[],[(9,[(3,.one (.bool))]),(11,[(3,.one (.bool))])]⟩ [.cell 2 38,.tmp 3] 56 Tryz.func53 H
end
section
theorem OKeys.rd{h:zb}{M:Fr}{ks:List Bt}{bs:List Nat}{s:Sl}(H:OKeys h ks bs s)(hM:∀b∈bs,∀cs,Blk h b cs->M b=some cs):Rd M (.row .str) ks [slV s]:=by
 obtain⟨k1,k2,k3,k4⟩:=H
 refine⟨slV s,rfl,s.a,s.cap,by rw[slV,k1],⟨k2,k3⟩,?_⟩
 rcases k4 with⟨h0,_⟩|⟨b',cs',rfl,e1,e2,_,e3⟩
 ·exact .inl h0
 ·refine .inr ⟨b',0,cs',e1,hM b' (by simp) cs' e2,λi hx=>?_⟩
  have:(cut cs' 0 ks.length)[i]?=some (AW ks[i]):=by rw[e3,Cc,Ai hx];rfl
  unfold cut at this
  rw[AC,if_pos hx,A2]at this
  have O:=(Az.1 this).1
  show cut cs' (0+i*1) 1=[AW ks[i]]
  unfold cut
  rw[AD,B6,AL O,B5,CM]
  rw[Ai O]at this
  rw[Au this]
end
section
structure AddSt (h:zb) (M:Fr) (v w:Tr) (sk si wk wi:Sl) (bv bw br:Nat) (g:zb) (M':Fr):Prop where
 later:Later h M g M'
 no:M' br=none
 v:Blk g bv (zc v.kind v.text sk si).toArray
 w:Blk g bw (zc w.kind w.text wk wi).toArray
 r:Blk g br (zc 0 ⟨#[]⟩ ⟨none,0,0⟩ ⟨none,0,0⟩).toArray
 lt:h.size<=bv/\h.size<=bw/\h.size<=br/\bv<g.size/\bw<g.size/\br<g.size
 ne:bv≠br/\bw≠br
theorem AddSt.step{h:zb}{M:Fr}{v w:Tr}{sk si wk wi:Sl}{bv bw br:Nat}{g g':zb}{M1 M2:Fr}(A:AddSt h M v w sk si wk wi bv bw br g M1)(L:Later g M1 g' M2):AddSt h M v w sk si wk wi bv bw br g' M2:=by
 have hz:=L.keep.size
 obtain⟨l1,l2,l3,l4,l5,l6⟩:=A.lt
 exact⟨A.later.trans L,by rw[L.old _ l6];exact A.no,A.v.ofKeep L.keep,A.w.ofKeep L.keep,A.r.ofKeep L.keep,⟨l1,l2,l3,by omega,by omega,by omega⟩,A.ne⟩
end
section
variable {b:Bs} {gl:Fr} {R:Bool -> Prop}
theorem qdl:zan (yy (Lib.itoa 9)).1=[57]:=by kernel_rfl
def o1:OpT:=(⟨#[97,100,100]⟩,[⟨#[97]⟩,⟨#[49]⟩],[],.mk 3 (bl [57]) [] [])
def o2:OpT:=(⟨#[114,101,109,111,118,101]⟩,[⟨#[97]⟩,⟨#[48]⟩],[],.mk 0 ⟨#[]⟩ [] [])
def o3:OpT:=(⟨#[109,111,118,101]⟩,[⟨#[48]⟩],[⟨#[48]⟩,⟨#[48]⟩],.mk 0 ⟨#[]⟩ [] [])
def o4:OpT:=(⟨#[116,101,115,116]⟩,[⟨#[48]⟩],[],.mk 3 (bl [50]) [] [])
def smR:Tr:=.mk 5 ⟨#[]⟩ [] [.mk 3 (bl [49]) [] []]
def smU:Tr:=.mk 6 ⟨#[]⟩ [⟨#[97]⟩] [.mk 5 ⟨#[]⟩ [] [.mk 3 (bl [57]) [] [],.mk 3 (bl [50]) [] []]]
theorem qdm:zh3 smT [o1,o2]=(smU,2,0):=by kernel_rfl
theorem qdn:zh3 smR [o3]=(zT,0,8):=by kernel_rfl
theorem qdo:zh3 smR [o4]=(zT,0,9):=by kernel_rfl
theorem qdp:z7i smU [⟨#[97]⟩,⟨#[48]⟩]=(.mk 3 (bl [57]) [] [],true):=by kernel_rfl
theorem znd(hb:b.length<=2048):txS (.mk 3 (bl b) [] []):=by
 rw[txS,zif];exact⟨⟨by rw[zq];exact hb,by simp⟩,trivial⟩
theorem z0i(hb:b.length<=2048):Sm (.mk 3 (bl b) [] []):=Sm.few (by rw[tks,zkk];simp) (znd hb)
theorem z4z:Sm smR:=by
 refine Sm.few ?_ ?_
 ·have:tks smR=2:=by kernel_rfl
  omega
 ·unfold smR
  rw[txS,zif,zif]
  exact⟨⟨by decide,by simp⟩,znd (by decide),trivial⟩
theorem qbb:Sm smU:=by
 refine Sm.few ?_ ?_
 ·have:tks smU=5:=by kernel_rfl
  omega
 ·unfold smU
  rw[txS,zif,zif,txS,zif,zif,zif]
  exact⟨⟨by decide,by decide⟩,⟨⟨by decide,by simp⟩,znd (by decide),znd (by decide),trivial⟩,trivial⟩
theorem ztv:SL []:=⟨by decide,by simp⟩
theorem zvy(hg:GL gl)(hR:R true):PC Tp gl 9 [] [.bool] R:=by
 apply zbo
 refine ztg hg (by decide) (by decide) ?_
 refine ztg hg (by decide) (by decide) ?_
 rw[qdi,qc5]
 refine zze ?_
 refine qa0 ?_
 refine ztg hg (by decide) (by decide) ?_
 rw[qdl]
 refine zna hg (v:=smT) (l:=[o1,o2]) qa9 (λo ho=>?_) (by decide) ?_
 ·rcases Ad.1 ho with rfl|ho
  ·exact⟨zab (by decide) (by decide),ztv,z0i (by decide)⟩
  ·rcases Ad.1 ho with rfl|ho
   ·exact⟨zab (by decide) (by decide),ztv,Ym⟩
   ·cases ho
 rw[qdm]
 refine zze ?_
 refine zna hg (v:=smR) (l:=[o3]) z4z (λo ho=>?_) (by decide) ?_
 ·rcases Ad.1 ho with rfl|ho
  ·exact⟨zab (by decide) (by decide),zab (by decide) (by decide),Ym⟩
  ·cases ho
 rw[qdn]
 refine zze ?_
 refine ztg hg (by decide) (by decide) ?_
 rw[qc5]
 refine zna hg (v:=smR) (l:=[o4]) z4z (λo ho=>?_) (by decide) ?_
 ·rcases Ad.1 ho with rfl|ho
  ·exact⟨zab (by decide) (by decide),ztv,z0i (by decide)⟩
  ·cases ho
 rw[qdo]
 refine z7x hg (v:=smU) qbb (zab (by decide) (by decide)) ?_
 rw[qdp]
 have key:∀b,b=true->R b:=λb hb=>hb ▸ hR
 exact key _ (by kernel_rfl)
structure OpF (o:OpT):Prop where
 p:PS o.2.1
 f:PS o.2.2.1
 v:Sm o.2.2.2
 t:tks o.2.2.2<=200
 d:o.1.size<=100
theorem OpF.s{o:OpT}(h:OpF o):OpS o:=⟨PS.sl h.p,PS.sl h.f,h.v⟩
theorem z3u{l:List OpT}(h:∀b,(b=true->l.length<=30/\∀o∈l,OpF o)->R b):PC Tp gl 11 [Arg.mk (.row Yn) l] [.bool] R:=by
 refine PC.bd λaf=>?_
 have hb:l.length<=140737488355328:=af ⟨.row Yn,l⟩ (by simp)
 apply zec
 refine⟨λi=>∃k:Nat,i=k/\k<=l.length/\k<=40/\∀o∈l.take k,OpF o,λi=>l.length-i.toNat,⟨0,rfl,by omega,by omega,by simp⟩,?_⟩
 rintro i ⟨k,rfl,hk,ah,h1⟩
 refine⟨λhc=>?_,λhc=>?_⟩
 ·have ai:(k:Int)<l.length/\(k:Int)<40:=by simpa using hc
  have O:k<l.length:=by omega
  have hy:l[(k:Int).toNat]?=some l[k]:=by rw[Ah];exact Ai O
  refine⟨l[k],⟨by omega,hy⟩,ztf λb1 aa=>⟨l[k],λ_=>⟨by omega,hy⟩,λb=>b=true->PS l[k].2.2.1,λ_=>ztf λb hb=>hb,λb2 ac=>⟨l[k],λ_=>⟨by omega,hy⟩,λb=>b=true->tks l[k].2.2.2<=200/\Sm l[k].2.2.2,λ_=>?_,λb3 ae=>⟨l[k],λ_=>⟨by omega,hy⟩,λhx=>?_,λhx=>?_⟩⟩⟩⟩
  ·rw[y8];exact z4q (by omega) λb hb e=>⟨by have:=(hb e).1;omega,(hb e).2⟩
  ·exact h false (λe=>by cases e)
  ·have hs:b1=true/\b2=true/\b3=true/\l[k].1.size<=100:=by
    cases b1 <;> cases b2 <;> cases b3 <;> simp at hx
    exact⟨rfl,rfl,rfl,by omega⟩
   obtain⟨e1,e2,e3,hd⟩:=hs
   have h3:=ae (by rw[e1,e2];rfl) e3
   have hO:OpF l[k]:=⟨aa e1,ac e1 e2,h3.2,h3.1,hd⟩
   rw[w64 (by omega)]
   refine⟨⟨k+1,by omega,by omega,by omega,λo ho=>?_⟩,by simp only[Ah];omega⟩
   rw[Am O]at ho
   rcases An.1 ho with ho|ho
   ·exact h1 o ho
   ·rw[Bu.1 ho];exact hO
 ·refine h _ λe=>?_
  have e':(l.length:Int)<=30:=by simpa using e
  have Z:k=l.length:=by
   have:¬((k:Int)<l.length/\(k:Int)<40):=by simpa using hc
   omega
  subst Z
  rw[AN]at h1
  exact⟨by omega,h1⟩
end
section
theorem zvz:jc []=true:=by kernel_rfl
end
section
variable {v:Tr}
def Wl(v:Tr)(key:Bt):Tr×Bool:=if ye v&&(decide (v.kind=6)&&decide (0<=Lib.idxOfS v.keys key))then(v.items.getD (Lib.idxOfS v.keys key).toNat zT,true)else(zT,false)
theorem zv0{M:Fr}:RdV M .tree zT (.agg #[.int .i64 0,.string (⟨#[]⟩:Bt),.slice none 0 0,.slice none 0 0]):=by
 refine yh (v:=zT) (sk:=⟨none,0,0⟩) (si:=⟨none,0,0⟩) ?_ ?_
 ·exact⟨_,rfl,none,0,rfl,⟨by simp[zT],by simp[zT]⟩,.inl rfl⟩
 ·exact⟨_,rfl,none,0,rfl,⟨by simp[zT],by simp[zT]⟩,.inl rfl⟩
theorem zpo(ho:ye v=true)(h6:v.kind=6):v.keys.Nodup/\v.keys.length=v.items.length:=
 zh8 (y5 (Xn ho)) h6
set_option maxHeartbeats 2000000 in
theorem z0j{gl:Fr}(hg:GL gl)(hv:Sm v){key:Bt}{R:Tr×Bool->Prop}(hR:R (Wl v key)):PC Tp gl 92 [Arg.mk .tree v,Arg.mk .str key] [.tree,.bool] R:=by
 intro h M vs hM ag ha
 match vs,ha with
 |[u,uk],⟨hu,Z,_⟩=>
 have hu:RdV M .tree v u:=hu
 have Z:RdV M .str key uk:=Z
 have Z:uk=.string key:=by rw[zfn rfl]at Z;have:[uk]=[AW key]:=Z;simpa using this
 subst Z
 have ai:=hu
 obtain⟨sk,si,rfl,rk,ri⟩:=wq hu
 apply PX.of
 apply zpd v.kind v.text sk si
 intro h1 h2
 have z1:h1.size=h.size+1:=Ak _
 have z2:h2.size=h1.size+1:=Ak _
 have k1:Keep h.size h h1:=Keep.push _ _ (Ae _)
 have k2:Keep h1.size h1 h2:=Keep.push _ _ (Ae _)
 have b1:Blk h1 h.size (zc v.kind v.text sk si).toArray:=Blk.new _ _ _
 have b2:Blk h2 h1.size (zc 0 ⟨#[]⟩ ⟨none,0,0⟩ ⟨none,0,0⟩).toArray:=Blk.new _ _ _
 clear_value h1 h2
 have K2:Keep h.size h h2:=k1.trans k2 (by omega)
 have ak:=ag.keep K2
 refine⟨v.kind,v.text,sk,si,(b1.ofKeep k2).ld (cs:=zc v.kind v.text sk si),?_⟩
 have ac:PC Tp gl 42 [Arg.mk .tree v] [.bool] (λr=>r=ye v):=zd9 hg hv rfl
 refine ac.go (vs:=[.agg #[.int .i64 v.kind,.string v.text,slV sk,slV si]]) hM ak (yj ai wm) λw h3 M3 r L3 ae hr=>?_
 have hr:r=ye v:=hr
 subst hr
 have K3:Keep h.size h h3:=K2.trans L3.keep (by have:=K2.size;omega)
 have z3:=L3.keep.size
 have af:=(b1.ofKeep k2).ofKeep L3.keep
 have aj:=b2.ofKeep L3.keep
 refine⟨ye v,zdd ae,v.kind,λ_=>af.cellAdd (by rfl),λhx=>?_,λhx=>?_⟩
 ·refine qf aj rfl 0 ⟨#[]⟩ ⟨none,0,0⟩ ⟨none,0,0⟩ λg' b' z' f'=>⟨0,⟨#[]⟩,⟨none,0,0⟩,⟨none,0,0⟩,b'.ld (cs:=zc 0 ⟨#[]⟩ ⟨none,0,0⟩ ⟨none,0,0⟩),?_⟩
  have ap:Keep h.size h g':=⟨by have:=K3.size;omega,λj hj=>by rw[f' j (by omega)];exact K3.get j hj⟩
  have e:Wl v key=(zT,false):=by
   unfold Wl
   cases ho:ye v with
   |false=>rfl
   |true=>
    rw[ho]at hx
    have h6:v.kind≠6:=by simpa using hx
    simp[h6]
  rw[e]at hR
  exact⟨M,(zT,false),Later.same ag ap,⟨[_,_],⟨_,_,rfl,zv0,_,rfl,rdBool _⟩,rfl⟩,hR⟩
 ·have hc:ye v=true/\v.kind=6:=by
   cases ho:ye v with
   |false=>rw[ho]at hx;cases hx
   |true=>rw[ho]at hx;exact⟨rfl,by simpa using hx⟩
  obtain⟨ho,h6⟩:=hc
  obtain⟨ax,al⟩:=zpo ho h6
  have ay:=zmj ho
  refine⟨v.kind,v.text,sk,si,af.ld (cs:=zc v.kind v.text sk si),?_⟩
  refine zeg ax al hv.items (ag.keep K3) ai λh4 m us k4 hm az ar w4=>?_
  refine⟨some m,rfl,?_⟩
  have z4:=k4.size
  have K4:Keep h.size h h4:=K3.trans k4 (by have:=K3.size;omega)
  have O:=zaw mapVal w4.at key true
  simp only[if_true]at O
  obtain⟨y,dk,di,b,hget,hry,hsy,hy⟩:∃(y:Tr) (dk di:Sl) (b:Bool),(zuf (v.keys.zip us) key (.agg #[.int .i64 0,.string ⟨#[]⟩,.slice none 0 0,.slice none 0 0])=.agg #[.int .i64 y.kind,.string y.text,slV dk,slV di]/\(zb4 (v.keys.zip us) key).isSome=b)/\RdV M .tree y (.agg #[.int .i64 y.kind,.string y.text,slV dk,slV di]) /\
    Sm y/\Wl v key=(y,b):=by
   rcases zm7 key v.keys us 0 (by omega)with⟨g1,g2⟩|⟨j,w,g1,g2,g3⟩
   ·refine⟨zT,⟨none,0,0⟩,⟨none,0,0⟩,false,⟨by unfold zuf;rw[g2];rfl,by rw[g2];rfl⟩,zv0,Ym,?_⟩
    unfold Wl Lib.idxOfS
    rw[g1]
    simp
   ·obtain⟨hj,ej⟩:=Az.1 g2
    have aa:j<v.items.length:=by omega
    have hr:=ar j aa hj
    rw[ej]at hr
    obtain⟨dk,di,ew,t3,t4⟩:=wq hr
    refine⟨v.items[j],dk,di,true,⟨by unfold zuf;rw[g3];exact ew,by rw[g3];rfl⟩,by rw[<-ew];exact hr,hv.item (Ay aa),?_⟩
    unfold Wl Lib.idxOfS
    rw[g1,ho]
    simp[h6,aa]
  rw[hget.1,hget.2]at O
  refine⟨y.kind,y.text,dk,di,b,O,?_⟩
  intro h5
  have k5:Keep h4.size h4 h5:=Keep.push _ _ (Ae _)
  have z5:h5.size=h4.size+1:=Ak _
  have b5:Blk h5 h4.size (zc 0 ⟨#[]⟩ ⟨none,0,0⟩ ⟨none,0,0⟩).toArray:=Blk.new _ _ _
  clear_value h5
  refine qf b5 rfl _ _ _ _ λau b6 z6 f6=>?_
  refine⟨y.kind,y.text,dk,di,b6.ld (cs:=zc y.kind y.text dk di),?_⟩
  have K6:Keep h.size h au:=⟨by have:=K4.size;omega,λi hi=>by rw[f6 i (by have:=K4.size;omega),k5.get i (by have:=K4.size;omega)];exact K4.get i hi⟩
  refine(zmn (tsz y) y (Ae _) hsy (ag.keep K6) hry).mono ?_
  rintro w' h7 ⟨k7,bs,ck,ci,rfl,ot,ah⟩
  have z7:=k7.size
  have K7:Keep h.size h h7:=K6.trans k7 (by have:=K6.size;omega)
  refine⟨y.kind,y.text,ck,ci,rfl,?_⟩
  have am:Blk h7 h1.size (zc 0 ⟨#[]⟩ ⟨none,0,0⟩ ⟨none,0,0⟩).toArray:=by
   have e4:=aj.ofKeep k4
   have e5:=e4.ofKeep k5
   unfold Blk at e5 ⊢
   rw[k7.get _ (by omega),f6 _ (by omega)]
   exact e5
  refine qf am rfl _ _ _ _ λh8 b8 z8 f8=>?_
  have K8:Keep h.size h h8:=⟨by have:=K7.size;omega,λi hi=>by rw[f8 i (by omega)];exact K7.get i hi⟩
  have an:=ot.frame λb hb=>f8 b (by have:=ah b hb;omega)
  rw[hy]at hR
  exact⟨y.kind,y.text,ck,ci,b8.ld (cs:=zc y.kind y.text ck ci),MxL M h8 bs,(y,b),MxL.later ag K8 (λb hb=>by have:=ah b hb;have:=K6.size;omega),⟨[_,_],⟨_,_,rfl,an.rdv,_,rfl,rdBool _⟩,rfl⟩,hR⟩
end
section
variable {v:Tr} {gl M M':Fr} {h g g':zb} {b:Nat} {sk si:Sl} {o:OpT}
def kOp:Bt:=⟨#[111,112]⟩
def Wi:Bt:=⟨#[112,97,116,104]⟩
def Q7:Bt:=⟨#[102,114,111,109]⟩
def wu:Bt:=⟨#[118,97,108,117,101]⟩
def Qb(v:Tr)(key:Bt):Bt×Bool:=((Wl v key).1.text,bif (Wl v key).2 then((Wl v key).1.kind==4)else false)
def jv(v:Tr)(key:Bt):List Bt×Bool:=if(Qb v key).2=true then((zqx (lb (Qb v key).1)).1.map bl,(zqx (lb (Qb v key).1)).2==0)else([],false)
def shR(v:Tr):Bool×Bool×Bool:=zz (lb (Qb v kOp).1)
def Je(v:Tr):Bool:=(Qb v kOp).2&&((shR v).2.2&&((jv v Wi).2&&((!(shR v).2.1||(jv v Q7).2)&&(!(shR v).1||(Wl v wu).2))))
def Q3(v:Tr):OpT:=((Qb v kOp).1,(jv v Wi).1,(if(shR v).2.1=true then(jv v Q7).1 else []),if(shR v).1=true then(Wl v wu).1 else zT)
theorem zrn(hv:Sm v)(key:Bt):Sm (Wl v key).1:=by
 unfold Wl
 split
 ·show Sm (v.items.getD _ zT)
  rw[Bm]
  cases h:v.items[(Lib.idxOfS v.keys key).toNat]? with
  |none=>exact Ym
  |some y=>exact hv.item (Ct h)
 ·exact Ym
theorem z0k(hv:Sm v)(key:Bt):(lb (Qb v key).1).length<=1048576:=(zrn hv key).text
theorem z5a(hg:GL gl)(hv:Sm v){key:Bt}{R:Bt×Bool->Prop}(hR:R (Qb v key)):PC Tp gl 90 [Arg.mk .tree v,Arg.mk .str key] [.str,.bool] R:=by
 apply zmw
 rw[y8]
 exact z0j hg hv hR
theorem qbc(hg:GL gl)(hv:Sm v){key:Bt}{R:List Bt×Bool->Prop}(hR:R (jv v key)):PC Tp gl 91 [Arg.mk .tree v,Arg.mk .str key] [.row .str,.bool] R:=by
 apply zmx
 rw[y8]
 refine z5a hg hv ⟨λhx=>?_,λhx=>?_⟩
 ·unfold jv at hR
  rw[if_neg (by simpa using hx)]at hR
  exact hR
 ·unfold jv at hR
  rw[if_pos (by simpa using hx)]at hR
  have:=z2z hg (z0k hv key) (R:=λr=>r=((zqx (lb (Qb v key).1)).1.map bl,(zqx (lb (Qb v key).1)).2)) rfl
  rw[W8]at this
  refine this.mono λr hr=>?_
  subst hr
  exact hR
structure Bx (h:zb) (M:Fr) (b:Nat) (o:OpT):Prop where
 rd:∃sp sf sk si:Sl,Blk h b (zw o.1 sp sf o.2.2.2 sk si).toArray/\RdV M (.row .str) o.2.1 (slV sp)/\RdV M (.row .str) o.2.2.1 (slV sf)/\RdV M .tree o.2.2.2 (.agg (zi o.2.2.2 sk si).toArray)
 no:M b=none
theorem AgM.but{h h':zb}(ag:AgM M h)(hb:M b=Option.none)(f:∀j,j≠b->h'[j]?=h[j]?):AgM M h':=λc cs e=>by
 obtain⟨T,m,e2⟩:=ag c cs e
 exact⟨T,m,by rw[f c (λe'=>by rw[e',hb]at e;cases e)];exact e2⟩
structure Rin (h:zb) (M:Fr) (v:Tr) (sk si:Sl) (b:Nat) (g:zb) (M':Fr) (o:OpT):Prop where
 la:Later h M g M'
 hb:Blk g h.size (zc v.kind v.text sk si).toArray
 bx:Bx g M' b o
 lt:h.size<b
 bg:b<g.size
theorem Rin.call{M' M'':Fr}(I:Rin h M v sk si b g M' o)(L:Later g M' g' M''):Rin h M v sk si b g' M'' o:=by
 have:=L.keep.size
 have:=I.la.keep.size
 obtain⟨sp,sf,ck,ci,e1,e2,e3,e4⟩:=I.bx.rd
 exact⟨I.la.trans L,I.hb.ofKeep L.keep,⟨⟨sp,sf,ck,ci,e1.ofKeep L.keep,RdV.mono L.le e2,RdV.mono L.le e3,RdV.mono L.le e4⟩,by rw[L.old b I.bg];exact I.bx.no⟩,I.lt,by have:=I.bg;omega⟩
theorem Rin.put{o o':OpT}(I:Rin h M v sk si b g M' o)(f:∀j,j≠b->g'[j]?=g[j]?)(z:g'.size=g.size)
  (hb:∃sp sf sk si:Sl,Blk g' b (zw o'.1 sp sf o'.2.2.2 sk si).toArray/\RdV M' (.row .str) o'.2.1 (slV sp)/\RdV M' (.row .str) o'.2.2.1 (slV sf)/\RdV M' .tree o'.2.2.2 (.agg (zi o'.2.2.2 sk si).toArray)):Rin h M v sk si b g' M' o':=by
 have h1:=I.lt
 have h2:=I.la.keep.size
 refine⟨⟨⟨by omega,λj hj=>by rw[f j (by omega)];exact I.la.keep.get j hj⟩,I.la.le,I.la.old,AgM.but I.la.ag I.bx.no f⟩,?_,⟨hb,I.bx.no⟩,h1,by have:=I.bg;omega⟩
 have:=I.hb
 unfold Blk at this ⊢
 rw[f h.size (by omega)];exact this
theorem qct:yu Tp 22=true:=by kernel_rfl
theorem qcu:yr Tp 22=1:=by kernel_rfl
theorem ok9:yu Tp 9=true:=by kernel_rfl
theorem sz9:yr Tp 9=1:=by kernel_rfl
theorem qdq:yu Tp 25=true:=by kernel_rfl
theorem qdr:yr Tp 25=4:=by kernel_rfl
section
variable {h : zb} {M : Fr} {v : Tr} {sk si : Sl} {b : Nat} {g : zb} {M' : Fr} {o : OpT} {K : zb -> Prop}
theorem Rin.put0(I:Rin h M v sk si b g M' o)(s:Bt)(hK:∀g',Rin h M v sk si b g' M' (s,o.2)->(∀j,j≠b->g'[j]?=g[j]?)->K g'):XRunU Tp (Al 9 (.pointer (some ⟨b,0,none⟩)) (.string s)) g K:=by
 obtain⟨sp,sf,ck,ci,e1,e2,e3,e4⟩:=I.bx.rd
 refine zjv ok9 sz9 e1 (by show 0<7;omega) rfl λg' q1 q2 q3=>hK g' (I.put q3 q2 ⟨sp,sf,ck,ci,?_,e2,e3,e4⟩) q3
 exact q1
theorem Rin.put1(I:Rin h M v sk si b g M' o)(p:List Bt){s:Sl}(hp:RdV M' (.row .str) p (slV s))(hK:∀g',Rin h M v sk si b g' M' (o.1,p,o.2.2)->(∀j,j≠b->g'[j]?=g[j]?)->K g'):XRunU Tp (Al 22 (.pointer (some ⟨b,1,none⟩)) (slV s)) g K:=by
 obtain⟨sp,sf,ck,ci,e1,e2,e3,e4⟩:=I.bx.rd
 refine zjv qct qcu e1 (by show 1<7;omega) rfl λg' q1 q2 q3=>hK g' (I.put q3 q2 ⟨s,sf,ck,ci,?_,hp,e3,e4⟩) q3
 exact q1
theorem Rin.put2(I:Rin h M v sk si b g M' o)(p:List Bt){s:Sl}(hp:RdV M' (.row .str) p (slV s))(hK:∀g',Rin h M v sk si b g' M' (o.1,o.2.1,p,o.2.2.2)->(∀j,j≠b->g'[j]?=g[j]?)->K g'):XRunU Tp (Al 22 (.pointer (some ⟨b,2,none⟩)) (slV s)) g K:=by
 obtain⟨sp,sf,ck,ci,e1,e2,e3,e4⟩:=I.bx.rd
 refine zjv qct qcu e1 (by show 2<7;omega) rfl λg' q1 q2 q3=>hK g' (I.put q3 q2 ⟨sp,s,ck,ci,?_,e2,hp,e4⟩) q3
 exact q1
theorem Rin.put3(I:Rin h M v sk si b g M' o)(w:Tr){dk di:Sl}(hp:RdV M' .tree w (.agg (zi w dk di).toArray))(hK:∀g',Rin h M v sk si b g' M' (o.1,o.2.1,o.2.2.1,w)->(∀j,j≠b->g'[j]?=g[j]?)->K g'):XRunU Tp (Al 25 (.pointer (some ⟨b,3,none⟩)) (.agg #[.int .i64 w.kind,.string w.text,slV dk,slV di])) g K:=by
 obtain⟨sp,sf,ck,ci,e1,e2,e3,e4⟩:=I.bx.rd
 refine Q1 (vs:=zi w dk di) qdq e1 rfl qdr (by show 3+4<=7;omega) (λu hu=>?_) λg' q1 q2 q3=>hK g' (I.put q3 q2 ⟨sp,sf,dk,di,?_,e2,e3,hp⟩) q3
 ·simp[zi]at hu
  rcases hu with rfl|rfl|rfl|rfl <;> simp[Value.oneCell',slV]
 ·exact q1
theorem Rin.get(I:Rin h M v sk si b g M' o):∃sp sf ck ci:Sl,zd g ⟨b,0,none⟩ 0 (zw o.1 sp sf o.2.2.2 ck ci)/\Blk g b (zw o.1 sp sf o.2.2.2 ck ci).toArray/\RdV M' Yn o (.agg (zw o.1 sp sf o.2.2.2 ck ci).toArray):=by
 obtain⟨sp,sf,ck,ci,e1,e2,e3,e4⟩:=I.bx.rd
 exact⟨sp,sf,ck,ci,e1.ld (cs:=zw o.1 sp sf o.2.2.2 ck ci),e1,z81 e2 e3 e4⟩
end
end
section
variable {M:Fr} {w:Value} {b a:Bool}
theorem z5b{s:Bt}(h:RdV M .str s w):w=.string s:=by
 rw[zfn rfl]at h
 have:[w]=[AW s]:=h
 simpa using this
theorem zeh(h:RdV M .bool b w):w=.bool b:=by
 rw[zfn rfl]at h
 have:[w]=[Value.bool b]:=h
 simpa using this
theorem qcv{r:Bt×Bool}(h:zak M [.str,.bool] r w):w=.tuple #[.string r.1,.bool r.2]:=by
 obtain⟨vs,⟨v1,rest,rfl,hx,v2,rfl,hy⟩,rfl⟩:=h
 rw[z5b hx,zeh hy];rfl
theorem z5c{r:Bool×Bool×Bool}(h:zak M [.bool,.bool,.bool] r w):w=.tuple #[.bool r.1,.bool r.2.1,.bool r.2.2]:=by
 obtain⟨vs,⟨v1,rest,rfl,hx,v2,O,rfl,hy,v3,rfl,hz⟩,rfl⟩:=h
 rw[zeh hx,zeh hy,zeh hz];rfl
theorem qcw{r:List Bt×Bool}(h:zak M [.row .str,.bool] r w):∃s:Sl,w=.tuple #[slV s,.bool r.2]/\RdV M (.row .str) r.1 (slV s):=by
 obtain⟨vs,⟨v1,rest,rfl,hx,v2,rfl,hy⟩,rfl⟩:=h
 obtain⟨s,rfl,_⟩:=zin hx
 exact⟨s,by rw[zeh hy];rfl,hx⟩
theorem qcx{r:Tr×Bool}(h:zak M [.tree,.bool] r w):∃sk si:Sl,w=.tuple #[.agg #[.int .i64 r.1.kind,.string r.1.text,slV sk,slV si],.bool r.2]/\RdV M .tree r.1 (.agg (zi r.1 sk si).toArray):=by
 obtain⟨vs,⟨v1,rest,rfl,hx,v2,rfl,hy⟩,rfl⟩:=h
 obtain⟨sk,si,e,_⟩:=wq hx
 exact⟨sk,si,by rw[zeh hy,e];rfl,by rw[e]at hx;exact hx⟩
theorem z5d(h:(bif a then b else false)=true):a=true/\b=true:=by cases a <;> cases b <;> simp at h ⊢
theorem qbd(h:(bif (!a)then true else(!b))=false):a=true/\b=true:=by cases a <;> cases b <;> simp at h ⊢
theorem z9a(h:(bif (!a)then true else(!b))=true):(a&&b)=false:=by cases a <;> cases b <;> simp at h ⊢
theorem z5e:RdV M (.row .str) [] (slV ⟨none,0,0⟩):=by
 rw[zfn rfl]
 exact⟨_,rfl,none,0,rfl,⟨by simp,by simp⟩,.inl rfl⟩
set_option maxHeartbeats 4000000 in
theorem qbe{gl:Fr}(hg:GL gl){v:Tr}(hv:Sm v){R:OpT×Bool->Prop}(hR:∀o b,b=Je v->(b=true->o=Q3 v)->R (o,b)):PC Tp gl 53 [Arg.mk .tree v] [Yn,.bool] R:=by
 intro h M vs hM ag ha
 match vs,ha with
 |[u],⟨hu,_⟩=>
 have hu:RdV M .tree v u:=hu
 have ai:=hu
 obtain⟨sk,si,rfl,rk,ri⟩:=wq hu
 apply PX.of
 apply znc v.kind v.text sk si
 intro h1 h2
 have z1:h1.size=h.size+1:=Ak _
 have z2:h2.size=h1.size+1:=Ak _
 have k1:Keep h.size h h1:=Keep.push _ _ (Ae _)
 have k2:Keep h1.size h1 h2:=Keep.push _ _ (Ae _)
 have b1:Blk h1 h.size (zc v.kind v.text sk si).toArray:=Blk.new _ _ _
 have b2:Blk h2 h1.size (zw ⟨#[]⟩ ⟨none,0,0⟩ ⟨none,0,0⟩ zT ⟨none,0,0⟩ ⟨none,0,0⟩).toArray:=Blk.new _ _ _
 clear_value h1 h2
 have K2:Keep h.size h h2:=k1.trans k2 (by omega)
 have aB:M h1.size=none:=by
  cases e:M h1.size with
  |none=>rfl
  |some cs=>have:=ag.lt e;omega
 have I0:Rin h M v sk si h1.size h2 M (⟨#[]⟩,[],[],zT):=⟨Later.same ag K2,b1.ofKeep k2,⟨⟨_,_,_,_,b2,z5e,z5e,zv0⟩,aB⟩,by omega,by omega⟩
 have ac:∀(b':Bool) (g:zb) (M':Fr) (o':OpT),Rin h M v sk si h1.size g M' o'->b'=Je v->(b'=true->o'=Q3 v) ->
   ∃x1:Bt,∃x2:Sl,∃x3:Sl,∃x4:Int,∃x5:Bt,∃x6:Sl,∃x7:Sl,zd g ⟨h1.size,0,none⟩ 0 [.string x1,.slice x2.a x2.len x2.cap,.slice x3.a x3.len x3.cap,.int .i64 x4,.string x5,.slice x6.a x6.len x6.cap,.slice x7.a x7.len x7.cap] /\
    XRunU Tp (Al 38 (.pointer (some ⟨h1.size,0,none⟩)) (.agg #[.string x1,.slice x2.a x2.len x2.cap,.slice x3.a x3.len x3.cap,.int .i64 x4,.string x5,.slice x6.a x6.len x6.cap,.slice x7.a x7.len x7.cap])) g (λh'=>
     ∃x1:Bt,∃x2:Sl,∃x3:Sl,∃x4:Int,∃x5:Bt,∃x6:Sl,∃x7:Sl,zd h' ⟨h1.size,0,none⟩ 0 [.string x1,.slice x2.a x2.len x2.cap,.slice x3.a x3.len x3.cap,.int .i64 x4,.string x5,.slice x6.a x6.len x6.cap,.slice x7.a x7.len x7.cap] /\
     (∃M' r',Later h M h' M'/\zak M' [Yn,.bool] r' (.tuple #[.agg #[.string x1,.slice x2.a x2.len x2.cap,.slice x3.a x3.len x3.cap,.int .i64 x4,.string x5,.slice x6.a x6.len x6.cap,.slice x7.a x7.len x7.cap],.bool b'])/\R r')):=by
  intro b' g M' o' I hb ho
  obtain⟨sp,sf,ck,ci,e1,e2,e3⟩:=I.get
  refine⟨o'.1,sp,sf,o'.2.2.2.kind,o'.2.2.2.text,ck,ci,e1,?_⟩
  refine zrl e2 rfl o'.1 sp sf o'.2.2.2 ck ci λg' q1 q2 q3=>⟨o'.1,sp,sf,o'.2.2.2.kind,o'.2.2.2.text,ck,ci,q1.ld (cs:=zw o'.1 sp sf o'.2.2.2 ck ci),M',(o',b'),?_,?_,hR o' b' hb ho⟩
  ·have i1:=I.lt
   have i2:=I.la.keep.size
   exact⟨⟨by omega,λj hj=>by rw[q3 j (by omega)];exact I.la.keep.get j hj⟩,I.la.le,I.la.old,AgM.but I.la.ag I.bx.no q3⟩
  ·exact⟨[_,_],⟨_,_,rfl,e3,_,rfl,rdBool _⟩,rfl⟩
 refine⟨v.kind,v.text,sk,si,I0.hb.ld (cs:=zc v.kind v.text sk si),?_⟩
 have ht:PC Tp gl 90 [Arg.mk .tree v,Arg.mk .str kOp] [.str,.bool] (λr=>r=Qb v kOp):=z5a hg hv rfl
 refine ht.go (vs:=[.agg #[.int .i64 v.kind,.string v.text,slV sk,slV si],.string kOp]) hM I0.la.ag (yj (RdV.mono I0.la.le ai) (yj (rdStr _) wm)) λw h8 M8 r L8 O hr=>?_
 have hr:r=Qb v kOp:=hr
 subst hr
 have I8:=I0.call L8
 refine⟨(Qb v kOp).1,(Qb v kOp).2,qcv O,?_⟩
 have hs:PC Tp gl 36 [Arg.mk .str (Qb v kOp).1] [.bool,.bool,.bool] (λr=>r=shR v):=zm9 rfl
 refine hs.go (vs:=[.string (Qb v kOp).1]) (hM.trans I8.la.le) I8.la.ag (yj (rdStr _) wm) λw aI ar r aC O hr=>?_
 have hr:r=shR v:=hr
 subst hr
 have al:=I8.call aC
 refine⟨(shR v).1,(shR v).2.1,(shR v).2.2,z5c O,λhx=>?_,λhx=>?_⟩
 ·refine ac false aI ar _ al ?_ (λe=>by cases e)
  unfold Je
  rw[<-Bool.and_assoc,z9a hx];rfl
 obtain⟨au,aG⟩:=qbd hx
 refine al.put0 (Qb v kOp).1 λaM an _=>?_
 refine⟨v.kind,v.text,sk,si,an.hb.ld (cs:=zc v.kind v.text sk si),?_⟩
 have Z:∀(key:Bt) {g:zb} {M':Fr} {o:OpT},Rin h M v sk si h1.size g M' o->∀{K:Value->zb->Prop},(∀g' M'' (s:Sl),Rin h M v sk si h1.size g' M'' o->RdV M'' (.row .str) (jv v key).1 (slV s)->K (.tuple #[slV s,.bool (jv v key).2]) g') ->
   XC Tp 91 #[.agg #[.int .i64 v.kind,.string v.text,slV sk,slV si],.string key] g K:=by
  intro key g M' o I K hK
  have hp:PC Tp gl 91 [Arg.mk .tree v,Arg.mk .str key] [.row .str,.bool] (λr=>r=jv v key):=qbc hg hv rfl
  refine hp.go (vs:=[.agg #[.int .i64 v.kind,.string v.text,slV sk,slV si],.string key]) (hM.trans I.la.le) I.la.ag (yj (RdV.mono I.la.le ai) (yj (rdStr _) wm)) λw h8 M8 r L8 O hr=>?_
  have hr:r=jv v key:=hr
  subst hr
  obtain⟨s,rfl,hs⟩:=qcw O
  exact hK h8 M8 s (I.call L8) hs
 refine Z Wi an λaN ak s az hs=>⟨s,(jv v Wi).2,rfl,?_⟩
 refine az.put1 (jv v Wi).1 hs λap ae _=>?_
 intro aE am
 have aa:∀(is:Bool) (g:zb) (M':Fr) (o':OpT),Rin h M v sk si h1.size g M' o'->is=((jv v Wi).2&&(!(shR v).2.1||(jv v Q7).2))->(is=true->o'=((Qb v kOp).1,(jv v Wi).1,(if(shR v).2.1=true then(jv v Q7).1 else []),zT))->aE is g:=by
  intro is g M' o' I ay ho
  apply am
  intro aJ af
  have aj:((shR v).1=false->Je v=is)/\((shR v).1=true->Je v=(is&&(Wl v wu).2)):=by
   unfold Je
   rw[au,aG,ay]
   constructor <;> intro e <;> rw[e] <;> simp[Bool.and_assoc]
  refine⟨λhc=>?_,λhc=>?_⟩
  ·obtain⟨c1,c2⟩:=z5d hc
   refine⟨v.kind,v.text,sk,si,I.hb.ld (cs:=zc v.kind v.text sk si),?_⟩
   have hp:PC Tp gl 92 [Arg.mk .tree v,Arg.mk .str wu] [.tree,.bool] (λr=>r=Wl v wu):=z0j hg hv rfl
   refine hp.go (vs:=[.agg #[.int .i64 v.kind,.string v.text,slV sk,slV si],.string wu]) (hM.trans I.la.le) I.la.ag (yj (RdV.mono I.la.le ai) (yj (rdStr _) wm)) λw h8 M8 r L8 O hr=>?_
   have hr:r=Wl v wu:=hr
   subst hr
   obtain⟨dk,di,rfl,hd⟩:=qcx O
   refine⟨(Wl v wu).1.kind,(Wl v wu).1.text,dk,di,(Wl v wu).2,rfl,?_⟩
   refine(I.call L8).put3 (Wl v wu).1 hd λg' I' _=>?_
   apply af
   refine ac _ g' M8 _ I' ?_ (λe=>?_)
   ·rw[aj.2 c1,c2];rfl
   ·rw[ho c2]
    unfold Q3
    rw[if_pos c1]
  ·apply af
   by_cases c1:(shR v).1=true
   ·have c2:is=false:=by
     cases h2:is with
     |false=>rfl
     |true=>rw[c1,h2]at hc;cases hc
    refine ac _ g M' o' I (by rw[aj.2 c1,c2];rfl) (λe=>by rw[c2]at e;cases e)
   ·have ah:(shR v).1=false:=by simpa using c1
    refine ac _ g M' o' I (aj.1 ah).symm (λe=>?_)
    rw[ho e]
    unfold Q3
    rw[if_neg c1]
 refine⟨λhc=>?_,λhc=>?_⟩
 ·obtain⟨c1,c2⟩:=z5d hc
  refine⟨v.kind,v.text,sk,si,ae.hb.ld (cs:=zc v.kind v.text sk si),?_⟩
  refine Z Q7 ae λaL aH s2 aF ax=>⟨s2,(jv v Q7).2,rfl,?_⟩
  refine aF.put2 (jv v Q7).1 ax λaD aA _=>?_
  refine aa _ aD aH _ aA (by rw[c1,c2];rfl) (λe=>?_)
  rw[if_pos c1]
 ·by_cases c1:(shR v).2.1=true
  ·have c2:(jv v Wi).2=false:=by
    cases h2:(jv v Wi).2 with
    |false=>rfl
    |true=>rw[c1,h2]at hc;cases hc
   exact aa _ ap ak _ ae (by rw[c2];rfl) (λe=>by rw[c2]at e;cases e)
  ·have ah:(shR v).2.1=false:=by simpa using c1
   refine aa _ ap ak _ ae (by rw[ah];simp) (λe=>?_)
   rw[if_neg c1]
end
section
variable {c b:Nat} {h g g':zb} {M M':Fr} {v:Tr} {sk si:Sl} {o:OpT}
structure Rim (c:Nat) (h:zb) (M:Fr) (v:Tr) (sk si:Sl) (b:Nat) (g:zb) (M':Fr) (o:OpT):Prop where
 r:Rin h M v sk si b g M' o
 z:∃cs:Array Value,Blk g c cs/\cs.size=7
 zl:h.size<c/\c<b
 zn:M' c=none
theorem Rim.call{M' M'':Fr}(I:Rim c h M v sk si b g M' o)(L:Later g M' g' M''):Rim c h M v sk si b g' M'' o:=by
 obtain⟨cs,e1,e2⟩:=I.z
 exact⟨I.r.call L,⟨cs,e1.ofKeep L.keep,e2⟩,I.zl,by rw[L.old c (by have:=I.r.bg;have:=I.zl;omega)];exact I.zn⟩
theorem Rim.next{o o':OpT}(I:Rim c h M v sk si b g M' o)(J:Rin h M v sk si b g' M' o')(f:∀j,j≠b->g'[j]?=g[j]?):Rim c h M v sk si b g' M' o':=by
 obtain⟨cs,e1,e2⟩:=I.z
 refine⟨J,⟨cs,?_,e2⟩,I.zl,I.zn⟩
 unfold Blk at e1 ⊢
 rw[f c (by have:=I.zl;omega)];exact e1
end
section
variable {v:Tr}
def z02(v:Tr):Nat:=v.items.findIdx λx=>!Je x
def xx(v:Tr):List OpT×Int×Int:=if ql v=true/\v.kind=5 then(if z02 v=v.items.length then(v.items.map Q3,(v.items.length:Int),0)else([],(z02 v:Int),2))else([],0,2)
theorem z9b{k:Nat}(hk:k<v.items.length)(h1:∀x∈v.items.take k,Je x=true)(h2:Je v.items[k]=false):z02 v=k:=by
 unfold z02
 rw[List.findIdx_eq hk]
 refine⟨by rw[h2];rfl,λj hj=>?_⟩
 have:v.items[j]∈v.items.take k:=by
  rw[List.mem_take_iff_getElem];exact⟨j,by omega,rfl⟩
 rw[h1 _ this];rfl
theorem ztw(h1:∀x∈v.items,Je x=true):z02 v=v.items.length:=by
 unfold z02
 rw[List.findIdx_eq_length]
 intro x hx
 rw[h1 x hx];rfl
theorem z9c(o:OpT):(o.1,(o.2.1,(o.2.2.1,Tr.mk o.2.2.2.kind o.2.2.2.text o.2.2.2.keys o.2.2.2.items)))=o:=by rw[y8]
set_option maxHeartbeats 1000000 in
theorem zic{gl:Fr}(hg:GL gl)(hv:Sm v){R:List OpT×Int×Int->Prop}(hR:R (xx v)):PC Tp gl 24 [Arg.mk .tree v] [.row Yn,.int .i64,.int .i64] R:=by
 apply zi9
 rw[y8]
 refine Xo hg hv ⟨λhx=>?_,λhx=>?_⟩
 ·unfold xx at hR
  rw[if_neg (by rintro⟨e1,e2⟩;rw[e1,e2]at hx;cases hx)]at hR
  exact hR
 have hc:ql v=true/\v.kind=5:=by
  cases h:ql v with
  |false=>rw[h]at hx;cases hx
  |true=>rw[h]at hx;exact⟨rfl,by simpa using hx⟩
 have af:v.items.length<=4095:=by
  have h1:=zda hc.1
  have h2:=Yi v.items
  rw[wa]at h1;omega
 unfold xx at hR
 rw[if_pos hc]at hR
 refine⟨λout i=>∃k:Nat,i=k/\k<=v.items.length/\out=(v.items.take k).map Q3/\∀x∈v.items.take k,Je x=true,λ_ i=>v.items.length-i.toNat,⟨0,rfl,by omega,by simp,by simp⟩,?_⟩
 rintro out i ⟨k,rfl,hk,rfl,h1⟩
 refine⟨λZ=>?_,λZ=>?_⟩
 ·have O:k<v.items.length:=by simpa using Z
  refine⟨v.items[k],⟨by omega,by rw[Ah];exact Ai O⟩,λe=>by simp at e;omega,λ_=>?_⟩
  rw[y8]
  refine qbe hg (hv.item (Ay O)) λo b hb ho=>⟨λe=>?_,λe=>?_⟩
  ·have ae:Je v.items[k]=false:=by rw[<-hb];simpa using e
   have:=z9b O h1 ae
   rw[if_neg (by omega),this]at hR
   exact hR
  ·have aa:b=true:=by simpa using e
   have ac:=ho aa
   subst ac
   rw[aa]at hb
   simp only[z9c]
   have hl:((v.items.take k).map Q3).length=k:=by rw[Bv,AY];omega
   refine⟨by rw[hl];show(k+1)*136<=_;omega,?_⟩
   rw[w64 (by omega)]
   refine⟨⟨k+1,by omega,by omega,?_,λx hx=>?_⟩,by simp only[Ah];omega⟩
   ·rw[Am O,Cq];rfl
   ·rw[Am O]at hx
    rcases An.1 hx with hx|hx
    ·exact h1 x hx
    ·rw[Bu.1 hx];exact hb.symm
 ·have O:k=v.items.length:=by
   have:¬((k:Int)<v.items.length):=by simpa using Z
   omega
  subst O
  rw[AN]at h1 ⊢
  rw[if_pos (ztw h1)]at hR
  rw[Bv]
  exact hR
end
end Go.X
end
section
namespace Go.X
set_option maxHeartbeats 1000000 in
section
theorem ztx{gl:Fr}{a b:List OpT}(ha:∀o∈a,OpS o)(hn:a.length<=1000000){R:Bool->Prop}(h:∀r,(r=true↔a=b)->R r):PC Tp gl 26 [Arg.mk (.row Yn) a,Arg.mk (.row Yn) b] [.bool] R:=by
 apply zc8
 refine⟨λe=>h false ⟨λe=>(by cases e),λe'=>(by subst e';simp at e)⟩,λe=>?_⟩
 have hl:a.length=b.length:=by
  have:((a.length:Nat):Int)=b.length:=by simpa[bne]using e
  omega
 refine⟨λi=>∃k:Nat,i=k/\k<=a.length/\a.take k=b.take k,λi=>a.length-i.toNat,⟨0,rfl,by omega,by simp⟩,?_⟩
 rintro i ⟨k,rfl,hk,h1⟩
 refine⟨λhc=>?_,λhc=>?_⟩
 ·have O:k<a.length:=by simpa using hc
  have ae:k<b.length:=by omega
  have ga:a[(k:Int).toNat]?=some a[k]:=by rw[Ah];exact Ai O
  have gb:b[(k:Int).toNat]?=some b[k]:=by rw[Ah];exact Ai ae
  have ho:=ha a[k] (Ay O)
  have pa:(0:Int)<=k/\a[(k:Int).toNat]?=some a[k]:=⟨by omega,ga⟩
  have pb:(0:Int)<=k/\b[(k:Int).toNat]?=some b[k]:=⟨by omega,gb⟩
  refine⟨a[k],pa,b[k],pb,?_⟩
  rw[y8,y8]
  refine zo3 _ _ ho.v.sz λr1 aa=>⟨a[k],λ_=>pa,b[k],λ_=>pb,a[k],λ_=>pa,b[k],λ_=>pb,λr=>r=true↔a[k].2.1=b[k].2.1,λ_=>zth ho.p.n λr hr=>hr,λr2 ac=>⟨a[k],λ_=>pa,b[k],λ_=>pb,λr=>r=true↔a[k].2.2.1=b[k].2.2.1,λ_=>zth ho.f.n λr hr=>hr,λr3 Z=>⟨λhx=>h false ⟨λe=>(by cases e),λe'=>?_⟩,λhx=>?_⟩⟩⟩
  ·subst e'
   have e1:r1=true:=aa.2 rfl
   have e2:r2=true:=(ac (by rw[e1];simp)).2 rfl
   have e3:r3=true:=(Z (by rw[e1,e2];simp)).2 rfl
   rw[e1,e2,e3]at hx
   simp at hx
  ·have hs:r1=true/\a[k].1=b[k].1/\r2=true/\r3=true:=by
    cases r1 <;> cases r2 <;> cases r3 <;> simp at hx
    exact⟨rfl,(by rw[wz,wz]at hx;exact zon.1 hx),rfl,rfl⟩
   obtain⟨e1,e2,e3,e4⟩:=hs
   have f2:=(ac (by rw[e1,e2];simp)).1 e3
   have f3:=(Z (by rw[e1,e2,e3];simp)).1 e4
   have f4:=aa.1 e1
   rw[w64 (by omega)]
   refine⟨⟨k+1,by omega,by omega,?_⟩,by simp only[Ah];omega⟩
   rw[Am O,Am ae,h1]
   congr 1
   congr 1
   exact Prod.ext e2 (Prod.ext f2 (Prod.ext f3 f4))
 ·have O:k=a.length:=by
   have:¬((k:Int)<a.length):=by simpa using hc
   omega
  subst O
  rw[AN,hl,AN]at h1
  exact h true ⟨λ_=>h1,λ_=>rfl⟩
end
end Go.X
end
section
namespace Go.X
section
variable {lo:Nat} {h h':zb} {M M':Fr} {T:Ty} {bs:List Nat}
def ORow(lo:Nat)(h:zb)(M:Fr)(T:Ty)(xs:List (El T))(s:Sl)(bs:List Nat):Prop:=
 (xs=[]/\s.len=0/\s.cap=0/\bs=[])\/∃(b:Nat) (cs:Array Value),bs=[b]/\s.a=some ⟨b,0,none⟩/\s.len=xs.length/\s.len<=s.cap/\Blk h b cs/\s.cap*sz T<=cs.size/\lo<=b/\M b=none/\∀i (hi:i<xs.length),Rd M T xs[i] (cut cs (i*sz T) (sz T))
theorem ORow.nil:ORow lo h M T [] ⟨none,0,0⟩ []:=.inl ⟨rfl,rfl,rfl,rfl⟩
theorem ORow.len{xs:List (El T)}{s:Sl}(H:ORow lo h M T xs s bs):s.len=xs.length:=by
 rcases H with⟨rfl,h1,_⟩|⟨b,cs,_,_,h1,_⟩
 ·exact h1
 ·exact h1
theorem ORow.own{xs:List (El T)}{s:Sl}(H:ORow lo h M T xs s bs):∀c∈bs,lo<=c/\c<h.size/\M c=none:=by
 rcases H with⟨_,_,_,rfl⟩|⟨b,cs,rfl,_,_,_,e,_,h1,h2,_⟩
 ·intro c hc;cases hc
 ·intro c hc
  rw[Bu.1 hc]
  exact⟨h1,e.lt,h2⟩
theorem ORow.frame{xs:List (El T)}{s:Sl}(H:ORow lo h M T xs s bs)(f:∀c∈bs,h'[c]?=h[c]?)(le:Fr.le M M')(no:∀c∈bs,M' c=none):ORow lo h' M' T xs s bs:=by
 rcases H with H|⟨b,cs,rfl,h1,h2,h3,h4,h5,h6,h7,h8⟩
 ·exact .inl H
 ·refine .inr ⟨b,cs,rfl,h1,h2,h3,?_,h5,h6,no b (by simp),λi hi=>Rd.mono le (h8 i hi)⟩
  unfold Blk at h4 ⊢
  rw[f b (by simp)];exact h4
theorem ORow.call{xs:List (El T)}{s:Sl}(H:ORow lo h M T xs s bs)(L:Later h M h' M'):ORow lo h' M' T xs s bs:=by
 refine H.frame (λc hc=>L.keep.get c (H.own c hc).2.1) L.le λc hc=>?_
 rw[L.old c (H.own c hc).2.1];exact(H.own c hc).2.2
theorem ORow.rd{xs:List (El T)}{s:Sl}{bs all:List Nat}(H:ORow lo h M T xs s bs)(ag:AgM M h)(ha:∀c∈bs,c∈all)(hn:xs.length<=1000000):Rd (MxL M h all) (.row T) xs [slV s]:=by
 rcases H with⟨rfl,h1,h2,rfl⟩|⟨b,cs,rfl,h1,h2,h3,h4,h5,h6,h7,h8⟩
 ·refine⟨_,rfl,s.a,s.cap,?_,⟨by simp,by simp⟩,.inl rfl⟩
  show slV s=_
  unfold slV;rw[h1];rfl
 ·refine⟨_,rfl,s.a,s.cap,?_,⟨by omega,by omega⟩,?_⟩
  ·unfold slV;rw[h2]
  ·by_cases he:xs=[]
   ·exact .inl he
   ·refine .inr ⟨b,0,cs,h1,MxL.at (ha b (by simp)) h4,λi hi=>?_⟩
    rw[AD]
    exact Rd.mono (Xm ag all) (h8 i hi)
theorem ORow.app{t e:TypeId}{z:Value}{bytes:Nat}(E:ElemT Tp t e z (sz T) bytes)(ai:bytes<=1000){ty:TypeId}{xs:List (El T)}{s:Sl}(ag:AgM M h)(H:ORow lo h M T xs s bs)(ay:lo<=h.size){bv cv:Nat}{vs:List Value}{x:El T}(hv:Blk h bv vs.toArray)(hx:Rd M T x vs)(hn:xs.length<=1000000){K:Value->zb->Prop}
  (hK:∀(s':Sl) (h':zb) (ae:List Nat),ORow lo h' M T (xs++[x]) s' ae->h.size<=h'.size->(∀c∈ae,c∈bs\/h.size<=c)->(∀j,j<h.size->j∉bs->h'[j]?=h[j]?)->K (.slice s'.a s'.len s'.cap) h'):
  XRun Tp (Ax #[t,t] ty #[.slice s.a s.len s.cap,.slice (some ⟨bv,0,none⟩) 1 cv]) h K:=by
 have al:vs.length=sz T:=Rd.len hx
 have h1:∀u∈vs,u.oneCell'=true:=Rd.one hx
 have aa:=H.len
 have ap:∀c,h.size<=c->M c=none:=by
  intro c hc
  cases e:M c with
  |none=>rfl
  |some cs=>have:=ag.lt e;omega
 obtain⟨b,cs,O,hb,am⟩:∃b cs,RowO h s b cs (sz T)/\((bs=[b]/\lo<=b/\M b=none)\/(b=h.size/\bs=[]))/\∀i (hi:i<xs.length),i*sz T+sz T<=cs.size/\Rd M T xs[i] (cut cs (i*sz T) (sz T)):=by
  rcases H with⟨rfl,e1,e2,rfl⟩|⟨b,cs,rfl,e1,e2,e3,e4,e5,e6,e7,e8⟩
  ·exact⟨h.size,#[],⟨by omega,.inl ⟨e1,e2⟩⟩,.inr ⟨rfl,rfl⟩,λi hi=>by simp at hi⟩
  ·refine⟨b,cs,⟨e3,.inr ⟨e1,e4,e5⟩⟩,.inl ⟨rfl,e6,e7⟩,λi hi=>⟨?_,e8 i hi⟩⟩
   have:(i+1)*sz T<=s.cap*sz T:=AM _ (by omega)
   rw[Du]at this;omega
 have ac:(s.len+1)*bytes<=140737488355328:=by
  have:(s.len+1)*bytes<=1000001*1000:=Nat.mul_le_mul (by omega) ai
  omega
 refine zm3 E O hv al h1 ac (by omega) λs' h' b' cs' N=>?_
 have Z:(b'∈bs/\lo<=b'/\M b'=none)\/h.size<=b':=by
  rcases N.new with e|e
  ·rcases hb with⟨q1,q2,q3⟩|⟨q1,_⟩
   ·subst e;exact .inl ⟨by rw[q1];simp,q2,q3⟩
   ·exact .inr (by omega)
  ·exact .inr e
 refine hK s' h' [b'] (.inr ⟨b',cs',rfl,N.a,by rw[N.len,Ar,aa];rfl,by rw[N.len];exact N.cap,N.blk,N.size,?_,?_,λi hi=>?_⟩) N.grow (λc hc=>?_) λj hj hn=>N.old j hj λe=>?_
 ·rcases Z with q|q
  ·exact q.2.1
  ·omega
 ·rcases Z with q|q
  ·exact q.2.2
  ·exact ap b' q
 ·have ah:=N.cut
  have az:i<xs.length+1:=by simpa using hi
  have hm:(i+1)*sz T<=(s.len+1)*sz T:=AM _ (by omega)
  have ar:(i+1)*sz T=i*sz T+sz T:=Du _ _
  have au:(s.len+1)*sz T=s.len*sz T+sz T:=Du _ _
  have key:∀q,q<sz T->(cut cs' (i*sz T) (sz T))[q]?=(cut cs 0 (s.len*sz T)++vs)[i*sz T+q]?:=by
   intro q hq
   rw[zp,if_pos hq,<-ah,zp,if_pos (by omega),AD]
  by_cases af:i<xs.length
  ·rw[Dj af]
   obtain⟨g1,g2⟩:=am i af
   have ax:(i+1)*sz T<=s.len*sz T:=AM _ (by omega)
   have e:cut cs' (i*sz T) (sz T)=cut cs (i*sz T) (sz T):=by
    apply AZ
    intro q
    by_cases hq:q<sz T
    ·rw[key q hq,Bg ?_,zp,zp,if_pos hq,if_pos (by omega),AD]
     have ak:s.len*sz T<=cs.size:=by
      rcases O.at_ with⟨q1,q2⟩|⟨_,_,q3⟩
      ·omega
      ·have:s.len*sz T<=s.cap*sz T:=AM _ O.le
       omega
     rw[we (by omega)];omega
    ·rw[zp,zp,if_neg hq,if_neg hq]
   rw[e];exact g2
  ·have an:i=xs.length:=by omega
   subst an
   rw[CG (Ae _)]
   have aj:(cut cs 0 (s.len*sz T)).length=xs.length*sz T:=by
    rcases O.at_ with⟨q1,q2⟩|⟨_,_,q3⟩
    ·have:xs.length=0:=by omega
     rw[q1,this];unfold cut;simp
    ·have:s.len*sz T<=s.cap*sz T:=AM _ O.le
     rw[we (by omega),aa]
   have e:cut cs' (xs.length*sz T) (sz T)=vs:=by
    apply AZ
    intro q
    by_cases hq:q<sz T
    ·rw[key q hq,Bb (by omega),aj]
     congr 1;omega
    ·rw[zp,if_neg hq,Bj (by omega)]
   rw[e]
   simpa using hx
 ·rw[Bu.1 hc]
  rcases Z with q|q
  ·exact .inl q.1
  ·exact .inr q
 ·rcases Z with q|q
  ·exact hn (by rw[e];exact q.1)
  ·omega
end
section
variable {M:Fr} {h h':zb} {b:Nat} {ks:List Bt} {xs:List Tr} {sk si:Sl} {bk bi:List Nat}
theorem AgM.app{bs:List Nat}(ag:AgM M h)(f:∀j,j<h.size->j∉bs->h'[j]?=h[j]?)(no:∀c∈bs,M c=Option.none):AgM M h':=λc cs e=>by
 obtain⟨T,m,e2⟩:=ag c cs e
 have hm:c∉bs:=λhc=>by rw[no c hc]at e;cases e
 exact⟨T,m,by rw[f c (ag.lt e) hm];exact e2⟩
structure Obj (lo:Nat) (h:zb) (M:Fr) (b:Nat) (ks:List Bt) (xs:List Tr) (sk si:Sl) (bk bi:List Nat):Prop where
 ag:AgM M h
 box:Blk h b (zc 6 ⟨#[]⟩ sk si).toArray
 keys:ORow lo h M .str ks sk bk
 items:ORow lo h M .tree xs si bi
 nk:b∉bk
 ni:b∉bi
 dj:∀c∈bk,c∉bi
 no:M b=none
 lo:lo<=b
theorem Obj.call{lo:Nat}{M M':Fr}(O:Obj lo h M b ks xs sk si bk bi)(L:Later h M h' M'):Obj lo h' M' b ks xs sk si bk bi:=
 ⟨L.ag,O.box.ofKeep L.keep,O.keys.call L,O.items.call L,O.nk,O.ni,O.dj,by rw[L.old b O.box.lt];exact O.no,O.lo⟩
theorem qc7:yu Tp 23=true:=by kernel_rfl
theorem qc8:yr Tp 23=1:=by kernel_rfl
structure ObK (lo:Nat) (h:zb) (M:Fr) (b:Nat) (ks:List Bt) (xs:List Tr) (sk si s1:Sl) (bk bi bk1:List Nat) (g:zb):Prop where
 ag:AgM M g
 box:Blk g b (zc 6 ⟨#[]⟩ sk si).toArray
 keys:ORow lo g M .str ks s1 bk1
 items:ORow lo g M .tree xs si bi
 nk:b∉bk1
 dj:∀c∈bk1,c∉bi
 kp:Keep lo h g
 grow:h.size<=g.size
theorem ObK.keep{lo:Nat}{sk si s1:Sl}{bk bi bk1:List Nat}{g g':zb}(H:ObK lo h M b ks xs sk si s1 bk bi bk1 g)(O:lo<=h.size)(k:Keep g.size g g'):ObK lo h M b ks xs sk si s1 bk bi bk1 g':=by
 have L:=Later.same H.ag k
 have:=H.grow
 exact⟨L.ag,H.box.ofKeep k,H.keys.call L,H.items.call L,H.nk,H.dj,⟨by have:=H.kp.size;have:=k.size;omega,λj hj=>by rw[k.get j (by omega)];exact H.kp.get j hj⟩,by have:=k.size;omega⟩
set_option maxHeartbeats 4000000 in
theorem z0l{lo:Nat}(O:Obj lo h M b ks xs sk si bk bi)(hn:ks.length<=1000/\xs.length<=1000){key:Bt}{x:Tr}{ck ci:Sl}(hx:RdV M .tree x (.agg (zi x ck ci).toArray)){K:Value->zb->Prop}
  (hK:∀(h':zb) (sk' si':Sl) (bk' aN:List Nat),Obj lo h' M b (ks++[key]) (xs++[x]) sk' si' bk' aN->Keep lo h h'->K (.tuple #[]) h'):
  XC Tp 87 #[.pointer (some ⟨b,0,none⟩),.string key,.agg #[.int .i64 x.kind,.string x.text,slV ck,slV ci]] h K:=by
 have be:=O.box.lt
 have bh:=O.lo
 have aS:Rd M .tree x (zi x ck ci):=by
  unfold RdV at hx
  simp only[zdn,if_true]at hx
  obtain⟨cs,e,hr⟩:=hx
  have:zi x ck ci=cs:=by injection e with e;simpa using congrArg D9 e
  rw[this];exact hr
 have aL:Rd M .str key [.string key]:=rfl
 apply zib (some ⟨b,0,none⟩) key x.kind x.text ck ci
 intro h1
 have z1:h1.size=h.size+1:=Ak _
 have k1:Keep h.size h h1:=Keep.push _ _ (Ae _)
 have b1:Blk h1 h.size (zi x ck ci).toArray:=Blk.new _ _ _
 clear_value h1
 have aC:=O.box.ofKeep k1
 have ah:∀(g:zb) (kb:Nat),Keep h.size h g->Blk g kb [AW key].toArray->∀(K:Value->zb->Prop),(∀(s1:Sl) (g2:zb) (bk1:List Nat),ObK lo h M b (ks++[key]) xs sk si s1 bk bi bk1 g2->(∀j,j<g.size->j∉bk->g2[j]?=g[j]?)->g.size<=g2.size->K (.slice s1.a s1.len s1.cap) g2) ->
   XRun Tp (Ax #[22,22] 22 #[.slice sk.a sk.len sk.cap,.slice (some ⟨kb,0,none⟩) 1 1]) g K:=by
  intro g kb kg aQ K hK
  have L:=Later.same O.ag kg
  have zg:=kg.size
  have Og:=O.call L
  refine ORow.app zho (by omega) L.ag Og.keys (by omega) aQ aL (by omega) λs1 g2 bk1 r1 r2 r3 r4=>hK s1 g2 bk1 ?_ r4 r2
  have aO:AgM M g2:=AgM.app L.ag r4 λc hc=>(Og.keys.own c hc).2.2
  refine⟨aO,?_,r1,?_,?_,?_,⟨by omega,λj hj=>?_⟩,by omega⟩
  ·have:=Og.box
   unfold Blk at this ⊢
   rw[r4 b (by omega) O.nk];exact this
  ·refine Og.items.frame (λc hc=>r4 c (Og.items.own c hc).2.1 λhk=>O.dj c hk hc) (Fr.le.refl _) λc hc=>(Og.items.own c hc).2.2
  ·intro hc
   rcases r3 b hc with q|q
   ·exact O.nk q
   ·omega
  ·intro c hc hi
   rcases r3 c hc with q|q
   ·exact O.dj c q hi
   ·have:=(Og.items.own c hi).2.1;omega
  ·rw[r4 j (by omega) λhk=>by have:=(Og.keys.own j hk).1;omega]
   exact kg.get j (by omega)
 have ax:∀(s1 s2:Sl) (g3 g4:zb) (bk1 Z:List Nat),ObK lo h M b (ks++[key]) xs sk si s1 bk bi bk1 g3->ORow lo g4 M .tree (xs++[x]) s2 Z->g3.size<=g4.size->(∀c∈Z,c∈bi\/g3.size<=c)->(∀j,j<g3.size->j∉bi->g4[j]?=g3[j]?) ->
   ∃a:Addr,some (⟨b,0,none⟩:Addr)=some a/\XRunU Tp (Al 22 (.pointer (some (Aj a 2))) (.slice s1.a s1.len s1.cap)) g4 (λg5=>∃a:Addr,some (⟨b,0,none⟩:Addr)=some a/\XRunU Tp (Al 23 (.pointer (some (Aj a 3))) (.slice s2.a s2.len s2.cap)) g5 (λg6=>K (.tuple #[]) g6)):=by
  intro s1 s2 g3 g4 bk1 Z A r1 r2 r3 r4
  have aP:=A.box.lt
  have ba:=A.grow
  have aM:Blk g4 b (zc 6 ⟨#[]⟩ sk si).toArray:=by
   have:=A.box
   unfold Blk at this ⊢
   rw[r4 b aP O.ni];exact this
  have aB:b∉Z:=λhc=>by
   rcases r3 b hc with q|q
   ·exact O.ni q
   ·omega
  have ar:ORow lo g4 M .str (ks++[key]) s1 bk1:=A.keys.frame (λc hc=>r4 c (A.keys.own c hc).2.1 (A.dj c hc)) (Fr.le.refl _) λc hc=>(A.keys.own c hc).2.2
  have a8:AgM M g4:=AgM.app A.ag r4 λc hc=>(A.items.own c hc).2.2
  refine⟨_,rfl,?_⟩
  refine zjv qct qcu (o:=2) aM (by show 2<4;omega) rfl λg5 q1 q2 q3=>⟨_,rfl,?_⟩
  have q1:Blk g5 b (zc 6 ⟨#[]⟩ s1 si).toArray:=q1
  refine zjv qc7 qc8 (o:=3) q1 (by show 3<4;omega) rfl λg6 p1 p2 p3=>?_
  have p1:Blk g6 b (zc 6 ⟨#[]⟩ s1 s2).toArray:=p1
  have f6:∀j,j≠b->g6[j]?=g4[j]?:=λj hj=>(p3 j hj).trans (q3 j hj)
  refine hK g6 s1 s2 bk1 Z ⟨AgM.but a8 O.no f6,p1,?_,?_,A.nk,aB,?_,O.no,O.lo⟩ ⟨by have:=A.kp.size;omega,λj hj=>?_⟩
  ·exact ar.frame (λc hc=>f6 c λe=>A.nk (e ▸ hc)) (Fr.le.refl _) λc hc=>(ar.own c hc).2.2
  ·exact r1.frame (λc hc=>f6 c λe=>aB (e ▸ hc)) (Fr.le.refl _) λc hc=>(r1.own c hc).2.2
  ·intro c hc hi
   rcases r3 c hi with q|q
   ·exact A.dj c hc q
   ·have:=(A.keys.own c hc).2.1;omega
  ·rw[f6 j (by omega),r4 j (by omega) λhi=>by have:=(O.items.own j hi).1;omega]
   exact A.kp.get j hj
 have af:∀(s1:Sl) (g3:zb) (bk1:List Nat) (xb:Nat),ObK lo h M b (ks++[key]) xs sk si s1 bk bi bk1 g3->Blk g3 xb (zi x ck ci).toArray->∀(K2:Value->zb->Prop),(∀(s2:Sl) (g4:zb) (Z:List Nat),ORow lo g4 M .tree (xs++[x]) s2 Z->g3.size<=g4.size->(∀c∈Z,c∈bi\/g3.size<=c)->(∀j,j<g3.size->j∉bi->g4[j]?=g3[j]?)->K2 (.slice s2.a s2.len s2.cap) g4) ->
   XRun Tp (Ax #[23,23] 23 #[.slice si.a si.len si.cap,.slice (some ⟨xb,0,none⟩) 1 1]) g3 K2:=by
  intro s1 g3 bk1 xb A aV K2 aZ
  have:=A.grow
  exact ORow.app elemTree (by omega) A.ag A.items (by omega) aV aS (by omega) λs2 g4 Z r1 r2 r3 r4=>aZ s2 g4 Z r1 r2 r3 r4
 refine⟨_,rfl,sk,aC.cellAdd (by rfl),_,rfl,si,aC.cellAdd (by rfl),x.kind,x.text,ck,ci,b1.ld (cs:=zi x ck ci),?_,?_⟩
 ·intro aa
  have bn:aa.size=h1.size+1:=Ak _
  have ae:Keep h1.size h1 aa:=Keep.push _ _ (Ae _)
  have aD:Blk aa h1.size [AW key].toArray:=Blk.new _ _ _
  clear_value aa
  have au:Keep h.size h aa:=k1.trans ae (by omega)
  refine⟨ae.get _ (show h.size<h1.size by omega),ae.get _ (show b<h1.size by omega),ae.get _ (show b<h1.size by omega),?_,?_⟩
  ·refine ah aa h1.size au aD _ λs1 ak bk1 A ay bp=>⟨s1,rfl,?_,?_,?_⟩
   ·refine(ay h.size (by omega) λhc=>?_).trans (ae.get _ (by omega))
    have:=(O.keys.own _ hc).2.1;omega
   ·exact(ay b (by omega) O.nk).trans (ae.get _ (by omega))
   ·intro aj
    have bu:aj.size=ak.size+1:=Ak _
    have aJ:Keep ak.size ak aj:=Keep.push _ _ (Ae _)
    have aU:Blk aj ak.size (zi x ck ci).toArray:=Blk.new _ _ _
    clear_value aj
    refine⟨(aJ.get _ (show b<ak.size by omega)).trans ((ay b (by omega) O.nk).trans (ae.get _ (by omega))),?_⟩
    have aI:=A.keep (by omega) aJ
    exact af s1 aj bk1 ak.size aI aU _ λs2 g4 Z r1 r2 r3 r4=>⟨s2,rfl,ax s1 s2 aj g4 bk1 Z aI r1 r2 r3 r4⟩
  ·intro ai
   have bj:ai.size=aa.size+1:=Ak _
   have ap:Keep aa.size aa ai:=Keep.push _ _ (Ae _)
   have a7:Blk ai aa.size (zi x ck ci).toArray:=Blk.new _ _ _
   clear_value ai
   have aE:Keep h.size h ai:=au.trans ap (by omega)
   refine⟨(ap.get _ (show b<aa.size by omega)).trans (ae.get _ (by omega)),(ap.get _ (show b<aa.size by omega)).trans (ae.get _ (by omega)),?_⟩
   refine ah ai h1.size aE (aD.ofKeep ap) _ λs1 aA bk1 A aH bc=>⟨s1,rfl,?_,?_⟩
   ·exact(aH b (by omega) O.nk).trans ((ap.get _ (by omega)).trans (ae.get _ (by omega)))
   ·have a1:Blk aA aa.size (zi x ck ci).toArray:=by
     have:=a7
     unfold Blk at this ⊢
     rw[aH aa.size (by omega) λhc=>by have:=(O.keys.own _ hc).2.1;omega];exact this
    exact af s1 aA bk1 aa.size A a1 _ λs2 g4 Z r1 r2 r3 r4=>⟨s2,rfl,ax s1 s2 aA g4 bk1 Z A r1 r2 r3 r4⟩
 ·intro ac
  have bo:ac.size=h1.size+1:=Ak _
  have am:Keep h1.size h1 ac:=Keep.push _ _ (Ae _)
  have a6:Blk ac h1.size (zi x ck ci).toArray:=Blk.new _ _ _
  clear_value ac
  refine⟨am.get _ (show b<h1.size by omega),am.get _ (show b<h1.size by omega),?_⟩
  intro al
  have bm:al.size=ac.size+1:=Ak _
  have an:Keep ac.size ac al:=Keep.push _ _ (Ae _)
  have aY:Blk al ac.size [AW key].toArray:=Blk.new _ _ _
  clear_value al
  have aG:Keep h.size h al:=(k1.trans am (by omega)).trans an (by omega)
  refine⟨(an.get _ (show b<ac.size by omega)).trans (am.get _ (by omega)),(an.get _ (show b<ac.size by omega)).trans (am.get _ (by omega)),?_⟩
  refine ah al ac.size aG aY _ λs1 az bk1 A aF bq=>⟨s1,rfl,?_,?_⟩
  ·exact(aF b (by omega) O.nk).trans ((an.get _ (by omega)).trans (am.get _ (by omega)))
  ·have aT:Blk az h1.size (zi x ck ci).toArray:=by
    have:=a6.ofKeep an
    unfold Blk at this ⊢
    rw[aF h1.size (by omega) λhc=>by have:=(O.keys.own _ hc).2.1;omega];exact this
   exact af s1 az bk1 h1.size A aT _ λs2 g4 Z r1 r2 r3 r4=>⟨s2,rfl,ax s1 s2 az g4 bk1 Z A r1 r2 r3 r4⟩
end
section
variable {gl M M':Fr} {R:Tr -> Prop} {w:Value} {h g:zb} {b:Nat} {ks:List Bt} {xs:List Tr}
def zei(s:Bt):Tr:=.mk 4 s [] []
def zdb(p:List Bt):Bt:=bl (Wj (p.map lb))
def qbf(o:OpT):List Bt:=([kOp]++[Wi])++((if(zz (lb o.1)).2.1=true then [Q7]else [])++(if(zz (lb o.1)).1=true then [wu]else []))
def qbg(o:OpT):List Tr:=([zei o.1]++[zei (zdb o.2.1)])++((if(zz (lb o.1)).2.1=true then [zei (zdb o.2.2.1)]else [])++(if(zz (lb o.1)).1=true then [o.2.2.2]else []))
def xa(o:OpT):Tr:=.mk 6 ⟨#[]⟩ (qbf o) (qbg o)
theorem qds{s:Bt}(h:R (zei s)):PC Tp gl 88 [Arg.mk .str s] [.tree] R:=by
 apply zq9;exact h
theorem qcy{r:Bt×Int}(h:zak M [.str,.int .i64] r w):w=.tuple #[.string r.1,.int .i64 r.2]:=by
 obtain⟨vs,⟨v1,rest,rfl,hx,v2,rfl,hy⟩,rfl⟩:=h
 rw[z5b hx,zsm hy];rfl
theorem qcz{r:Tr}(h:zak M [.tree] r w):∃sk si:Sl,w=.agg #[.int .i64 r.kind,.string r.text,slV sk,slV si]/\RdV M .tree r (.agg (zi r sk si).toArray):=by
 have h:=zcn.1 h
 obtain⟨sk,si,e,_⟩:=wq h
 exact⟨sk,si,e,by rw[e]at h;exact h⟩
theorem Later.own{bs:List Nat}(L:Later h M g M')(hb:∀c∈bs,h.size<=c):Later h M g (MxL M' g bs):=by
 refine⟨L.keep,L.le.trans (Xm L.ag bs),λc hc=>?_,MxL.ag L.ag bs⟩
 have hn:c∉bs:=λhm=>by have:=hb c hm;omega
 rw[<-L.old c hc]
 unfold MxL
 rw[if_neg hn]
theorem Obj.rd{lo:Nat}{sk si:Sl}{bk bi:List Nat}(O:Obj lo h M b ks xs sk si bk bi)(hn:ks.length<=1000000/\xs.length<=1000000):RdV (MxL M h (bk++bi)) .tree (.mk 6 ⟨#[]⟩ ks xs) (.agg (zc 6 ⟨#[]⟩ sk si).toArray):=by
 refine yh (v:=.mk 6 ⟨#[]⟩ ks xs) ?_ ?_
 ·exact O.keys.rd O.ag (λc hc=>Ao _ hc) hn.1
 ·exact O.items.rd O.ag (λc hc=>AB _ hc) hn.2
structure Mk (h:zb) (M:Fr) (ab:List Value) (b:Nat) (g:zb) (M':Fr) (ks:List Bt) (xs:List Tr):Prop where
 la:Later h M g M'
 ab:Blk g h.size ab.toArray
 rb:∃cs:Array Value,Blk g (h.size+1) cs/\cs.size=4
 no:M' (h.size+1)=none
 lt:h.size+1<b
 ob:∃sk si bk bi,Obj b g M' b ks xs sk si bk bi
theorem Mk.call{ab:List Value}{g g':zb}{M' M'':Fr}(I:Mk h M ab b g M' ks xs)(L:Later g M' g' M''):Mk h M ab b g' M'' ks xs:=by
 obtain⟨cs,e1,e2⟩:=I.rb
 obtain⟨sk,si,bk,bi,O⟩:=I.ob
 exact⟨I.la.trans L,I.ab.ofKeep L.keep,⟨cs,e1.ofKeep L.keep,e2⟩,by rw[L.old _ e1.lt];exact I.no,I.lt,⟨sk,si,bk,bi,O.call L⟩⟩
theorem Mk.more{ab:List Value}(I:Mk h M ab b g M' ks xs)(hn:ks.length<=1000/\xs.length<=1000){key:Bt}{x:Tr}{ck ci:Sl}(hx:RdV M' .tree x (.agg (zi x ck ci).toArray)){K:Value->zb->Prop}
  (hK:∀g',Mk h M ab b g' M' (ks++[key]) (xs++[x])->K (.tuple #[]) g'):
  XC Tp 87 #[.pointer (some ⟨b,0,none⟩),.string key,.agg #[.int .i64 x.kind,.string x.text,slV ck,slV ci]] g K:=by
 obtain⟨sk,si,bk,bi,O⟩:=I.ob
 have hl:=I.lt
 refine z0l O hn hx λg' sk' si' bk' Z O' kp=>hK g' ?_
 have z:=I.la.keep.size
 have kk:Keep h.size h g':=⟨by have:=kp.size;have:=O.box.lt;omega,λj hj=>by rw[kp.get j (by omega)];exact I.la.keep.get j hj⟩
 obtain⟨cs,e1,e2⟩:=I.rb
 refine⟨⟨kk,I.la.le,I.la.old,O'.ag⟩,?_,⟨cs,?_,e2⟩,I.no,hl,⟨sk',si',bk',Z,O'⟩⟩
 ·have:=I.ab
  unfold Blk at this ⊢
  rw[kp.get _ (by omega)];exact this
 ·unfold Blk at e1 ⊢
  rw[kp.get _ (by omega)];exact e1
set_option maxHeartbeats 4000000 in
theorem z3v(hg:GL gl){o:OpT}(ho:OpS o)(hr:qg o=true)(hR:R (xa o)):PC Tp gl 50 [Arg.mk Yn o] [.tree] R:=by
 have aU:jc o.2.1=true/\jc o.2.2.1=true:=by
  have:=hr
  unfold qg at this
  simp only[AI]at this
  exact⟨this.2.1,this.2.2.1⟩
 intro h M vs hM ag ha
 match vs,ha with
 |[u],⟨hu,_⟩=>
 have hu:RdV M Yn o u:=hu
 obtain⟨sp,sf,sk,si,rfl,r1,r2,r3⟩:=z3l hu
 apply PX.of
 apply zia o.1 sp sf o.2.2.2.kind o.2.2.2.text sk si
 intro h1 h2
 have z1:h1.size=h.size+1:=Ak _
 have z2:h2.size=h1.size+1:=Ak _
 have k1:Keep h.size h h1:=Keep.push _ _ (Ae _)
 have k2:Keep h1.size h1 h2:=Keep.push _ _ (Ae _)
 have b1:Blk h1 h.size (zw o.1 sp sf o.2.2.2 sk si).toArray:=Blk.new _ _ _
 have b2:Blk h2 h1.size (zc 0 ⟨#[]⟩ ⟨none,0,0⟩ ⟨none,0,0⟩).toArray:=Blk.new _ _ _
 clear_value h1 h2
 have K2:Keep h.size h h2:=k1.trans k2 (by omega)
 have L2:Later h M h2 M:=Later.same ag K2
 have a7:M h1.size=none:=by
  cases e:M h1.size with
  |none=>rfl
  |some cs=>have:=ag.lt e;omega
 have aO:=b1.ofKeep k2
 refine⟨o.1,aO.cellAdd (by rfl),?_⟩
 have hs:PC Tp gl 36 [Arg.mk .str o.1] [.bool,.bool,.bool] (λr=>r=zz (lb o.1)):=zm9 rfl
 refine hs.go (vs:=[.string o.1]) (hM.trans L2.le) L2.ag (yj (rdStr _) wm) λw h5 M5 r L5 aj aG=>?_
 have aG:r=zz (lb o.1):=aG
 subst aG
 have z5:=L5.keep.size
 refine⟨(zz (lb o.1)).1,(zz (lb o.1)).2.1,(zz (lb o.1)).2.2,z5c aj,?_⟩
 intro h9
 have z9:h9.size=h5.size+1:=Ak _
 have k9:Keep h5.size h5 h9:=Keep.push _ _ (Ae _)
 have b9:Blk h9 h5.size (zc 0 ⟨#[]⟩ ⟨none,0,0⟩ ⟨none,0,0⟩).toArray:=Blk.new _ _ _
 clear_value h9
 refine qf b9 rfl 6 ⟨#[]⟩ ⟨none,0,0⟩ ⟨none,0,0⟩ λaV bm bq a8=>?_
 have aF:Keep h5.size h5 aV:=⟨by omega,λj hj=>by rw[a8 j (by omega)];exact k9.get j hj⟩
 have La:=Later.same L5.ag aF
 have aP:=(L2.trans L5).trans La
 have bj:M5 h5.size=none:=by
  cases e:M5 h5.size with
  |none=>rfl
  |some cs=>have:=L5.ag.lt e;omega
 have aY:Mk h M (zw o.1 sp sf o.2.2.2 sk si) h5.size aV M5 [] []:=by
  refine⟨aP,(aO.ofKeep L5.keep).ofKeep aF,⟨_,by rw[<-z1];exact(b2.ofKeep L5.keep).ofKeep aF,rfl⟩,by rw[<-z1,L5.old _ (by omega)];exact a7,by omega,⟨⟨none,0,0⟩,⟨none,0,0⟩,[],[],⟨aP.ag,bm,ORow.nil,ORow.nil,by simp,by simp,(λc hc=>by cases hc),bj,Ae _⟩⟩⟩
 have aS:∀(s:Bt) (key:Bt) {g:zb} {M':Fr} {ks:List Bt} {xs:List Tr} (I:Mk h M (zw o.1 sp sf o.2.2.2 sk si) h5.size g M' ks xs) (hn:ks.length<=1000/\xs.length<=1000) {K:zb->Prop},(∀g' M'',Mk h M (zw o.1 sp sf o.2.2.2 sk si) h5.size g' M'' (ks++[key]) (xs++[zei s])->K g') ->
   XC Tp 88 #[.string s] g (λar ax=>∃ah:Int,∃af:Bt,∃aa:Sl,∃Z:Sl,ar=.agg #[.int .i64 ah,.string af,.slice aa.a aa.len aa.cap,.slice Z.a Z.len Z.cap] /\
    XC Tp 87 #[.pointer (some ⟨h5.size,0,none⟩),.string key,.agg #[.int .i64 ah,.string af,.slice aa.a aa.len aa.cap,.slice Z.a Z.len Z.cap]] ax (λau ay=>au=.tuple #[]/\K ay)):=by
  intro s key g M' ks xs I hn K hK
  have bh:PC Tp gl 88 [Arg.mk .str s] [.tree] (λr=>r=zei s):=qds rfl
  refine bh.go (vs:=[.string s]) (hM.trans I.la.le) I.la.ag (yj (rdStr _) wm) λw g1 M1 r L1 aj ai=>?_
  have ai:r=zei s:=ai
  subst ai
  obtain⟨ck,ci,rfl,hx⟩:=qcz aj
  refine⟨(zei s).kind,(zei s).text,ck,ci,rfl,?_⟩
  exact(I.call L1).more hn hx λg' I'=>⟨rfl,hK g' M1 I'⟩
 have aT:∀(p:List Bt) (key:Bt) (s:Sl) {g:zb} {M':Fr} {ks:List Bt} {xs:List Tr} (I:Mk h M (zw o.1 sp sf o.2.2.2 sk si) h5.size g M' ks xs) (hn:ks.length<=1000/\xs.length<=1000) (hp:SL p) (aN:jc p=true) (hs:RdV M (.row .str) p (slV s)) {K:zb->Prop},(∀g' M'',Mk h M (zw o.1 sp sf o.2.2.2 sk si) h5.size g' M'' (ks++[key]) (xs++[zei (zdb p)])->K g') ->
   XC Tp 89 #[slV s] g (λaQ aJ=>∃am:Bt,∃aA:Int,aQ=.tuple #[.string am,.int .i64 aA] /\
    XC Tp 88 #[.string am] aJ (λar ax=>∃ah:Int,∃af:Bt,∃aa:Sl,∃Z:Sl,ar=.agg #[.int .i64 ah,.string af,.slice aa.a aa.len aa.cap,.slice Z.a Z.len Z.cap] /\
    XC Tp 87 #[.pointer (some ⟨h5.size,0,none⟩),.string key,.agg #[.int .i64 ah,.string af,.slice aa.a aa.len aa.cap,.slice Z.a Z.len Z.cap]] ax (λau ay=>au=.tuple #[]/\K ay))):=by
  intro p key s g M' ks xs I hn hp aN hs K hK
  have aZ:PC Tp gl 89 [Arg.mk (.row .str) p] [.str,.int .i64] (λr=>r.1=zdb p):=z7o hg hp (λ_=>rfl) (λe=>by rw[aN]at e;cases e)
  refine aZ.go (vs:=[slV s]) (hM.trans I.la.le) I.la.ag (yj (RdV.mono I.la.le hs) wm) λw g1 M1 r L1 aj ai=>?_
  have ai:r.1=zdb p:=ai
  refine⟨r.1,r.2,qcy aj,?_⟩
  rw[ai]
  exact aS (zdb p) key (I.call L1) hn hK
 have aI:∀(g:zb) (M':Fr) (ks:List Bt) (xs:List Tr),Mk h M (zw o.1 sp sf o.2.2.2 sk si) h5.size g M' ks xs->(ks.length<=1000/\xs.length<=1000)->Tr.mk 6 ⟨#[]⟩ ks xs=xa o ->
   ∃ap:Int,∃an:Bt,∃ac:Sl,∃ae:Sl,zd g ⟨h5.size,0,none⟩ 0 [.int .i64 ap,.string an,.slice ac.a ac.len ac.cap,.slice ae.a ae.len ae.cap] /\
    XRunU Tp (Al 25 (.pointer (some ⟨h1.size,0,none⟩)) (.agg #[.int .i64 ap,.string an,.slice ac.a ac.len ac.cap,.slice ae.a ae.len ae.cap])) g (λaD=>∃aC:Int,∃aE:Bt,∃ak:Sl,∃al:Sl,zd aD ⟨h1.size,0,none⟩ 0 [.int .i64 aC,.string aE,.slice ak.a ak.len ak.cap,.slice al.a al.len al.cap] /\
     (∃M' r,Later h M aD M'/\zak M' [.tree] r (.agg #[.int .i64 aC,.string aE,.slice ak.a ak.len ak.cap,.slice al.a al.len al.cap])/\R r)):=by
  intro g M' ks xs I hn e
  obtain⟨ck,ci,bk,bi,O⟩:=I.ob
  obtain⟨cs,e1,e2⟩:=I.rb
  rw[<-z1]at e1
  have bu:=I.lt
  refine⟨6,⟨#[]⟩,ck,ci,O.box.ld (cs:=zc 6 ⟨#[]⟩ ck ci),?_⟩
  refine qf e1 e2 6 ⟨#[]⟩ ck ci λg' q1 q2 q3=>⟨6,⟨#[]⟩,ck,ci,q1.ld (cs:=zc 6 ⟨#[]⟩ ck ci),MxL M' g' (bk++bi),xa o,?_,?_,hR⟩
  ·have az:M' h1.size=none:=by rw[z1];exact I.no
   have i2:=I.la.keep.size
   have L':Later h M g' M':=⟨⟨by omega,λj hj=>by rw[q3 j (by omega)];exact I.la.keep.get j hj⟩,I.la.le,I.la.old,AgM.but I.la.ag az q3⟩
   refine Later.own L' λc hc=>?_
   rcases An.1 hc with hc|hc
   ·have:=(O.keys.own c hc).1;omega
   ·have:=(O.items.own c hc).1;omega
  ·have az:M' h1.size=none:=by rw[z1];exact I.no
   have O':Obj h5.size g' M' h5.size ks xs ck ci bk bi:=by
    refine⟨AgM.but I.la.ag az q3,?_,?_,?_,O.nk,O.ni,O.dj,O.no,O.lo⟩
    ·have:=O.box
     unfold Blk at this ⊢
     rw[q3 _ (by omega)];exact this
    ·exact O.keys.frame (λc hc=>q3 c (by have:=(O.keys.own c hc).1;omega)) (Fr.le.refl _) λc hc=>(O.keys.own c hc).2.2
    ·exact O.items.frame (λc hc=>q3 c (by have:=(O.items.own c hc).1;omega)) (Fr.le.refl _) λc hc=>(O.items.own c hc).2.2
   rw[<-e]
   exact zcn.2 (O'.rd ⟨by omega,by omega⟩)
 refine⟨o.1,aY.ab.cellAdd (by rfl),?_⟩
 refine aS o.1 kOp aY (by simp) λbz bp aM=>?_
 refine⟨sp,aM.ab.cellAdd (by rfl),?_⟩
 refine aT o.2.1 Wi sp aM (by simp) ho.p aU.1 r1 λba bo aH=>?_
 intro a6 aL
 have aB:∀(g:zb) (M':Fr) (ks:List Bt) (xs:List Tr),Mk h M (zw o.1 sp sf o.2.2.2 sk si) h5.size g M' ks xs->ks=([kOp]++[Wi])++(if(zz (lb o.1)).2.1=true then [Q7]else [])->xs=([zei o.1]++[zei (zdb o.2.1)])++(if(zz (lb o.1)).2.1=true then [zei (zdb o.2.2.1)]else [])->a6 g:=by
  intro g M' ks xs I e1 e2
  have hn:ks.length<=999/\xs.length<=999:=by
   rw[e1,e2];split <;> simp
  apply aL
  refine⟨λhc=>?_,λhc=>?_⟩
  ·refine⟨o.2.2.2.kind,o.2.2.2.text,sk,si,?_,?_⟩
   ·exact⟨I.ab.cellAdd (o:=3) (k:=0) (by rfl),I.ab.cellAdd (o:=3) (k:=1) (by rfl),I.ab.cellAdd (o:=3) (k:=2) (by rfl),I.ab.cellAdd (o:=3) (k:=3) (by rfl),trivial⟩
   have be:PC Tp gl 32 [Arg.mk .tree o.2.2.2] [.tree] (λr=>r=o.2.2.2):=zzu hg ho.v (Wb hr hc) rfl
   refine be.go (vs:=[.agg #[.int .i64 o.2.2.2.kind,.string o.2.2.2.text,slV sk,slV si]]) (hM.trans I.la.le) I.la.ag (yj (RdV.mono I.la.le r3) wm) λw g1 M1 r L1 aj ai=>?_
   have ai:r=o.2.2.2:=ai
   subst ai
   obtain⟨ck,ci,rfl,hx⟩:=qcz aj
   refine⟨o.2.2.2.kind,o.2.2.2.text,ck,ci,rfl,?_⟩
   refine(I.call L1).more ⟨by omega,by omega⟩ hx λg' I'=>⟨rfl,?_⟩
   refine aI g' M1 _ _ I' ⟨by simp;omega,by simp;omega⟩ ?_
   unfold xa qbf qbg
   rw[e1,e2,if_pos hc,if_pos hc]
   simp only[AQ]
   rfl
  ·refine aI g M' ks xs I ⟨by omega,by omega⟩ ?_
   unfold xa qbf qbg
   rw[e1,e2,hc]
   simp
 refine⟨λhc=>?_,λhc=>?_⟩
 ·refine⟨sf,aH.ab.cellAdd (by rfl),?_⟩
  refine aT o.2.2.1 Q7 sf aH (by simp) ho.f aU.2 r2 λbc a1 bn=>?_
  refine aB bc a1 _ _ bn ?_ ?_
  ·rw[if_pos hc];rfl
  ·rw[if_pos hc];rfl
 ·refine aB ba bo _ _ aH ?_ ?_
  ·rw[hc];simp
  ·rw[hc];simp
end
section
theorem xc(s0:Sl)(Z:FuncId)(O:Array Value)(aa:Array Value)(h:zb)(R:Value->zb->Prop)
  (H:XC Tp 86 #[slV s0,.func (.func Z) O aa] h (λb c=>∃d,b=.int .i64 d/\R (.bool (decide (d>=0))) c)):
  XC Tp 48 #[.slice s0.a s0.len s0.cap,.func (.func Z) O aa] h R:=
 XF ⟨[],[],[]⟩ [.tmp 4] 9 Tryz.func48 H
theorem Zg(s0:Sl)(O:FuncId)(Z:Array Value)(aa:Array Value)(h:zb)(R:Value->zb->Prop)
  (H:∃(b:Int->zb->Prop) (c:Int->zb->Nat),b 0 h/\∀d:Int,∀e:zb,b d e->((decide (d<s0.len)=true->∃f,(s0.a=some f/\0<=d/\d<s0.len)/\∃g i j k l m n,zd e (f.add (d.toNat*7)) 0 [.string g,slV i,slV j,.int .i64 k,.string l,slV m,slV n]/\qk Tp O=true/\XC Tp O (Z++#[.agg #[.string g,slV i,slV j,.int .i64 k,.string l,slV m,slV n]]++aa) e (λo p=>∃q,o=.bool q/\(q=true->R (.int .i64 d) p)/\(q=false->(b (Ab .i64 (d+1)) p/\c (Ab .i64 (d+1)) p<c d e))))/\(decide (d<s0.len)=false->R (.int .i64 (-1)) e))):
  XC Tp 86 #[.slice s0.a s0.len s0.cap,.func (.func O) Z aa] h R:=
 XF ⟨[],[(2,[(8,.one (.int .i64))])],[]⟩ [.tmp 4] 19 Tryz.func86 H
end
section
variable {gl:Fr}
def zew(l:List Tr):Tr:=.mk 5 ⟨#[]⟩ [] l
def zjf(l:List OpT):Tr×Int:=if l.all qg=true then(if l.length<=4096 then(if ql (zew (l.map xa))=true then(zew (l.map xa),0)else(zT,1))else(zT,6))else(zT,1)
set_option maxHeartbeats 1000000 in
theorem qc0{F:FuncId}{A C:Array Value}{h:zb}{M:Fr}(ag:AgM M h){xs:List OpT}{s:Sl}(hr:Rd M (.row Yn) xs [slV s]){p:OpT->Bool}(hb:∀x∈xs,Beh gl F A C h M Yn x (p x)):
  PX Tp 48 #[slV s,.func (.func F) A C] h M [.bool] (λr=>r=xs.any p):=by
 apply PX.of
 apply xc s F A C
 apply Zg s F A C
 obtain⟨ae,af,ah⟩:=rowLen hr
 refine⟨λi h4=>∃k:Nat,i=k/\k<=xs.length/\(∃M4,Later h M h4 M4)/\(xs.take k).any p=false,λi _=>xs.length-i.toNat,⟨0,rfl,by omega,⟨M,Later.refl ag⟩,by simp⟩,?_⟩
 rintro i h4 ⟨k,rfl,hk,⟨M4,L4⟩,Z⟩
 refine⟨λhc=>?_,λhc=>?_⟩
 ·have O:k<xs.length:=by simp at hc;omega
  obtain⟨a,sp,sf,sk,si,e1,e2,e3⟩:=opAt L4.ag (Rd.mono L4.le hr) O
  refine⟨a,⟨e1,by omega,by omega⟩,xs[k].1,sp,sf,xs[k].2.2.2.kind,xs[k].2.2.2.text,sk,si,by rw[Ah];exact e2,(hb _ (Ay O)).1,?_⟩
  refine((hb _ (Ay O)).2 h4 M4 _ L4 e3).go λv h5 M5 r L5 aa ac=>⟨r,zdd aa,λhx=>?_,λhx=>?_⟩
  ·refine⟨(k:Int),rfl,M5,_,L4.trans L5,zcn.2 (rdBool _),?_⟩
   have:xs.any p=true:=D8.2 ⟨xs[k],Ay O,by rw[<-ac];exact hx⟩
   rw[this];simp
  ·rw[Zz O (by omega)]
   refine⟨⟨k+1,rfl,by omega,⟨M5,L4.trans L5⟩,?_⟩,by simp only[Ah];omega⟩
   rw[Am O,List.any_append,Z]
   simp only[EO,List.any_nil,<-ac,hx];rfl
 ·have O:k=xs.length:=by simp at hc;omega
  subst O
  rw[AN]at Z
  refine⟨-1,rfl,M4,_,L4,zcn.2 (rdBool _),?_⟩
  rw[Z];rfl
theorem z9d(l:List OpT):l.any (λo=>!qg o)=!l.all qg:=by
 induction l with
 |nil=>rfl
 |cons o l ih=>rw[EO,DJ,ih];cases qg o <;> rfl
set_option maxHeartbeats 4000000 in
theorem zty(hg:GL gl){l:List OpT}(hl:∀o∈l,OpS o)(hn:l.length<=100000)(sm:l.all qg=true->l.length<=4096->Sm (zew (l.map xa))){R:Tr×Int->Prop}(hR:R (zjf l)):PC Tp gl 22 [Arg.mk (.row Yn) l] [.tree,.int .i64] R:=by
 intro h M vs hM ag ha
 match vs,ha with
 |[u],⟨hu,_⟩=>
 have hu:RdV M (.row Yn) l u:=hu
 obtain⟨sl,rfl,rl⟩:=zin hu
 obtain⟨ll,_,_⟩:=rowLen rl
 apply PX.of
 apply znb sl
 intro h1
 have k1:Keep h.size h h1:=Keep.push _ _ (Ae _)
 have b1:Blk h1 h.size (zc 0 ⟨#[]⟩ ⟨none,0,0⟩ ⟨none,0,0⟩).toArray:=Blk.new _ _ _
 have z1:h1.size=h.size+1:=Ak _
 clear_value h1
 have L1:Later h M h1 M:=Later.same ag k1
 have be:M h.size=none:=by
  cases e:M h.size with
  |none=>rfl
  |some cs=>have:=ag.lt e;omega
 have ret:∀(g:zb) (M':Fr) (r:Tr) (e:Int) (sk si:Sl) (bs:List Nat),Later h M g M'->(∃cs:Array Value,Blk g h.size cs/\cs.size=4)->M' h.size=none->RdV M' .tree r (.agg (zi r sk si).toArray)->R (r,e) ->
   XRunU Tp (Al 25 (.pointer (some ⟨h.size,0,none⟩)) (.agg #[.int .i64 r.kind,.string r.text,slV sk,slV si])) g (λg'=>∃aB:Int,∃aC:Bt,∃Z:Sl,∃ac:Sl,zd g' ⟨h.size,0,none⟩ 0 [.int .i64 aB,.string aC,.slice Z.a Z.len Z.cap,.slice ac.a ac.len ac.cap] /\
    (∃M' r',Later h M g' M'/\zak M' [.tree,.int .i64] r' (.tuple #[.agg #[.int .i64 aB,.string aC,.slice Z.a Z.len Z.cap,.slice ac.a ac.len ac.cap],.int .i64 e])/\R r')):=by
  intro g M' r e sk si bs L hb hn hr hR
  obtain⟨cs,e1,e2⟩:=hb
  refine qf e1 e2 r.kind r.text sk si λg' q1 q2 q3=>⟨r.kind,r.text,sk,si,q1.ld (cs:=zc r.kind r.text sk si),M',(r,e),?_,⟨[_,_],⟨_,_,rfl,hr,_,rfl,z6j _ _⟩,rfl⟩,hR⟩
  have i2:=L.keep.size
  exact⟨⟨by omega,λj hj=>by rw[q3 j (by omega)];exact L.keep.get j hj⟩,L.le,L.old,AgM.but L.ag hn q3⟩
 have aQ:∀x∈l,Beh gl 49 #[] #[] h1 M Yn x (!qg x):=by
  intro x hx
  refine⟨by kernel_rfl,λh' M' u L hu=>?_⟩
  have hp:PC Tp gl 49 [Arg.mk Yn x] [.bool] (λr=>r=!qg x):=by
   apply zhu
   rw[z9c]
   exact zh9 hg (hl x hx) rfl
  exact hp.px (vs:=[u]) (hM.trans L.le) L.ag (yj hu wm)
 refine(qc0 (gl:=gl) (F:=49) (A:=#[]) (C:=#[]) L1.ag rl aQ).go λw h3 M3 r L3 ae hr=>?_
 have hr:r=l.any (λo=>!qg o):=hr
 rw[z9d]at hr
 subst hr
 have z3:=L3.keep.size
 have aE:=L1.trans L3
 have b3:=b1.ofKeep L3.keep
 have aD:M3 h.size=none:=by rw[L3.old _ (by omega)];exact be
 unfold zjf at hR
 refine⟨_,zdd ae,λhx=>?_,λhx=>?_⟩
 ·have am:¬l.all qg=true:=by simpa using hx
  rw[if_neg am]at hR
  exact ret h3 M3 zT 1 ⟨none,0,0⟩ ⟨none,0,0⟩ [] aE ⟨_,b3,rfl⟩ aD zv0 hR
 have an:l.all qg=true:=by simpa using hx
 rw[if_pos an]at hR
 refine⟨λhx=>?_,λhx=>?_⟩
 ·have:¬l.length<=4096:=by
   have:(sl.len:Int)>4096:=by simpa using hx
   omega
  rw[if_neg this]at hR
  exact ret h3 M3 zT 6 ⟨none,0,0⟩ ⟨none,0,0⟩ [] aE ⟨_,b3,rfl⟩ aD zv0 hR
 have aN:l.length<=4096:=by
  have:¬(sl.len:Int)>4096:=by simpa using hx
  omega
 rw[if_pos aN]at hR
 intro ay
 have bz:Keep h3.size h3 ay:=Keep.push _ _ (Ae _)
 have bB:Blk ay h3.size (zc 0 ⟨#[]⟩ ⟨none,0,0⟩ ⟨none,0,0⟩).toArray:=Blk.new _ _ _
 have bG:ay.size=h3.size+1:=Ak _
 clear_value ay
 refine qf bB rfl 5 ⟨#[]⟩ ⟨none,0,0⟩ ⟨none,0,0⟩ λbm bC bI a6=>?_
 have aU:Keep h3.size h3 bm:=⟨by omega,λj hj=>by rw[a6 j (by omega)];exact bz.get j hj⟩
 have a7:=Later.same L3.ag aU
 have aS:M3 h3.size=none:=by
  cases e:M3 h3.size with
  |none=>rfl
  |some cs=>have:=L3.ag.lt e;omega
 refine⟨λi g=>∃(k:Nat) (M':Fr) (si:Sl) (bi:List Nat),i=k/\k<=l.length/\Later h M g M'/\(∃cs:Array Value,Blk g h.size cs/\cs.size=4)/\M' h.size=none/\Blk g h3.size (zc 5 ⟨#[]⟩ ⟨none,0,0⟩ si).toArray/\M' h3.size=none/\ORow (h3.size+1) g M' .tree ((l.take k).map xa) si bi,
  λi _=>l.length-i.toNat,⟨0,M3,⟨none,0,0⟩,[],rfl,by omega,aE.trans a7,⟨_,b3.ofKeep aU,rfl⟩,aD,bC,aS,ORow.nil⟩,?_⟩
 rintro i g ⟨k,M',si,bi,rfl,hk,L,aP,aH,aa,bp,ah⟩
 refine⟨λhc=>?_,λhc=>?_⟩
 ·have af:k<l.length:=by simp at hc;omega
  obtain⟨a,sp,sf,ck,ci,e1,e2,e3⟩:=opAt L.ag (Rd.mono L.le rl) af
  refine⟨a,⟨e1,by omega,by omega⟩,l[k].1,sp,sf,l[k].2.2.2.kind,l[k].2.2.2.text,ck,ci,by rw[Ah];exact e2,?_⟩
  intro ax
  have bu:Keep g.size g ax:=Keep.push _ _ (Ae _)
  have bA:Blk ax g.size (zw ⟨#[]⟩ ⟨none,0,0⟩ ⟨none,0,0⟩ zT ⟨none,0,0⟩ ⟨none,0,0⟩).toArray:=Blk.new _ _ _
  have bM:ax.size=g.size+1:=Ak _
  clear_value ax
  refine zrl bA rfl l[k].1 sp sf l[k].2.2.2 ck ci λaY bD bL bo=>?_
  have aO:Keep g.size g aY:=⟨by omega,λj hj=>by rw[bo j (by omega)];exact bu.get j hj⟩
  have aJ:=Later.same L.ag aO
  have bH:=aa.lt
  refine⟨si,(aa.ofKeep aO).cellAdd (by rfl),l[k].1,sp,sf,l[k].2.2.2.kind,l[k].2.2.2.text,ck,ci,bD.ld (cs:=zw l[k].1 sp sf l[k].2.2.2 ck ci),?_⟩
  have bq:PC Tp gl 50 [Arg.mk Yn l[k]] [.tree] (λr=>r=xa l[k]):=z3v hg (hl _ (Ay af)) (AP.1 an _ (Ay af)) rfl
  refine bq.go (vs:=[.agg (zw l[k].1 sp sf l[k].2.2.2 ck ci).toArray]) ((hM.trans L.le).trans aJ.le) aJ.ag (yj e3 wm) λw ak ai r al ae hr=>?_
  have hr:r=xa l[k]:=hr
  subst hr
  obtain⟨dk,di,rfl,hx⟩:=qcz ae
  have bJ:=al.keep.size
  refine⟨(xa l[k]).kind,(xa l[k]).text,dk,di,rfl,al.keep.get _ (show h3.size<aY.size by omega),?_⟩
  intro aj
  have aM:Keep ak.size ak aj:=Keep.push _ _ (Ae _)
  have bn:Blk aj ak.size (zi (xa l[k]) dk di).toArray:=Blk.new _ _ _
  have bF:aj.size=ak.size+1:=Ak _
  clear_value aj
  have bj:=Later.same al.ag aM
  refine⟨(aM.get _ (show h3.size<ak.size by omega)).trans (al.keep.get _ (by omega)),?_⟩
  have LL:Later g M' aj ai:=(aJ.trans al).trans bj
  have O:=ah.call LL
  have bc:Rd ai .tree (xa l[k]) (zi (xa l[k]) dk di):=by
   unfold RdV at hx
   simp only[zdn,if_true]at hx
   obtain⟨cs,e,hr⟩:=hx
   have:zi (xa l[k]) dk di=cs:=by injection e with e;simpa using congrArg D9 e
   rw[this];exact hr
  have a8:((l.take k).map xa).length=k:=by rw[Bv,AY];omega
  have au:=aa.ofKeep LL.keep
  refine ORow.app elemTree (by omega) LL.ag O (by omega) bn bc (by omega) λs' aV bh r1 r2 r3 r4=>⟨s',rfl,?_⟩
  have aL:h3.size∉bi:=λhm=>by have:=(O.own _ hm).1;omega
  have n0:h.size∉bi:=λhm=>by have:=(O.own _ hm).1;omega
  have aI:Blk aV h3.size (zc 5 ⟨#[]⟩ ⟨none,0,0⟩ si).toArray:=by
   unfold Blk at au ⊢
   rw[r4 _ (by omega) aL];exact au
  refine zjv qc7 qc8 (o:=3) aI (by show 3<4;omega) rfl λbE q1 q2 q3=>?_
  have q1:Blk bE h3.size (zc 5 ⟨#[]⟩ ⟨none,0,0⟩ s').toArray:=q1
  have az:ai h3.size=none:=by rw[LL.old _ (by omega)];exact bp
  have a1:ai h.size=none:=by rw[LL.old _ (by omega)];exact aH
  have aT:AgM ai aV:=AgM.app LL.ag r4 λc hc=>(O.own c hc).2.2
  have Lg:=L.trans LL
  rw[Zz af (by omega)]
  refine⟨⟨k+1,ai,s',bh,rfl,by omega,⟨⟨by have:=Lg.keep.size;omega,λj hj=>?_⟩,Lg.le,Lg.old,AgM.but aT az q3⟩,?_,a1,q1,az,?_⟩,by simp only[Ah];omega⟩
  ·rw[q3 j (by omega),r4 j (by have:=Lg.keep.size;omega) λhm=>by have:=(O.own _ hm).1;omega]
   exact Lg.keep.get j hj
  ·obtain⟨cs,e1,e2⟩:=aP
   refine⟨cs,?_,e2⟩
   have:=e1.ofKeep LL.keep
   unfold Blk at this ⊢
   rw[q3 _ (by omega),r4 _ (by omega) n0];exact this
  ·rw[Am af,Cq]
   exact r1.frame (λc hc=>q3 c (by have:=(r1.own c hc).1;omega)) (Fr.le.refl _) λc hc=>(r1.own c hc).2.2
 ·have af:k=l.length:=by simp at hc;omega
  subst af
  rw[AN]at ah
  have a8:(l.map xa).length=l.length:=Bv ..
  refine⟨5,⟨#[]⟩,⟨none,0,0⟩,si,aa.ld (cs:=zc 5 ⟨#[]⟩ ⟨none,0,0⟩ si),?_⟩
  have aA:=ah.own
  have hv:RdV (MxL M' g bi) .tree (zew (l.map xa)) (.agg (zc 5 ⟨#[]⟩ ⟨none,0,0⟩ si).toArray):=by
   refine yh (v:=zew (l.map xa)) (sk:=⟨none,0,0⟩) ?_ ?_
   ·exact⟨_,rfl,none,0,rfl,⟨by simp[zew],by simp[zew]⟩,.inl rfl⟩
   ·exact ah.rd L.ag (λc hc=>hc) (by omega)
  have Lf:Later h M g (MxL M' g bi):=Later.own L λc hc=>by have:=(aA c hc).1;omega
  have sm:=sm an aN
  have ba:PC Tp gl 21 [Arg.mk .tree (zew (l.map xa))] [.bool] (λr=>r=ql (zew (l.map xa))):=Xo hg sm rfl
  refine ba.go (vs:=[.agg #[.int .i64 5,.string ⟨#[]⟩,slV ⟨none,0,0⟩,slV si]]) (hM.trans Lf.le) Lf.ag (yj hv wm) λw aG aF r ar ae hr=>?_
  have hr:r=ql (zew (l.map xa)):=hr
  subst hr
  have Lx:=Lf.trans ar
  have aZ:∀c,c<=h3.size->M' c=none->aF c=none:=λc hc e=>by
   rw[ar.old _ (by have:=aa.lt;omega)]
   unfold MxL
   rw[if_neg (λhm=>by have:=(aA _ hm).1;omega)];exact e
  have ap:∃cs:Array Value,Blk aG h.size cs/\cs.size=4:=by
   obtain⟨cs,e1,e2⟩:=aP
   exact⟨cs,e1.ofKeep ar.keep,e2⟩
  refine⟨_,zdd ae,λhx=>?_,λhx=>?_⟩
  ·have am:¬ql (zew (l.map xa))=true:=by simpa using hx
   rw[if_neg am]at hR
   exact ret aG aF zT 1 ⟨none,0,0⟩ ⟨none,0,0⟩ [] Lx ap (aZ _ (by omega) aH) zv0 hR
  ·have am:ql (zew (l.map xa))=true:=by simpa using hx
   rw[if_pos am]at hR
   refine⟨5,⟨#[]⟩,⟨none,0,0⟩,si,(aa.ofKeep ar.keep).ld (cs:=zc 5 ⟨#[]⟩ ⟨none,0,0⟩ si),?_⟩
   exact ret aG aF (zew (l.map xa)) 0 ⟨none,0,0⟩ si [] Lx ap (aZ _ (by omega) aH) (RdV.mono ar.le hv) hR
end
section
variable {h g g':zb} {M M' M'':Fr} {ob lo b:Nat} {xs ys:List Tr} {si:Sl} {bi:List Nat} {ks:List Bt}
structure Out (h:zb) (M:Fr) (ob:Nat) (g:zb) (M':Fr) (xs:List Tr) (si:Sl) (bi:List Nat):Prop where
 la:Later h M g M'
 rb:∃cs:Array Value,Blk g h.size cs/\cs.size=4
 n0:M' h.size=none
 box:Blk g ob (zc 5 ⟨#[]⟩ ⟨none,0,0⟩ si).toArray
 nb:M' ob=none
 row:ORow (ob+1) g M' .tree xs si bi
 lt:h.size<ob
theorem Out.call(O:Out h M ob g M' xs si bi)(L:Later g M' g' M''):Out h M ob g' M'' xs si bi:=by
 obtain⟨cs,e1,e2⟩:=O.rb
 exact⟨O.la.trans L,⟨cs,e1.ofKeep L.keep,e2⟩,by rw[L.old _ e1.lt];exact O.n0,O.box.ofKeep L.keep,by rw[L.old _ O.box.lt];exact O.nb,O.row.call L,O.lt⟩
theorem Out.kp(O:Out h M ob g M' xs si bi)(hl:ob<lo/\∀c∈bi,c<lo)(k:Keep lo g g')(ag:AgM M' g')(hz:g.size<=g'.size):Out h M ob g' M' xs si bi:=by
 have h1:=O.lt
 have h2:=O.la.keep.size
 obtain⟨cs,e1,e2⟩:=O.rb
 refine⟨⟨⟨by omega,λj hj=>by rw[k.get j (by omega)];exact O.la.keep.get j hj⟩,O.la.le,O.la.old,ag⟩,⟨cs,?_,e2⟩,O.n0,?_,O.nb,?_,O.lt⟩
 ·unfold Blk at e1 ⊢;rw[k.get _ (by omega)];exact e1
 ·have:=O.box
  unfold Blk at this ⊢;rw[k.get _ (by omega)];exact this
 ·exact O.row.frame (λc hc=>k.get c (hl.2 c hc)) (Fr.le.refl _) λc hc=>(O.row.own c hc).2.2
theorem Out.frz{bi bs:List Nat}(O:Out h M ob g M' xs si bi)(hl:ob<lo/\∀c∈bi,c<lo)(hb:∀c∈bs,lo<=c):Out h M ob g (MxL M' g bs) xs si bi:=by
 have h1:=O.lt
 have key:∀c,c<lo->M' c=none->MxL M' g bs c=none:=λc hc e=>by
  unfold MxL
  rw[if_neg (λhm=>by have:=hb c hm;omega)];exact e
 refine⟨Later.own O.la λc hc=>by have:=hb c hc;omega,O.rb,key _ (by omega) O.n0,O.box,key _ hl.1 O.nb,?_,O.lt⟩
 exact O.row.frame (λ_ _=>rfl) (Xm O.la.ag bs) λc hc=>key c (hl.2 c hc) (O.row.own c hc).2.2
structure Wk (h:zb) (M:Fr) (ob:Nat) (xs:List Tr) (si:Sl) (bi:List Nat) (lo b:Nat) (g:zb) (M':Fr) (ks:List Bt) (ys:List Tr):Prop where
 out:Out h M ob g M' xs si bi
 up:ob<lo/\∀c∈bi,c<lo
 obj:∃sk si bk bi,Obj lo g M' b ks ys sk si bk bi
theorem Wk.call(W:Wk h M ob xs si bi lo b g M' ks ys)(L:Later g M' g' M''):Wk h M ob xs si bi lo b g' M'' ks ys:=by
 obtain⟨sk,s2,bk,b2,O⟩:=W.obj
 exact⟨W.out.call L,W.up,⟨sk,s2,bk,b2,O.call L⟩⟩
theorem Wk.kp{ks ks':List Bt}{ys Z:List Tr}(W:Wk h M ob xs si bi lo b g M' ks ys)(k:Keep lo g g')(hz:g.size<=g'.size){sk' si':Sl}{bk' aa:List Nat}(O:Obj lo g' M' b ks' Z sk' si' bk' aa):Wk h M ob xs si bi lo b g' M' ks' Z:=
 ⟨W.out.kp W.up k O.ag hz,W.up,⟨sk',si',bk',aa,O⟩⟩
end
section
variable {o:OpT} {l:List OpT} {v:Tr}
structure OpX (o:OpT):Prop where
 s:OpS o
 d:o.1.size<=1048576
 p:(zdb o.2.1).size<=1048576
 f:(zdb o.2.2.1).size<=1048576
theorem zro{s:Bt}(h:s.size<=1048576):txB 1048576 (zei s):=by
 unfold zei
 rw[txB,z0x]
 exact⟨⟨h,by simp,by simp⟩,trivial⟩
theorem zrp(s:Bt):tsz (zei s)=1:=by rw[zei,tsz,xd]
theorem z0m(h:OpX o)(hr:qg o=true):tsz (xa o)<=5000/\txB 1048576 (xa o):=by
 have hz:=zh6 hr
 constructor
 ·unfold xa qbg
  rw[tsz,jb,jb,jb]
  have e1:xd [zei o.1]=1:=by rw[xd,xd,zrp]
  have e2:xd [zei (zdb o.2.1)]=1:=by rw[xd,xd,zrp]
  have e3:xd (if(zz (lb o.1)).2.1=true then [zei (zdb o.2.2.1)]else [])<=1:=by
   split
   ·rw[xd,xd,zrp];omega
   ·rw[xd];omega
  have e4:xd (if(zz (lb o.1)).1=true then [o.2.2.2]else [])<=4096:=by
   split
   ·rw[xd,xd];omega
   ·rw[xd];omega
  omega
 ·unfold xa
  rw[txB]
  refine⟨⟨by decide,?_,?_⟩,?_⟩
  ·unfold qbf
   simp only[Ar]
   split <;> split <;> simp
  ·intro k hk
   unfold qbf at hk
   have:k=kOp\/k=Wi\/k=Q7\/k=wu:=by
    simp only[An,Bu]at hk
    rcases hk with(rfl|rfl)|hk|hk
    ·exact .inl rfl
    ·exact .inr (.inl rfl)
    ·split at hk
     ·exact .inr (.inr (.inl (Bu.1 hk)))
     ·cases hk
    ·split at hk
     ·exact .inr (.inr (.inr (Bu.1 hk)))
     ·cases hk
   rcases this with rfl|rfl|rfl|rfl <;> decide
  ·rw[Yh]
   intro x hx
   unfold qbg at hx
   simp only[An,Bu]at hx
   rcases hx with(rfl|rfl)|hx|hx
   ·exact zro h.d
   ·exact zro h.p
   ·split at hx
    ·rw[Bu.1 hx];exact zro h.f
    ·cases hx
   ·split at hx
    ·rw[Bu.1 hx];exact h.s.v.tx
    ·cases hx
theorem z0n(hx:∀o∈l,OpX o)(hr:l.all qg=true)(hl:l.length<=4096):Sm (zew (l.map xa)):=by
 rw[AP]at hr
 constructor
 ·have:∀m:List OpT,(∀o∈m,OpX o/\qg o=true)->xd (m.map xa)<=m.length*5000:=by
   intro m
   induction m with
   |nil=>intro _;simp[xd]
   |cons o m ih=>
    intro hm
    have h1:=z0m (hm o (by simp)).1 (hm o (by simp)).2
    have h2:=ih λx hx=>hm x (by simp[hx])
    rw[CY,xd,Av];omega
  have h1:=this l λo ho=>⟨hx o ho,hr o ho⟩
  unfold zew
  rw[tsz];omega
 ·unfold zew
  rw[txB,Yh]
  refine⟨⟨by decide,by simp,by simp⟩,λx O=>?_⟩
  obtain⟨o,ho,rfl⟩:=BC.1 O
  exact(z0m (hx o ho) (hr o ho)).2
def kk(f w:Bool):List Bt:=([kOp]++[Wi])++((if f=true then [Q7]else [])++(if w=true then [wu]else []))
theorem ix1(f w:Bool):Lib.idxOfS (kk f w) kOp=((0:Nat):Int):=by cases f <;> cases w <;> kernel_rfl
theorem ix2(f w:Bool):Lib.idxOfS (kk f w) Wi=((1:Nat):Int):=by cases f <;> cases w <;> kernel_rfl
theorem ix3(w:Bool):Lib.idxOfS (kk true w) Q7=((2:Nat):Int):=by cases w <;> kernel_rfl
theorem ix4:Lib.idxOfS (kk true true) wu=((3:Nat):Int):=by kernel_rfl
theorem ix5:Lib.idxOfS (kk false true) wu=((2:Nat):Int):=by kernel_rfl
theorem zid{v x:Tr}{key:Bt}{k:Nat}(ho:ye v=true)(h6:v.kind=6)(hi:Lib.idxOfS v.keys key=(k:Int))(hx:v.items[k]?=some x):Wl v key=(x,true):=by
 unfold Wl
 rw[ho,hi,decide_eq_true h6,decide_eq_true (by omega:(0:Int)<=(k:Int)),Ah]
 simp[hx]
theorem getObj(ho:ye (xa o)=true):Wl (xa o) kOp=(zei o.1,true)/\Wl (xa o) Wi=(zei (zdb o.2.1),true)/\((zz (lb o.1)).2.1=true->Wl (xa o) Q7=(zei (zdb o.2.2.1),true))/\((zz (lb o.1)).1=true->Wl (xa o) wu=(o.2.2.2,true)):=by
 have hk:(xa o).keys=kk (zz (lb o.1)).2.1 (zz (lb o.1)).1:=rfl
 have hi:(xa o).items=zei o.1::zei (zdb o.2.1)::((if(zz (lb o.1)).2.1=true then [zei (zdb o.2.2.1)]else [])++(if(zz (lb o.1)).1=true then [o.2.2.2]else [])):=rfl
 refine⟨zid (k:=0) ho rfl (by rw[hk,ix1]) (by rw[hi];rfl),zid (k:=1) ho rfl (by rw[hk,ix2]) (by rw[hi];rfl),λhc=>zid (k:=2) ho rfl (by rw[hk,hc,ix3]) (by rw[hi,if_pos hc];rfl),λhc=>?_⟩
 by_cases hf:(zz (lb o.1)).2.1=true
 ·exact zid (k:=3) ho rfl (by rw[hk,hf,hc,ix4]) (by rw[hi,if_pos hf,if_pos hc];rfl)
 ·have O:(zz (lb o.1)).2.1=false:=by simpa using hf
  exact zid (k:=2) ho rfl (by rw[hk,O,hc,ix5]) (by rw[hi,if_neg hf,if_pos hc];rfl)
theorem z0o(p:List Bt):(p.map lb).map bl=p:=by
 rw[DG]
 have:(bl ∘ lb)=(id:Bt->Bt):=funext λx=>W8 x
 rw[this,EW]
theorem z3w{p:List Bt}(h:jc p=true):zqx (lb (zdb p))=(p.map lb,0):=by
 unfold zdb
 rw[js]
 rw[zh5,AI,decide_eq_true_eq]at h
 exact zy2 (by rw[Bv];exact h.1) h.2
theorem ztz{key:Bt}{p:List Bt}(h:Wl v key=(zei (zdb p),true))(hp:jc p=true):jv v key=(p,true):=by
 have ht:Qb v key=(zdb p,true):=by unfold Qb;rw[h];rfl
 unfold jv
 rw[ht,if_pos rfl]
 simp only
 rw[z3w hp]
 simp only
 rw[z0o];rfl
theorem z3x(ho:ye (xa o)=true)(hr:qg o=true):Je (xa o)=true/\Q3 (xa o)=o:=by
 obtain⟨g1,g2,g3,g4⟩:=getObj ho
 have ht:Qb (xa o) kOp=(o.1,true):=by unfold Qb;rw[g1];rfl
 have Z:shR (xa o)=zz (lb o.1):=by unfold shR;rw[ht]
 unfold qg at hr
 simp only[AI]at hr
 obtain⟨q1,q2,q3,q4,q5⟩:=hr
 have p2:=ztz g2 q2
 have p3:(zz (lb o.1)).2.1=true->jv (xa o) Q7=(o.2.2.1,true):=λhc=>ztz (g3 hc) q3
 constructor
 ·unfold Je
  rw[Z,ht,q1,p2]
  cases c1:(zz (lb o.1)).2.1 <;> cases c2:(zz (lb o.1)).1 <;> simp
  ·rw[g4 c2]
  ·rw[p3 c1]
  ·rw[p3 c1,g4 c2];exact⟨rfl,rfl⟩
 ·unfold Q3
  rw[Z,ht,p2]
  have e3:(if(zz (lb o.1)).2.1=true then(jv (xa o) Q7).1 else [])=o.2.2.1:=by
   by_cases c1:(zz (lb o.1)).2.1=true
   ·rw[if_pos c1,p3 c1]
   ·rw[if_neg c1]
    have O:(zz (lb o.1)).2.1=false:=by simpa using c1
    rw[O]at q4
    have:o.2.2.1=[]:=by simpa using q4
    exact this.symm
  have e4:(if(zz (lb o.1)).1=true then(Wl (xa o) wu).1 else zT)=o.2.2.2:=by
   by_cases c1:(zz (lb o.1)).1=true
   ·rw[if_pos c1,g4 c1]
   ·rw[if_neg c1]
    have O:(zz (lb o.1)).1=false:=by simpa using c1
    rw[O]at q5
    have q5:zfh o.2.2.2=true:=q5
    unfold zfh at q5
    have q5:=of_decide_eq_true q5
    obtain⟨a1,a2,a3,a4⟩:=q5
    have:o.2.2.2.text=⟨#[]⟩:=by rw[<-W8 o.2.2.2.text,a2]
    rw[<-y8 o.2.2.2,a1,this,a3,a4];rfl
  rw[e3,e4]
theorem zbt{v x:Tr}(h:ql v=true)(hx:x∈v.items):ql x=true:=by
 have h1:=wh h
 unfold ql at h ⊢
 rw[AI]at h ⊢
 exact⟨zks h.1 hx,y0 h.2 hx⟩
theorem zky(O:l.all qg=true)(hr:ql (zew (l.map xa))=true):xx (zew (l.map xa))=(l,(l.length:Int),0):=by
 rw[AP]at O
 have Z:∀o∈l,Je (xa o)=true/\Q3 (xa o)=o:=λo ho=>z3x (wh (zbt hr (BC.2 ⟨o,ho,rfl⟩))) (O o ho)
 have hb:z02 (zew (l.map xa))=(zew (l.map xa)).items.length:=ztw λx hx=>by
  obtain⟨o,ho,rfl⟩:=BC.1 hx
  exact(Z o ho).1
 unfold xx
 rw[if_pos ⟨hr,rfl⟩,if_pos hb]
 have e:(zew (l.map xa)).items=l.map xa:=rfl
 rw[e,Bv,DG]
 have:l.map (Q3 ∘ xa)=l:=by
  have:∀m:List OpT,(∀o∈m,Q3 (xa o)=o)->m.map (Q3 ∘ xa)=m:=by
   intro m
   induction m with
   |nil=>intro _;rfl
   |cons o m ih=>
    intro hm
    rw[CY,ih λx hx=>hm x (by simp[hx])]
    show Q3 (xa o)::m=_
    rw[hm o (by simp)]
  exact this l λo ho=>(Z o ho).2
 rw[this]
theorem z0p{key:Bt}(h:(Wl v key).2=true):(Wl v key).1∈v.items:=by
 unfold Wl at h ⊢
 split at h
 ·rename_i hc
  rw[if_pos hc]
  simp only[AI,decide_eq_true_eq]at hc
  obtain⟨ho,h6,h0⟩:=hc
  obtain⟨O,Z⟩:=zpo ho h6
  have hj:(Lib.idxOfS v.keys key).toNat<v.items.length:=by
   have:=zz8 (ks:=v.keys) (k:=key) (j:=(Lib.idxOfS v.keys key).toNat) (by omega)
   omega
  show v.items.getD _ zT∈_
  rw[Bm,Ai hj]
  exact Ay hj
 ·cases h
theorem zne{key:Bt}(h:(jv v key).2=true):jc (jv v key).1=true/\zdb (jv v key).1=(Wl v key).1.text:=by
 unfold jv at h ⊢
 split at h
 ·rename_i hc
  rw[if_pos hc]
  have h2:(zqx (lb (Qb v key).1)).2=0:=by simpa using h
  obtain⟨a,b,c⟩:=z7a (s:=lb (Qb v key).1) (p:=(zqx (lb (Qb v key).1)).1) (by rw[<-h2])
  constructor
  ·rw[zh5,zpk,b,Bv];simpa using a
  ·unfold zdb
   simp only
   rw[zpk,c,W8];rfl
 ·cases h
theorem z9e:zfh zT=true:=by kernel_rfl
theorem zrq{x:Tr}(hx:ql x=true)(hb:Je x=true):qg (Q3 x)=true:=by
 unfold Je at hb
 simp only[AI,Cp,Cb]at hb
 obtain⟨b1,b2,b3,b4,b5⟩:=hb
 have O:zz (lb (Q3 x).1)=shR x:=rfl
 unfold qg
 rw[O,b2]
 have e1:jc (Q3 x).2.1=true:=(zne b3).1
 have e2:jc (Q3 x).2.2.1=true:=by
  show jc (if(shR x).2.1=true then(jv x Q7).1 else [])=true
  by_cases c:(shR x).2.1=true
  ·rw[if_pos c]
   rcases b4 with q|q
   ·rw[c]at q;cases q
   ·exact(zne q).1
  ·rw[if_neg c];exact zvz
 have e3:((shR x).2.1||decide ((Q3 x).2.2.1=[]))=true:=by
  show((shR x).2.1||decide ((if(shR x).2.1=true then(jv x Q7).1 else [])=[]))=true
  by_cases c:(shR x).2.1=true
  ·rw[c];rfl
  ·rw[if_neg c];simp
 have e4:(bif (shR x).1 then ql (Q3 x).2.2.2 else zfh (Q3 x).2.2.2)=true:=by
  show(bif (shR x).1 then ql (if(shR x).1=true then(Wl x wu).1 else zT)else zfh (if(shR x).1=true then(Wl x wu).1 else zT))=true
  by_cases c:(shR x).1=true
  ·rw[if_pos c,c]
   rcases b5 with q|q
   ·rw[c]at q;cases q
   ·exact zbt hx (z0p q)
  ·have c':(shR x).1=false:=by simpa using c
   rw[if_neg c,c'];exact z9e
 rw[e1,e2,e3,e4];rfl
theorem z9f{x:Tr}(hx:Sm x)(hb:Je x=true):OpX (Q3 x):=by
 unfold Je at hb
 simp only[AI,Cp,Cb]at hb
 obtain⟨b1,b2,b3,b4,b5⟩:=hb
 have tx:∀key,((Wl x key).1.text).size<=1048576:=λkey=>by rw[<-zcp];exact(zrn hx key).text
 have O:∀key,(jv x key).2=true->SL (jv x key).1/\(zdb (jv x key).1).size<=1048576:=by
  intro key hk
  obtain⟨q1,q2⟩:=zne hk
  have h1:(zdb (jv x key).1).size<=1048576:=by rw[q2];exact tx key
  refine⟨⟨?_,λs hs=>?_⟩,h1⟩
  ·rw[zh5,AI,decide_eq_true_eq]at q1;omega
  ·have:=zz4 (BC.2 ⟨s,hs,rfl⟩:lb s∈(jv x key).1.map lb)
   unfold zdb at h1
   rw[zq]at h1;omega
 have Z:(zdb []).size<=1048576:=by decide
 refine⟨⟨(O Wi b3).1,?_,?_⟩,tx kOp,(O Wi b3).2,?_⟩
 ·show SL (if(shR x).2.1=true then(jv x Q7).1 else [])
  by_cases c:(shR x).2.1=true
  ·rw[if_pos c]
   rcases b4 with q|q
   ·rw[c]at q;cases q
   ·exact(O Q7 q).1
  ·rw[if_neg c];exact ztv
 ·show Sm (if(shR x).1=true then(Wl x wu).1 else zT)
  split
  ·exact zrn hx wu
  ·exact Ym
 ·show(zdb (if(shR x).2.1=true then(jv x Q7).1 else [])).size<=1048576
  by_cases c:(shR x).2.1=true
  ·rw[if_pos c]
   rcases b4 with q|q
   ·rw[c]at q;cases q
   ·exact(O Q7 q).2
  ·rw[if_neg c];exact Z
theorem zex(v:Tr):((xx v).2.2≠0/\(xx v).1=[]/\0<=(xx v).2.1/\(xx v).2.1<=v.items.length)\/(ql v=true/\(∀x∈v.items,Je x=true)/\xx v=(v.items.map Q3,(v.items.length:Int),0)):=by
 unfold xx
 by_cases hc:ql v=true/\v.kind=5
 ·rw[if_pos hc]
  by_cases hb:z02 v=v.items.length
  ·rw[if_pos hb]
   refine .inr ⟨hc.1,λx hx=>?_,rfl⟩
   unfold z02 at hb
   rw[List.findIdx_eq_length]at hb
   have:=hb x hx
   simpa using this
  ·rw[if_neg hb]
   have:z02 v<=v.items.length:=List.findIdx_le_length
   exact .inl ⟨by simp,rfl,by simp,by simp;omega⟩
 ·rw[if_neg hc]
  exact .inl ⟨by simp,rfl,by simp,by simp⟩
theorem z0q{m:Nat}:∀{p:List Bs},(∀x∈p,x.length<=m)->(Wj p).length<=p.length*(2*m+1)
 |[],_=>by simp[Wj]
 |x::p,h=>by
  rw[show x::p=[x]++p from rfl,yf,xe,Ar,Av]
  have h1:=z0q (p:=p) λy hy=>h y (by simp[hy])
  have h2:=zqw x
  have h3:=h x (by simp)
  simp only[Ar,CH,BB,Dd]
  omega
theorem OpF.x{o:OpT}(h:OpF o):OpX o:=by
 have key:∀p:List Bt,PS p->(zdb p).size<=1048576:=by
  intro p hp
  unfold zdb
  rw[zq]
  have h1:=z0q (m:=1024) (p:=p.map lb) λx hx=>by
   obtain⟨y,hy,rfl⟩:=BC.1 hx
   exact hp.s y hy
  rw[Bv]at h1
  have h2:=hp.n
  have:p.length*(2*1024+1)<=200*2049:=Nat.mul_le_mul h2 (by omega)
  omega
 exact⟨h.s,by have:=h.d;omega,key _ h.p,key _ h.f⟩
end
section
variable {l:List OpT} {v:Tr}
theorem z3y(sm:l.all qg=true->l.length<=4096->Sm (zew (l.map xa))):Sm (zjf l).1:=by
 unfold zjf
 split
 ·rename_i h1
  split
  ·rename_i h2
   split
   ·exact sm h1 h2
   ·exact Ym
  ·exact Ym
 ·exact Ym
theorem zt0(h:(zjf l).2=0):l.all qg=true/\ql (zew (l.map xa))=true/\zjf l=(zew (l.map xa),0):=by
 unfold zjf at h ⊢
 split at h
 ·rename_i h1
  split at h
  ·rename_i h2
   split at h
   ·rename_i h3
    rw[if_pos h1,if_pos h2,if_pos h3]
    exact⟨h1,h3,rfl⟩
   ·simp at h
  ·simp at h
 ·simp at h
theorem zv1(hv:Sm v):(∀o∈(xx v).1,OpX o/\(qg o=true))/\(xx v).1.length<=4096:=by
 rcases zex v with⟨_,e,_⟩|⟨h1,h2,e⟩
 ·rw[e];exact⟨(λo ho=>by cases ho),by simp⟩
 ·rw[e]
  have hz:=zda h1
  have hl:=Yi v.items
  rw[wa]at hz
  refine⟨λo ho=>?_,by rw[Bv];omega⟩
  obtain⟨x,hx,rfl⟩:=BC.1 ho
  exact⟨z9f (hv.item hx) (h2 x hx),zrq (zbt h1 hx) (h2 x hx)⟩
set_option maxHeartbeats 1000000 in
theorem z0r{gl:Fr}(hg:GL gl){R:Bool->Prop}(hR:R true):PC Tp gl 8 [Arg.mk (.row Yn) l,Arg.mk .tree v] [.bool] R:=by
 apply J8
 refine zvy hg ?_
 rw[y8]
 refine z4q (by omega) λb1 ae=>⟨λb=>b=true->l.length<=30/\∀o∈l,OpF o,λ_=>z3u λb hb=>hb,λb2 aa=>⟨λ_=>hR,λhx=>?_⟩⟩
 have hs:b1=true/\b2=true:=by cases b1 <;> cases b2 <;> simp at hx;exact⟨rfl,rfl⟩
 obtain⟨e1,e2⟩:=hs
 obtain⟨hn,hl⟩:=aa e1 e2
 have hv:=(ae e1).2
 have sm:l.all qg=true->l.length<=4096->Sm (zew (l.map xa)):=λh1 h2=>z0n (λo ho=>(hl o ho).x) h1 h2
 refine zty hg (λo ho=>(hl o ho).s) (by omega) sm λK hK=>?_
 have k:K:=by
  apply hK
  refine zic hg hv ?_
  have hp:=zv1 hv
  rcases zex v with⟨q1,q2,q3,q4⟩|⟨h1,h2,e⟩
  ·refine⟨λ_=>?_,λhz=>?_⟩
   ·rw[q2]
    have:(bif (bif (bif true then((((([]:List OpT).length:Nat):Int))==0)else false)then decide ((xx v).2.1>=0)else false)then(decide ((xx v).2.1<=((CN v.items:Nat):Int)))else false)=true:=by
     rw[decide_eq_true (by omega:(xx v).2.1>=0),decide_eq_true (by omega:(xx v).2.1<=((CN v.items:Nat):Int))];rfl
    rw[this];exact hR
   ·exact absurd (by simpa using hz) q1
  ·refine⟨λhz=>by rw[e]at hz;simp at hz,λ_=>?_⟩
   have em:(xx v).2.1=((xx v).1.length:Int):=by rw[e];simp
   generalize hm:(xx v).1=m at hp em ⊢
   have af:m.all qg=true:=AP.2 λo ho=>(hp.1 o ho).2
   refine⟨λi=>∃j:Nat,i=j/\j<=m.length,λi=>m.length-i.toNat,⟨0,rfl,by omega⟩,?_⟩
   rintro i ⟨j,rfl,hj⟩
   refine⟨λhc=>?_,λhc=>?_⟩
   ·have O:j<m.length:=by simpa using hc
    refine⟨m[j],⟨by omega,by rw[Ah];exact Ai O⟩,?_⟩
    rw[z9c]
    refine zh9 hg (hp.1 _ (Ay O)).1.s ⟨λhz=>?_,λ_=>?_⟩
    ·rw[(hp.1 _ (Ay O)).2]at hz;cases hz
    ·rw[w64 (by omega)]
     exact⟨⟨j+1,by omega,by omega⟩,by simp only[Ah];omega⟩
   ·have Z:m.all qg=true->m.length<=4096->Sm (zew (m.map xa)):=λh1 h2=>z0n (λo ho=>(hp.1 o ho).1) h1 h2
    refine zty hg (λo ho=>(hp.1 o ho).1.s) (by omega) Z ?_
    rw[y8]
    refine zic hg (z3y Z) ?_
    rw[em]
    by_cases hz:(zjf m).2=0
    ·obtain⟨t1,t2,t3⟩:=zt0 hz
     rw[t3,zky t1 t2]
     refine⟨λb=>b=true,λ_=>ztx (λo ho=>(hp.1 o ho).1.s) (by omega) λr hr=>hr.2 rfl,λb hb=>?_⟩
     rw[hb (by simp)]
     simpa using hR
    ·refine⟨λ_=>True,λhq=>by simp[hz]at hq,λb _=>?_⟩
     have:((zjf m).2 != 0)=true:=by simpa[bne]using hz
     rw[this]
     simpa using hR
 refine⟨λhz=>?_,λ_=>k⟩
 have ac:(zjf l).2=0:=by simpa using hz
 obtain⟨t1,t2,t3⟩:=zt0 ac
 rw[y8,t3]
 refine zic hg (sm t1 (by omega)) ?_
 rw[zky t1 t2]
 refine⟨λb=>b=true,λ_=>ztx (λo ho=>(hl o ho).s) (by omega) λr hr=>hr.2 rfl,λb hb=>?_⟩
 rw[hb (by simp)]
 exact⟨λhq=>by simp at hq,λ_=>k⟩
end
end Go.X
end
