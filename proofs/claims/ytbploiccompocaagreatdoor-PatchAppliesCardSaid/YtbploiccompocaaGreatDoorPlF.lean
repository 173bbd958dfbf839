/- A part of the proof: nothing is stated here for its own sake. -/
import Derived.Test.YtbploiccompocaaGreatDoorPlE
open _root_.Go.Addr renaming add->Af
open _root_.Array renaming ext'->Dr,getElem?_eq_some_iff->Ac,getElem?_push->BG,getElem?_setIfInBounds_ne->AW,getElem?_toList->AN,size_push->Ai,toList->CH
open _root_.Bool renaming and_eq_true->AI,and_false->Ei,cond_false_right->Ba,cond_true_left->Bh,eq_false_iff->DF,eq_iff_iff->AB,not_eq_true'->Ce,or_eq_false_iff->B8,or_eq_true->Cw,true_and->Bf
open _root_.Go.Builtin renaming append_->Au,len_->CE
open _root_.Go.Instr renaming keyThatStays->D4,mapUpdate->CQ,next->Ey,range->Eu,storeAt->Al
open _root_.Int renaming toNat_natCast->Ad,toNat_of_nonneg->De,toNat_zero->BV
open _root_.Go.IntKind renaming wrap->Aa
open _root_.List renaming all_append->CV,all_eq_false->DK,all_eq_true->AU,append_assoc->AY,append_nil->Bc,cons_append->Be,drop->B0,drop_eq_getElem_cons->AC,drop_eq_nil_of_le->A6,drop_length->BC,drop_zero->AQ,eq_nil_of_length_eq_zero->Az,ext_getElem?->Bb,getElem?_append_left->BA,getElem?_append_right->Bl,getElem?_eq_getElem->Aj,getElem?_eq_none->Bu,getElem?_eq_some_iff->Ax,getElem?_map->B5,getElem?_take->AF,getElem_append_left->CG,getElem_append_right->Cd,getElem_mem->Ao,getElem_of_mem->A7,length->Bm,length_append->Av,length_cons->AR,length_drop->Bg,length_map->Dw,length_nil->CR,length_pos_iff->BB,length_set->Dv,length_take->AL,map_cons->Dx,mem_append->Am,mem_append_left->Ap,mem_append_right->Ay,mem_cons->Ag,mem_cons_of_mem->Ah,mem_cons_self->Aq,mem_flatMap->Bj,mem_iff_getElem->DU,mem_map->BR,mem_of_mem_drop->BQ,mem_of_mem_take->Bi,mem_or_eq_of_mem_set->C9,mem_range->BO,mem_singleton->Cn,nil_append->BL,nodup_append->A0,nodup_cons->Cv,range->AZ,take->BJ,take_append_drop->Bp,take_length->AE,take_of_length_le->AM,take_succ_cons->B4,take_succ_eq_append_getElem->An,take_zero->Cr
open _root_.List.cons renaming injEq->Br
open _root_.Nat renaming add_mul->Bz,le_refl->Ae,lt_or_ge->AX,mul_le_mul_right->AO,mul_one->Cf,one_mul->Dk,sub_zero->BK,succ_mul->Dp,zero_add->AD,zero_le->BP
open _root_.Option renaming bind_some->BW
open _root_.Option.some renaming inj->Aw,injEq->Ab
open _root_.Go.Proofs.Tryz renaming prog->AK,underlying9->Bw
open _root_.Go.Value.slice renaming injEq->AJ
open _root_.Go.Value renaming string->A5
set_option linter.unusedVariables false
set_option maxRecDepth 100000
namespace Go.X
end Go.X
namespace Go.Proofs
end Go.Proofs
open Go Go.X Go.Proofs
section
namespace Go.X
open Go Go.Lib
section
variable {v w y:Tr}
theorem zzo{p:List Bt}(h:p≠[]):zi9 v p w=(qb v (Yp p)).bind λx=>if x.kind=5 then(ztz x (zgn p)).map (λk=>Qh v (Yp p) (zzh x k w))
  else if x.kind≠6 then none else if 0<=qd x (zgn p)then some (Qh v (Yp p) (zrs x (qd x (zgn p)).toNat w))else some (Qh v (Yp p) (z7k x (zgn p) w)):=by
 unfold zi9
 rw[if_neg h]
 cases qb v (Yp p)with
 |none=>rfl
 |some x=>
  simp only[BW]
  split
  ·cases ztz x (zgn p) <;> rfl
  ·rfl
theorem zlo(s:Bt):∀(q:List Bt) (v:Tr),qb v (q++[s])=(qb v q).bind λx=>if 0<=qd x s then x.items[(qd x s).toNat]? else none
 |[],v=>by
  rw[BL,Zu,BW]
  split
  ·rename_i h
   cases hx:v.items[(qd v s).toNat]? with
   |none=>
    unfold qb yj
    rw[if_pos h,hx];simp
   |some x=>
    obtain⟨hk,e⟩:=Ax.1 hx
    rw[xq (k:=(qd v s).toNat) (by omega) hk,Zu,e]
  ·rename_i h
   exact zah (by omega)
 |t::q,v=>by
  rw[Be]
  by_cases h:0<=qd v t
  ·cases hx:v.items[(qd v t).toNat]? with
   |none=>
    have e:∀r,qb v (t::r)=none:=λr=>by
     unfold qb yj
     rw[if_pos h,hx];simp
    rw[e,e];rfl
   |some x=>
    obtain⟨hk,e⟩:=Ax.1 hx
    rw[xq (k:=(qd v t).toNat) (by omega) hk,xq (k:=(qd v t).toNat) (by omega) hk]
    exact zlo s q _
  ·rw[zah (by omega),zah (by omega)];rfl
theorem zaj{p:List Bt}(hp:p≠[])(h:qb v p=some y):∃x,qb v (Yp p)=some x/\∃k:Nat,qd x (zgn p)=k/\x.items[k]?=some y:=by
 rw[zty hp,zlo]at h
 rw[Option.bind_eq_some_iff]at h
 obtain⟨x,h1,h2⟩:=h
 refine⟨x,h1,?_⟩
 split at h2
 ·exact⟨(qd x (zgn p)).toNat,by omega,h2⟩
 ·cases h2
theorem zr3{q:Tr->Bool}(h:q v=true)(hi:∀x∈v.items,Qk q x=true):Qk q v=true:=by
 rw[ziq,h,Bf,Xr,AU];exact hi
theorem zzp(hk:w.kind=v.kind)(ht:w.text=v.text)(O:w.keys=v.keys)(hl:w.items.length=v.items.length):zw w=zw v:=by
 have he:w.items.isEmpty=v.items.isEmpty:=by
  cases h1:w.items <;> cases h2:v.items <;> rw[h1,h2]at hl <;> simp at hl ⊢
 unfold zw
 rw[hk,ht,O,hl,he]
theorem zp9{w:Tr}(hw:Qk zw w=true):∀(p:List Bt) (v:Tr),Qk zw v=true->Qk zw (Qh v p w)=true
 |[],v,_=>by rw[Qh];exact hw
 |s::p,v,hv=>by
  rw[Qh]
  split
  ·split
   ·rename_i x hx
    obtain⟨hk,e⟩:=Ax.1 hx
    refine zr3 ?_ λy hy=>?_
    ·have h:=qz hv
     rw[<-h]
     exact zzp rfl rfl rfl (by simp[zrs])
    ·rcases C9 hy with hy|rfl
     ·exact yx hv hy
     ·exact zp9 hw p x (yx hv (e ▸ Ao hk))
   ·exact hv
  ·exact hv
theorem zzq{l:List Bt}(h:l.Nodup)(j:Nat):(l.take j++l.drop (j+1)).Nodup:=by
 refine h.sublist ?_
 have:l.take j++l.drop (j+1)=l.eraseIdx j:=(List.eraseIdx_eq_take_drop_succ l j).symm
 rw[this];exact List.eraseIdx_sublist l j
theorem zvu(s:Bt)(ks:List Bt)(xs:List Tr):zw (.mk 6 s ks xs)=(jv ks&&decide (ks.length=xs.length)&&lb s==[]):=rfl
theorem zlp(s:Bt)(ks:List Bt)(xs:List Tr):zw (.mk 5 s ks xs)=(lb s==[]&&ks.isEmpty):=rfl
theorem zvv{x:Tr}(h:zw x=true)(j:Nat)(hj:j<x.items.length):zw (zgx x j)=true:=by
 by_cases h6:x.kind=6
 ·have hl:=xc h h6
  have e:zgx x j=.mk 6 x.text (x.keys.take j++x.keys.drop (j+1)) (x.items.take j++x.items.drop (j+1)):=by unfold zgx;rw[if_pos h6,h6]
  have h':(jv x.keys=true/\x.keys.length=x.items.length)/\x.text.data=#[]:=by
   unfold zw at h;simpa[h6]using h
  rw[e]
  obtain⟨⟨h1,h2⟩,h3⟩:=h'
  have:(jv (x.keys.take j++x.keys.drop (j+1))=true/\(x.keys.take j++x.keys.drop (j+1)).length=(x.items.take j++x.items.drop (j+1)).length)/\x.text.data=#[]:=by
   refine⟨⟨?_,by simp;omega⟩,h3⟩
   unfold jv at h1 ⊢
   rw[AI,AU]at h1 ⊢
   refine⟨λk hk=>?_,by simpa using zzq (by simpa using h1.2) j⟩
   rcases Am.1 hk with hk|hk
   ·exact h1.1 k (Bi hk)
   ·exact h1.1 k (BQ hk)
  rw[zvu]
  simpa using this
 ·have e:zgx x j=.mk x.kind x.text x.keys (x.items.take j++x.items.drop (j+1)):=by unfold zgx;rw[if_neg h6]
  rw[e]
  by_cases h5:x.kind=5
  ·rw[h5,zlp]
   rw[<-Tr.eta x,h5,zlp]at h;exact h
  ·exfalso
   have Z:x.items≠[]:=λe=>by rw[e]at hj;simp at hj
   have O:x.items.isEmpty=false:=by simpa using Z
   unfold zw at h
   rw[if_neg h5,if_neg h6,O]at h
   simp at h
theorem z2w{x:Tr}(h:Qk zw x=true)(j:Nat)(hj:j<x.items.length):Qk zw (zgx x j)=true:=by
 refine zr3 (zvv (qz h) j hj) λy hy=>?_
 rcases Am.1 hy with hy|hy
 ·exact yx h (Bi hy)
 ·exact yx h (BQ hy)
theorem znw{p:List Bt}(h:Qk zw v=true)(hp:p≠[])(hf:qb v p=some y):Qk zw (zgy v p)=true:=by
 obtain⟨x,h1,k,h2,h3⟩:=zaj hp hf
 unfold zgy
 rw[h1]
 simp only
 rw[h2,Ad]
 exact zp9 (z2w ((jh h1).2.2 _ h) k (Ax.1 h3).1) _ v h
theorem wb(h:qy v=true):qm v=true:=by
 unfold qy at h
 unfold qm
 rw[AI]at h ⊢
 refine⟨h.1,?_⟩
 have key:∀n (x:Tr),tsz x<=n->Qk (λx=>decide (x.kind≠7)&&zw x) x=true->Qk zw x=true:=by
  intro n
  induction n with
  |zero=>intro x hx;have:=zb5 x;omega
  |succ n ih=>
   intro x hx hq
   have:=qz hq
   simp at this
   refine zr3 this.2 λy hy=>ih y (by have:=yh hy;omega) (yx hq hy)
 exact key _ v (Ae _) h.2
theorem xd(h:qm v=true):Qk zw v=true:=by
 unfold qm at h
 rw[AI]at h;exact h.2
theorem Ya{v x:Tr}{p:List Bt}(h:qm v=true)(hf:qb v p=some x):qm x=true:=by
 obtain⟨h1,_,h3⟩:=jh hf
 unfold qm Zi at h ⊢
 simp only[AI,decide_eq_true_eq]at h ⊢
 refine⟨⟨by omega,?_⟩,h3 _ h.2⟩
 have:∀(p:List Bt) (v:Tr),qb v p=some x->tdp x<=tdp v:=by
  intro p
  induction p with
  |nil=>intro v hf;rw[Zu]at hf;cases hf;exact Ae _
  |cons s p ih=>
   intro v hf
   obtain⟨k,hk,e1,_,_⟩:=Yn (Jz hf)
   rw[xq e1 hk]at hf
   have h1:=ih _ hf
   have h2:tdp v.items[k]<tdp v:=by
    rw[zfy v]
    have:∀(l:List Tr) (y:Tr),y∈l->tdp y<=Wz l:=by
     intro l
     induction l with
     |nil=>intro y hy;cases hy
     |cons z l O=>
      intro y hy
      rw[Wz]
      rcases Ag.1 hy with rfl|hy
      ·omega
      ·have:=O y hy;omega
    have:=this v.items _ (Ao hk)
    omega
   omega
 have:=this p v hf
 omega
end
end Go.X
end
section
namespace Go.X
section
variable {h:zb} {rb:Nat} {D bw:List Nat}
theorem Turn.pre{h h1 h':zb}{D bw D':List Nat}(k:Keep h.size h h1)(H:Turn h1 h' rb D bw D'):Turn h h' rb D bw D':=by
 have:=k.size
 have:=H.size
 refine⟨by omega,λc h1 h2 h3=>(H.old c (by omega) h2 h3).trans (k.get c h1),λc hc=>?_⟩
 rcases H.own c hc with h|h|h
 ·exact .inl h
 ·exact .inr (.inl h)
 ·exact .inr (.inr (by omega))
set_option maxHeartbeats 4000000 in
theorem z4m{gl:Fr}(hg:GL gl){v w:Tr}(hv:Sm v)(ho:Qk zw v=true){p:List Bt}(hp:SL p){M:Fr}{u2:Value}(hM:Fr.le gl M)(ag:AgM M h)(hD:Doc h rb v D)(cj:RdV M (.row .str) p u2){wk wi:Sl}(ow:OT h w bw (zf w wk wi))(ak:∀c∈bw,c≠rb/\c∉D)(bm:∀x,qb v (Yp p)=some x->x.items.length<=1000000000){K:Value->zb->Prop}
  (aT:zi9 v p w=none->∀h',Keep h.size h h'->K (.int .i64 8) h')
  (an:∀t,zi9 v p w=some t->∀h' D',Doc h' rb t D'->Turn h h' rb D bw D'->K (.int .i64 0) h'):
  XC Tp 101 #[.pointer (some ⟨rb,0,none⟩),u2,.agg #[.int .i64 w.kind,.string w.text,slV wk,slV wi]] h K:=by
 obtain⟨sp,rfl,rp⟩:=zdg cj
 obtain⟨aZ,cu,cC⟩:=rowLen rp
 have cA:=hp.n
 have cF:=hD.lt rb (.inl rfl)
 apply zgl (some ⟨rb,0,none⟩) sp w.kind w.text wk wi
 intro h1
 have z1:h1.size=h.size+1:=Ai _
 have k1:Keep h.size h h1:=Keep.push _ _ (Ae _)
 have b1:Blk h1 h.size (zf w wk wi).toArray:=Blk.new _ _ _
 clear_value h1
 have am:∀h',Keep h1.size h1 h'->ze h' ⟨h.size,0,none⟩ 0 (zf w wk wi):=λh' k=>(b1.ofKeep k).ld (cs:=zf w wk wi)
 have D1:Doc h1 rb v D:=hD.keep λc hc=>k1.get c (hD.lt c hc)
 have a8:OT h1 w bw (zf w wk wi):=ow.frame λc hc=>k1.get c (ow.lt c hc)
 refine⟨λhz=>?_,λhz=>?_⟩
 ·have cg:p=[]:=Az (by rw[aZ]at hz;simp at hz;simp[hz])
  refine⟨w.kind,w.text,wk,wi,am h1 (Keep.refl _ _),⟨rb,0,none⟩,rfl,?_⟩
  obtain⟨b,o,cs,bx,e,hb,aI,ot,cc,az,bc,bp,a6,aY⟩:=D1.plc
  cases e
  rw[zo]
  refine xr (vs:=zf w wk wi) znv hb rfl znu (by show 0+4<=_;omega) (Q9 w wk wi) λh' b' z' f'=>?_
  obtain⟨D',aj,aE⟩:=aY h' w (zf w wk wi) bw (λc n1 _ _=>f' c n1) b' (a8.frame λc hc=>f' c (ak c hc).1) (λc hc=>.inr (ak c hc))
  refine an w (by unfold zi9;rw[if_pos cg]) h' D' aj ⟨by omega,λc q1 q2 q3=>(f' c q2).trans (k1.get c q1),λc hc=>?_⟩
  rcases aE c hc with hc|hc
  ·exact .inl hc
  ·exact .inr (.inl hc)
 ·have bq:p≠[]:=λe=>by rw[aZ,e]at hz;simp at hz
  have cp:0<p.length:=BB.2 bq
  have hl:p.length-1<p.length:=by omega
  have w1:Aa .i64 (((sp.len:Nat):Int)-1)=((p.length-1:Nat):Int):=by rw[aZ,w64 (by omega)];omega
  rw[w1]
  have aQ:=ag.keep k1
  refine zbo aQ rp hl rfl rfl ⟨.inr ⟨_,rfl⟩,⟨by omega,by omega,by omega,by omega⟩,?_⟩
  simp -zeta only[Ad,BV,BK,Z9]
  have O:=zzo (v:=v) (w:=w) bq
  have bI:=Xw hl
  generalize cJ:zgn p=st at *
  rw[bI]
  have aJ:(lb st).length<=1048576:=by rw[<-bI];exact hp.s _ (Ao hl)
  have bP:=zns rp (n:=p.length-1) (by omega)
  refine z7h hg hv ho ⟨by rw[AL];omega,λq hq=>hp.s q (Bi hq)⟩ hM aQ D1 bP (λhn h' k'=>?_) λx cd hx bY h4 pa k4 plc=>?_
  ·refine⟨none,rfl,(λ_=>aT ?_ h' (k1.trans k' (by omega))),λhc=>by cases hc⟩
   rw[O];unfold Yp;rw[hn];rfl
  have aH:qb v (Yp p)=some x:=cd
  rw[aH,BW]at O
  have z4:=k4.size
  have aG:Keep h.size h h4:=k1.trans k4 (by omega)
  have aO:=aQ.keep k4
  have aV:=bm _ aH
  obtain⟨bH,bG,bx,bB,ot,cc,_⟩:=Plc.ld plc
  have bD:zm h4 (pa.add 0)=some (.int .i64 x.kind):=bB.1
  have aU:OT h4 w bw (zf w wk wi):=a8.frame λc hc=>k4.get c (by have:=a8.lt c hc;omega)
  refine⟨some pa,rfl,(λhc=>by cases hc),λ_=>⟨pa,rfl,x.kind,bD,λh5=>?_,λh5=>?_⟩⟩
  ·have a7:x.kind=5:=by simpa using h5
   rw[if_pos a7]at O
   refine⟨w.kind,w.text,wk,wi,am h4 k4,?_⟩
   refine zzk hg aJ hM aO plc (by omega) aU ak aV (λhk h' k'=>⟨8,rfl,aT ?_ h' (aG.trans k' (by omega))⟩) λk hk h' D' aj ht=>⟨0,rfl,an _ ?_ h' D' aj (ht.pre aG)⟩
   ·rw[O,hk];rfl
   ·rw[O,hk];rfl
  ·have a7:¬x.kind=5:=by simpa using h5
   rw[if_neg a7]at O
   refine⟨pa,rfl,x.kind,bD,λh6=>?_,λh6=>?_⟩
   ·have aN:x.kind≠6:=by simpa using h6
    rw[if_pos aN]at O
    exact aT O h4 aG
   ·have aN:¬x.kind≠6:=by simpa using h6
    rw[if_neg aN]at O
    refine⟨pa,rfl,x.kind,x.text,bH,bG,bB,?_⟩
    have cm:PC Tp gl 134 [Arg.mk .tree x,Arg.mk .str st] [.int .i64] (λr=>r=qd x st):=znl hg aJ rfl
    refine cm.go (vs:=[.agg #[.int .i64 x.kind,.string x.text,slV bH,slV bG],.string st]) (hM.trans (Y7 aO bx)) (MxL.ag aO bx) (yo ot.rdv (yo (rdStr _) ww)) λw' g cq r aA bh hr=>?_
    have hr:r=qd x st:=hr
    subst hr
    have zg:=aA.keep.size
    have kg:Keep h.size h g:=aG.trans aA.keep (by omega)
    have bA:Keep h1.size h1 g:=k4.trans aA.keep (by omega)
    have aL:=Plc.keepK plc (by omega) aA.keep
    have bE:OT g w bw (zf w wk wi):=aU.frame λc hc=>aA.keep.get c (by have:=aU.lt c hc;omega)
    refine⟨qd x st,z9s bh,λbZ=>?_,λa6=>?_⟩
    ·have be:0<=qd x st:=by simpa using bZ
     rw[if_pos be]at O
     obtain⟨k,ek,hk⟩:∃k:Nat,qd x st=k/\k<x.items.length:=by
      rcases Y5 (qz bY) st with e|h
      ·omega
      ·exact h
     obtain⟨si,a,c1,c2,c3,bL⟩:=aL.step hk
     refine⟨pa,rfl,si,c1,w.kind,w.text,wk,wi,am g bA,a,⟨c2,by omega,by omega⟩,?_⟩
     rw[ek,Ad]
     obtain⟨b,o,cs,cH,e,hb,aI,cE,co,az,bc,bp,a6,aY⟩:=bL
     rw[e]
     refine xr (vs:=zf w wk wi) znv hb rfl znu (by show o+4<=_;omega) (Q9 w wk wi) λh' b' z' f'=>?_
     have bF:∀c,c≠rb->c∉D->c≠b:=λc q1 q2 e=>by
      rcases az with h|h
      ·exact q1 (by rw[e,h])
      ·exact q2 (by rw[e];exact h)
     obtain⟨D',aj,aE⟩:=aY h' w (zf w wk wi) bw (λc n1 _ _=>f' c n1) b' (bE.frame λc hc=>f' c (bF c (ak c hc).1 (ak c hc).2)) (λc hc=>.inr (ak c hc))
     rw[ek,Ad]at O
     refine an _ O h' D' aj ⟨by omega,λc q1 q2 q3=>(f' c (bF c q2 q3)).trans (kg.get c q1),λc hc=>?_⟩
     rcases aE c hc with hc|hc
     ·exact .inl hc
     ·exact .inr (.inl hc)
    ·have bM:¬0<=qd x st:=by simpa using a6
     rw[if_neg bM]at O
     obtain⟨pb,o,cs0,sk,si,bk,bb,b,cs,bf,P⟩:=Plc.parts aL
     have bo:=P.ad
     subst bo
     have aI:=P.fit
     have bO:zm g (Af ⟨pb,o,none⟩ 2)=some (slV sk):=by
      refine P.blk.cellAdd ?_
      have:(cut cs0 o 4)[2]?=some (slV sk):=by rw[P.cell];rfl
      rw[zu,if_pos (by omega)]at this
      rw[<-AN];exact this
     have ba:zm g (Af ⟨pb,o,none⟩ 3)=some (slV si):=by
      refine P.blk.cellAdd ?_
      have:(cut cs0 o 4)[3]?=some (slV si):=by rw[P.cell];rfl
      rw[zu,if_pos (by omega)]at this
      rw[<-AN];exact this
     have ac:pb<g.size:=P.blk.lt
     have cn:rb<g.size:=by omega
     have al:∀c,c∈bk->c<h.size:=λc hc=>hD.lt c (.inr (P.ik c hc))
     have ah:∀c,c∈bb->c<h.size:=λc hc=>hD.lt c (.inr (P.ib c hc))
     have bV:x.keys.length<=1048576:=hx.keys
     have aP:∀(gF:zb) (sk' si':Sl) (kb b':Nat) (cs':Array Value),g.size<=gF.size->(∀c,c<g.size->c∉bk->c∉bb->gF[c]?=g[c]?)->OKeys gF (x.keys++[st]) [kb] sk'->(kb∈bk\/g.size<=kb) ->
       si'.a=some ⟨b',0,none⟩->si'.len=x.items.length+1->x.items.length+1<=si'.cap->Blk gF b' cs'->si'.cap*4<=cs'.size->cut cs' 0 ((x.items.length+1)*4)=cut cs 0 (x.items.length*4)++zf w wk wi->((b'=b/\b∈bb)\/g.size<=b')->kb≠b' ->
       XRunU Tp (Al 22 (.pointer (some (Af ⟨pb,o,none⟩ 2))) (.slice sk'.a sk'.len sk'.cap)) gF (λh1=>XRunU Tp (Al 23 (.pointer (some (Af ⟨pb,o,none⟩ 3))) (.slice si'.a si'.len si'.cap)) h1 (λh2=>K (.int .i64 0) h2)):=by
      intro gF sk' si' kb b' cs' q1 q2 q3 q4 q5 q6 q7 q8 q9 bQ cb bU
      exact z7v P cn bE ak aV q1 q2 q3 q4 q5 q6 q7 q8 q9 bQ cb bU λh' D' aj ht=>an _ O h' D' aj (ht.pre kg)
     have aF:∀(a1:zb) (bv:Nat) (KK:Value->zb->Prop),Keep g.size g a1->Blk a1 bv #[.string st]->(∀(sk':Sl) (a2:zb) (kb:Nat),OKeys a2 (x.keys++[st]) [kb] sk'->(kb∈bk\/a1.size<=kb)->a1.size<=a2.size->(∀c,c<a1.size->c∉bk->a2[c]?=a1[c]?)->KK (.slice sk'.a sk'.len sk'.cap) a2) ->
       XRun Tp (Au #[22,22] 22 #[.slice sk.a sk.len sk.cap,.slice (some ⟨bv,0,none⟩) 1 1]) a1 KK:=by
      intro a1 bv KK ka hb hK
      exact zzm (P.tr.keys.frame λc hc=>ka.get c (by have:=al c hc;omega)) hb bV hK
     have aD:∀(a3:zb) (bv:Nat) (KK:Value->zb->Prop),(∀c∈bb,a3[c]?=g[c]?)->Blk a3 bv (zf w wk wi).toArray->(∀(si':Sl) (h':zb) (b':Nat) (cs':Array Value),si'.a=some ⟨b',0,none⟩->si'.len=x.items.length+1->x.items.length+1<=si'.cap->Blk h' b' cs'->si'.cap*4<=cs'.size->cut cs' 0 ((x.items.length+1)*4)=cut cs 0 (x.items.length*4)++zf w wk wi ->
       ((b'=b/\b∈bb)\/a3.size<=b')->a3.size<=h'.size->(∀c,c<a3.size->c∉bb->h'[c]?=a3[c]?)->KK (.slice si'.a si'.len si'.cap) h') ->
       XRun Tp (Au #[23,23] 23 #[.slice si.a si.len si.cap,.slice (some ⟨bv,0,none⟩) 1 1]) a3 KK:=λa3 bv KK hk hb hK=>znt P.tr hk hb aV hK
     have ca:h.size∉bk:=λhm=>by have:=al _ hm;omega
     have ap:∀c∈bk,c∉bb:=P.tr.d1
     refine⟨⟨pb,o,none⟩,rfl,sk,bO,⟨pb,o,none⟩,rfl,si,ba,w.kind,w.text,wk,wi,am g bA,⟨pb,o,none⟩,rfl,⟨pb,o,none⟩,rfl,⟨?_,?_⟩⟩
     ·-- the key's box first
      intro af
      have cG:af.size=g.size+1:=Ai _
      have ay:Keep g.size g af:=Keep.push _ _ (Ae _)
      have bz:Blk af g.size #[.string st]:=Blk.new _ _ _
      clear_value af
      refine⟨ay.get _ (by show h.size<_;omega),ay.get _ ac,ay.get _ ac,?_,?_⟩
      ·refine aF af g.size _ ay bz λsk' a2 kb ok aa za fa=>⟨sk',rfl,?_⟩
       have ae:∀c,c<g.size->c∉bk->a2[c]?=g[c]?:=λc hc hn=>(fa c (by omega) hn).trans (ay.get c hc)
       refine⟨ae _ (by show h.size<_;omega) ca,ae _ ac P.nk,?_⟩
       intro ar
       have cz:ar.size=a2.size+1:=Ai _
       have bn:Keep a2.size a2 ar:=Keep.push _ _ (Ae _)
       have ck:Blk ar a2.size (zf w wk wi).toArray:=Blk.new _ _ _
       clear_value ar
       have fb:∀c,c<g.size->c∉bk->ar[c]?=g[c]?:=λc hc hn=>(bn.get c (by omega)).trans (ae c hc hn)
       refine⟨fb _ ac P.nk,?_⟩
       refine aD ar a2.size _ (λc hc=>fb c (by have:=ah c hc;omega) (λhm=>ap c hm hc)) ck λsi' aC b' cs' q1 q2 q3 q4 q5 q6 q7 q8 q9=>⟨si',rfl,?_⟩
       have aS:kb<a2.size:=by
        obtain⟨_,_,_,h4⟩:=ok
        rcases h4 with⟨_,h,_⟩|⟨b9,bu,e9,_,aB,_⟩
        ·cases h
        ·simp at e9;subst e9;exact aB.lt
       have Z:kb∉bb:=λhm=>by
        rcases aa with h|h
        ·exact ap kb h hm
        ·have:=ah kb hm;omega
       refine aP aC sk' si' kb b' cs' (by omega) (λc hc n1 n2=>(q9 c (by omega) n2).trans (fb c hc n1)) (ok.frame λc hc=>?_) (aa.imp id λh=>by omega) q1 q2 q3 q4 q5 q6 (q7.imp id λh=>by omega) λe=>?_
       ·simp at hc;subst hc
        exact(q9 c (by omega) Z).trans (bn.get c aS)
       ·rcases q7 with⟨e2,hm⟩|h
        ·exact Z (by rw[e,e2];exact hm)
        ·omega
      ·intro ax
       have cy:ax.size=af.size+1:=Ai _
       have bj:Keep af.size af ax:=Keep.push _ _ (Ae _)
       have bS:Blk ax af.size (zf w wk wi).toArray:=Blk.new _ _ _
       clear_value ax
       have kk:Keep g.size g ax:=ay.trans bj (by omega)
       refine⟨kk.get _ ac,kk.get _ ac,?_⟩
       refine aF ax g.size _ kk (bz.keep (bj.get _ (by omega))) λsk' a2 kb ok aa za fa=>⟨sk',rfl,?_⟩
       have ae:∀c,c<g.size->c∉bk->a2[c]?=g[c]?:=λc hc hn=>(fa c (by omega) hn).trans (kk.get c hc)
       refine⟨ae _ ac P.nk,?_⟩
       have aS:kb<a2.size:=by
        obtain⟨_,_,_,h4⟩:=ok
        rcases h4 with⟨_,h,_⟩|⟨b9,bu,e9,_,aB,_⟩
        ·cases h
        ·simp at e9;subst e9;exact aB.lt
       have Z:kb∉bb:=λhm=>by
        rcases aa with h|h
        ·exact ap kb h hm
        ·have:=ah kb hm;omega
       refine aD a2 af.size _ (λc hc=>ae c (by have:=ah c hc;omega) (λhm=>ap c hm hc)) (bS.keep (fa _ (by omega) (λhm=>by have:=al _ hm;omega))) λsi' aC b' cs' q1 q2 q3 q4 q5 q6 q7 q8 q9=>⟨si',rfl,?_⟩
       refine aP aC sk' si' kb b' cs' (by omega) (λc hc n1 n2=>(q9 c (by omega) n2).trans (ae c hc n1)) (ok.frame λc hc=>?_) (aa.imp id λh=>by omega) q1 q2 q3 q4 q5 q6 (q7.imp id λh=>by omega) λe=>?_
       ·simp at hc;subst hc
        exact q9 c (by omega) Z
       ·rcases q7 with⟨e2,hm⟩|h
        ·exact Z (by rw[e,e2];exact hm)
        ·omega
     ·intro ai
      have cr:ai.size=g.size+1:=Ai _
      have aM:Keep g.size g ai:=Keep.push _ _ (Ae _)
      have bT:Blk ai g.size (zf w wk wi).toArray:=Blk.new _ _ _
      clear_value ai
      refine⟨aM.get _ ac,aM.get _ ac,?_⟩
      intro au
      have cB:au.size=ai.size+1:=Ai _
      have bC:Keep ai.size ai au:=Keep.push _ _ (Ae _)
      have b8:Blk au ai.size #[.string st]:=Blk.new _ _ _
      clear_value au
      have kk:Keep g.size g au:=aM.trans bC (by omega)
      refine⟨kk.get _ ac,kk.get _ ac,?_⟩
      refine aF au ai.size _ kk b8 λsk' a2 kb ok aa za fa=>⟨sk',rfl,?_⟩
      have ae:∀c,c<g.size->c∉bk->a2[c]?=g[c]?:=λc hc hn=>(fa c (by omega) hn).trans (kk.get c hc)
      refine⟨ae _ ac P.nk,?_⟩
      have aS:kb<a2.size:=by
       obtain⟨_,_,_,h4⟩:=ok
       rcases h4 with⟨_,h,_⟩|⟨b9,bu,e9,_,aB,_⟩
       ·cases h
       ·simp at e9;subst e9;exact aB.lt
      have Z:kb∉bb:=λhm=>by
       rcases aa with h|h
       ·exact ap kb h hm
       ·have:=ah kb hm;omega
      have bJ:Blk a2 g.size (zf w wk wi).toArray:=(bT.keep (bC.get _ (by omega))).keep (fa _ (by omega) (λhm=>by have:=al _ hm;omega))
      refine aD a2 g.size _ (λc hc=>ae c (by have:=ah c hc;omega) (λhm=>ap c hm hc)) bJ λsi' aC b' cs' q1 q2 q3 q4 q5 q6 q7 q8 q9=>⟨si',rfl,?_⟩
      refine aP aC sk' si' kb b' cs' (by omega) (λc hc n1 n2=>(q9 c (by omega) n2).trans (ae c hc n1)) (ok.frame λc hc=>?_) (aa.imp id λh=>by omega) q1 q2 q3 q4 q5 q6 (q7.imp id λh=>by omega) λe=>?_
      ·simp at hc;subst hc
       exact q9 c (by omega) Z
      ·rcases q7 with⟨e2,hm⟩|h
       ·exact Z (by rw[e,e2];exact hm)
       ·omega
end
section
variable {M gl:Fr} {o:OpT} {u u2:Value} {h h':zb} {rb:Nat} {D bs:List Nat} {K:Value -> zb -> Prop} {v:Tr}
abbrev Yt:Ty:=.pair .str (.pair (.row .str) (.pair (.row .str) .tree))
def qg(s:Bt)(sp sf:Sl)(v:Tr)(sk si:Sl):List Value:=[.string s,slV sp,slV sf,.int .i64 v.kind,.string v.text,slV sk,slV si]
theorem z2x(h:RdV M Yt o u):∃sp sf sk si:Sl,u=.agg (qg o.1 sp sf o.2.2.2 sk si).toArray/\RdV M (.row .str) o.2.1 (slV sp)/\RdV M (.row .str) o.2.2.1 (slV sf)/\RdV M .tree o.2.2.2 (.agg (zf o.2.2.2 sk si).toArray):=by
 unfold RdV at h
 simp only[zcl,if_true]at h
 obtain⟨cs,rfl,c1,c2,rfl,h1,c3,c4,rfl,h2,c5,c6,rfl,h3,h4⟩:=h
 have h1:c1=[.string o.1]:=h1
 subst h1
 obtain⟨v2,e2,a2,aa,q2,g2⟩:=h2
 obtain⟨v3,e3,a3,Z,q3,g3⟩:=h3
 subst e2;subst e3;subst q2;subst q3
 have O:RdV M .tree o.2.2.2 (.agg c6.toArray):=by unfold RdV;simp only[zcl,if_true];exact⟨_,rfl,h4⟩
 obtain⟨sk,si,e4,_⟩:=yp O
 have e5:c6=zf o.2.2.2 sk si:=by
  injection e4 with e4
  exact congrArg CH e4
 subst e5
 refine⟨⟨a2,o.2.1.length,aa⟩,⟨a3,o.2.2.1.length,Z⟩,sk,si,rfl,?_,?_,O⟩
 ·rw[zjj rfl];exact⟨_,rfl,a2,aa,rfl,g2⟩
 ·rw[zjj rfl];exact⟨_,rfl,a3,Z,rfl,g3⟩
def Res(h:zb)(rb:Nat)(D:List Nat)(r:Tr×Int)(K:Value->zb->Prop):Prop:=∀h' D',(r.2=0->Doc h' rb r.1 D')->Turn h h' rb D [] D'->K (.int .i64 r.2) h'
theorem z7w(k:Keep h.size h h'):Turn h h' rb D [] []:=⟨k.size,λc h1 _ _=>k.get c h1,λc hc=>by cases hc⟩
theorem Turn.new{h h1 h':zb}{D bs D':List Nat}(H:Turn h1 h' rb D bs D')(k:Keep h.size h h1)(hb:∀c∈bs,h.size<=c):Turn h h' rb D [] D':=by
 have:=k.size
 refine⟨by have:=H.size;omega,λc h1 h2 h3=>(H.old c (by omega) h2 h3).trans (k.get c h1),λc hc=>?_⟩
 rcases H.own c hc with h|h|h
 ·exact .inl h
 ·exact .inr (.inr (hb c h))
 ·exact .inr (.inr (by omega))
theorem za6{r:Tr×Int}(H:Res h rb D r K)(hr:r.2≠0)(k:Keep h.size h h'):K (.int .i64 r.2) h':=H h' [] (λe=>absurd e hr) (z7w k)
theorem zgz{v x:Tr}{p:List Bt}(hs:tsz v<=4096)(h:qb v p=some x):x.items.length<=1000000000:=by
 have h1:=(jh h).1
 have h2:=Zt x.items
 rw[jy]at h1;omega
structure At (gl:Fr) (v:Tr) (h:zb) (M:Fr) (rb:Nat) (D:List Nat):Prop where
 le:Fr.le gl M
 ag:AgM M h
 doc:Doc h rb v D
 sm:Sm v
 ok:Qk zw v=true
 sz:tsz v<=4096
theorem At.keep(A:At gl v h M rb D)(k:Keep h.size h h'):At gl v h' M rb D:=
 ⟨A.le,A.ag.keep k,A.doc.keep λc hc=>k.get c (A.doc.lt c hc),A.sm,A.ok,A.sz⟩
theorem At.out(A:At gl v h M rb D)(hb:∀c∈bs,h.size<=c):∀c∈bs,c≠rb/\c∉D:=λc hc=>by
 have:=hb c hc
 exact⟨λe=>by have:=A.doc.lt c (.inl e);omega,λhm=>by have:=A.doc.lt c (.inr hm);omega⟩
theorem At.add(hg:GL gl){v w:Tr}(A:At gl v h M rb D){p:List Bt}(hp:SL p)(aa:RdV M (.row .str) p u2){bw:List Nat}{wk wi:Sl}(ow:OT h w bw (zf w wk wi))(O:∀c∈bw,c≠rb/\c∉D)
  {h0:zb} (k0:Keep h0.size h0 h) (ac:∀c∈bw,h0.size<=c) (hK:Res h0 rb D (zd9 (zi9 v p w)) K):XC Tp 101 #[.pointer (some ⟨rb,0,none⟩),u2,.agg #[.int .i64 w.kind,.string w.text,slV wk,slV wi]] h K:=by
 refine z4m hg A.sm A.ok hp A.le A.ag A.doc aa ow O (λx hx=>zgz A.sz hx) (λhn h' k=>?_) λt ht h' D' Z tn=>?_
 ·rw[hn]at hK
  exact za6 hK (by simp[zd9]) (k0.trans k k0.size)
 ·rw[ht]at hK
  exact hK h' D' (λ_=>Z) (tn.new k0 ac)
theorem At.at(hg:GL gl)(A:At gl v h M rb D){p:List Bt}(hp:SL p)(aa:RdV M (.row .str) p u2)
  (Z:qb v p=none->∀h',Keep h.size h h'->K (.pointer none) h')
  (O:∀x,qb v p=some x->∀h' pa,Keep h.size h h'->Plc h' D rb pa x (λy=>Qh v p y)->K (.pointer (some pa)) h'):
  XC Tp 102 #[.pointer (some ⟨rb,0,none⟩),u2] h K:=
 z7h hg A.sm A.ok hp A.le A.ag A.doc aa Z λx hx _ _ h' pa k plc=>O x hx h' pa k plc
theorem At.find_sm{v x:Tr}(A:At gl v h M rb D){p:List Bt}(hf:qb v p=some x):Sm x:=by
 obtain⟨h1,h2,_⟩:=jh hf
 exact⟨by have:=A.sm.sz;omega,h2 _ A.sm.tx⟩
theorem z2y(hg:GL gl)(A:At gl v h M rb D)(hp:SL o.2.1)(hw:Sm o.2.2.2)(ho:qm o.2.2.2=true)(hu:RdV M Yt o u)(hK:Res h rb D (zd9 (zi9 v o.2.1 o.2.2.2)) K):
  XC Tp 59 #[.pointer (some ⟨rb,0,none⟩),u] h K:=by
 obtain⟨sp,sf,sk,si,rfl,r1,r2,r3⟩:=z2x hu
 apply zd6 (some ⟨rb,0,none⟩) o.1 sp sf o.2.2.2.kind o.2.2.2.text sk si
 intro h1
 have k1:Keep h.size h h1:=Keep.push _ _ (Ae _)
 have b1:Blk h1 h.size (qg o.1 sp sf o.2.2.2 sk si).toArray:=Blk.new _ _ _
 have z1:h1.size=h.size+1:=Ai _
 clear_value h1
 have A1:=A.keep k1
 refine⟨sp,b1.cellAdd (by rfl),o.2.2.2.kind,o.2.2.2.text,sk,si,?_,?_⟩
 ·rw[zo];exact zj7 b1 (vs:=zf o.2.2.2 sk si) (o:=0+3) (i:=0) rfl
 refine zfc hg hw ho A1.le A1.ag r3 λh8 bs ck ci k8 ot O=>⟨o.2.2.2.kind,o.2.2.2.text,ck,ci,rfl,k8,?_⟩
 have A8:=A1.keep k8
 refine A8.add hg hp r1 ot (A1.out O) (h0:=h) (k1.trans k8 (by omega)) (λc hc=>by have:=O c hc;omega) λh' D' hD tn=>⟨_,rfl,hK h' D' hD tn⟩
theorem zr4(hg:GL gl)(A:At gl v h M rb D)(hp:SL o.2.1)(hu:RdV M Yt o u)
  (hK:Res h rb D (match qb v o.2.1 with
   |none=>(zT,8)
   |some _=>if o.2.1=[]then(zT,1)else(zgy v o.2.1,0)) K):
  XC Tp 60 #[.pointer (some ⟨rb,0,none⟩),u] h K:=by
 obtain⟨sp,sf,sk,si,rfl,r1,r2,r3⟩:=z2x hu
 apply Xv (some ⟨rb,0,none⟩) o.1 sp sf o.2.2.2.kind o.2.2.2.text sk si
 intro h1
 have k1:Keep h.size h h1:=Keep.push _ _ (Ae _)
 have b1:Blk h1 h.size (qg o.1 sp sf o.2.2.2 sk si).toArray:=Blk.new _ _ _
 have z1:h1.size=h.size+1:=Ai _
 clear_value h1
 have A1:=A.keep k1
 refine⟨sp,b1.cellAdd (by rfl),?_⟩
 refine A1.at hg hp r1 (λhn h4 k4=>⟨none,rfl,(λ_=>?_),λhc=>by cases hc⟩) λx hx h4 pa k4 plc=>⟨some pa,rfl,(λhc=>by cases hc),λ_=>⟨sp,(b1.ofKeep k4).cellAdd (by rfl),?_⟩⟩
 ·rw[hn]at hK
  exact za6 hK (by simp) (k1.trans k4 (by omega))
 ·rw[hx]at hK
  have A4:=A1.keep k4
  have O:Keep h.size h h4:=k1.trans k4 (by omega)
  simp only at hK
  refine zp8 hg A4.sm A4.ok hp A4.le A4.ag A4.doc r1 (λZ hl=>?_) (λy hy=>zgz A4.sz hy) (λh0=>⟨1,rfl,?_⟩) λy j hl hy hj ac h' D' aa tn=>⟨0,rfl,?_⟩
  ·obtain⟨y,q1,k,q2,q3⟩:=zaj Z hx
   exact⟨y,q1,by rw[Xw hl,q2];omega⟩
  ·rw[if_pos h0]at hK
   exact za6 hK (by simp) O
  ·rw[if_neg (λe=>by rw[e]at hl;simp at hl)]at hK
   refine hK h' D' (λ_=>?_) (tn.new O λc hc=>by cases hc)
   have:zgy v o.2.1=Qh v (o.2.1.take (o.2.1.length-1)) (zgx y j):=by
    unfold zgy Yp
    rw[hy]
    simp only
    rw[<-Xw hl,hj];rfl
   rw[this];exact aa
theorem zqa(hg:GL gl)(A:At gl v h M rb D)(hp:SL o.2.1)(hw:Sm o.2.2.2)(ho:qm o.2.2.2=true)(hu:RdV M Yt o u)
  (hK:Res h rb D (match qb v o.2.1 with
   |none=>(zT,8)
   |some _=>(Qh v o.2.1 o.2.2.2,0)) K):
  XC Tp 61 #[.pointer (some ⟨rb,0,none⟩),u] h K:=by
 obtain⟨sp,sf,sk,si,rfl,r1,r2,r3⟩:=z2x hu
 apply Wy (some ⟨rb,0,none⟩) o.1 sp sf o.2.2.2.kind o.2.2.2.text sk si
 intro h1
 have k1:Keep h.size h h1:=Keep.push _ _ (Ae _)
 have b1:Blk h1 h.size (qg o.1 sp sf o.2.2.2 sk si).toArray:=Blk.new _ _ _
 have z1:h1.size=h.size+1:=Ai _
 clear_value h1
 have A1:=A.keep k1
 refine⟨sp,b1.cellAdd (by rfl),?_⟩
 refine A1.at hg hp r1 (λhn h4 k4=>⟨none,rfl,(λ_=>?_),λhc=>by cases hc⟩) λx hx h4 pa k4 plc=>⟨some pa,rfl,(λhc=>by cases hc),λ_=>⟨o.2.2.2.kind,o.2.2.2.text,sk,si,?_,?_⟩⟩
 ·rw[hn]at hK
  exact za6 hK (by simp) (k1.trans k4 (by omega))
 ·rw[zo];exact zj7 (b1.ofKeep k4) (vs:=zf o.2.2.2 sk si) (o:=0+3) (i:=0) rfl
 rw[hx]at hK
 have A4:=A1.keep k4
 have z4:=k4.size
 have ai:Keep h.size h h4:=k1.trans k4 (by omega)
 refine zfc hg hw ho A4.le A4.ag r3 λh8 bs ck ci k8 ot ac=>⟨o.2.2.2.kind,o.2.2.2.text,ck,ci,rfl,pa,rfl,?_⟩
 have z8:=k8.size
 have af:=Plc.keepK plc (by have:=A.doc.lt rb (.inl rfl);omega) k8
 have O:=A4.out ac
 obtain⟨b,of,cs,bx,rfl,hb,ak,ar,ap,Z,am,al,an,ah⟩:=af
 have ae:∀c,c≠rb->c∉D->c≠b:=λc q1 q2 e=>by
  rcases Z with h|h
  ·exact q1 (by rw[e,h])
  ·exact q2 (by rw[e];exact h)
 refine xr (vs:=zf o.2.2.2 ck ci) znv hb rfl znu (by show of+4<=_;omega) (Q9 _ ck ci) λh' b' z' f'=>?_
 obtain⟨D',aj,aa⟩:=ah h' o.2.2.2 (zf o.2.2.2 ck ci) bs (λc n1 _ _=>f' c n1) b' (ot.frame λc hc=>f' c (ae c (O c hc).1 (O c hc).2)) (λc hc=>.inr (O c hc))
 refine hK h' D' (λ_=>aj) ⟨by omega,λc q1 q2 q3=>(f' c (ae c q2 q3)).trans ((k8.get c (by omega)).trans (ai.get c q1)),λc hc=>?_⟩
 rcases aa c hc with hc|hc
 ·exact .inl hc
 ·exact .inr (.inr (by have:=ac c hc;omega))
theorem zzr(hg:GL gl)(A:At gl v h M rb D)(hp:SL o.2.1)(hf:SL o.2.2.1)(hv:qm v=true)(hu:RdV M Yt o u)
  (hK:Res h rb D (match qb v o.2.2.1 with
   |none=>(zT,8)
   |some y=>zd9 (zi9 v o.2.1 y)) K):
  XC Tp 63 #[.pointer (some ⟨rb,0,none⟩),u] h K:=by
 obtain⟨sp,sf,sk,si,rfl,r1,r2,r3⟩:=z2x hu
 apply zcg (some ⟨rb,0,none⟩) o.1 sp sf o.2.2.2.kind o.2.2.2.text sk si
 intro h1
 have k1:Keep h.size h h1:=Keep.push _ _ (Ae _)
 have b1:Blk h1 h.size (qg o.1 sp sf o.2.2.2 sk si).toArray:=Blk.new _ _ _
 have z1:h1.size=h.size+1:=Ai _
 clear_value h1
 have A1:=A.keep k1
 refine⟨sf,b1.cellAdd (by rfl),?_⟩
 refine A1.at hg hf r2 (λhn h4 k4=>⟨none,rfl,(λ_=>?_),λhc=>by cases hc⟩) λx hx h4 pa k4 plc=>⟨some pa,rfl,(λhc=>by cases hc),λ_=>⟨sp,(b1.ofKeep k4).cellAdd (by rfl),pa,rfl,?_⟩⟩
 ·rw[hn]at hK
  exact za6 hK (by simp) (k1.trans k4 (by omega))
 rw[hx]at hK
 have A4:=A1.keep k4
 have z4:=k4.size
 have ac:Keep h.size h h4:=k1.trans k4 (by omega)
 obtain⟨xk,xi,bx,Z,ot,ae,_⟩:=Plc.ld plc
 refine⟨x.kind,x.text,xk,xi,Z,?_⟩
 refine zfc hg (A4.find_sm hx) (Ya hv hx) (A4.le.trans (Y7 A4.ag bx)) (MxL.ag A4.ag bx) ot.rdv λh8 bs ck ci k8 aa O=>⟨x.kind,x.text,ck,ci,rfl,k8,?_⟩
 have A8:=A4.keep k8
 refine A8.add hg hp r1 aa (A4.out O) (h0:=h) (ac.trans k8 (by omega)) (λc hc=>by have:=O c hc;omega) λh' D' hD tn=>⟨_,rfl,hK h' D' hD tn⟩
end
end Go.X
end
section
namespace Go.Proofs.YtbploiccompocaaGreatDoor
open Go Go.X Go.ChangeShapes Go.WideShapes Go.ChangeAt Go.RowKit Go.Lib
set_option linter.unusedVariables false
section
variable {cs:List Value} {H:Type} {held:Bool} {fuel:Nat}
theorem seven(hl:cs.length=7):cs=(cs.drop 0).take 1++((cs.drop 1).take 1++((cs.drop 2).take 1++(cs.drop 3).take 4)):=by
 match cs,hl with
 |[a,b,c,d,e,f,g],_=>rfl
theorem qb5{enc:TypeId×Value->H}{W:World}{sp:Nat->Bool}{x:DataW H×List MemPlace}(h:DataW.trod enc AK W 0 sp held fuel 38 cs=some x)(hw:zh8 AK 38 x.1):∃o:OpT,Rd (Fz W) Yt o cs:=by
 obtain⟨xs,n,rfl,hx,hl,aa,O⟩:=DataW.trod_struct Tryz.underlying38 h
 have ac:cs.length=7:=hl.trans (by kernel_rfl)
 have ae:xs.length=4:=aa
 have g0:DataW.trod enc AK W 0 sp held n 9 ((cs.drop 0).take (AK.cellsOf 9))=xs[0]?:=O 0 _ rfl
 have g1:DataW.trod enc AK W 0 sp held n 22 ((cs.drop 1).take (AK.cellsOf 22))=xs[1]?:=O 1 _ rfl
 have g2:DataW.trod enc AK W 0 sp held n 22 ((cs.drop 2).take (AK.cellsOf 22))=xs[2]?:=O 2 _ rfl
 have g3:DataW.trod enc AK W 0 sp held n 25 ((cs.drop 3).take (AK.cellsOf 25))=xs[3]?:=O 3 _ rfl
 rw[Aj (by omega)]at g0 g1 g2 g3
 have Z:∀(j:Nat) (t:TypeId) (hj:j<xs.length),([9,22,22,25]:List TypeId)[j]?=some t->zh8 AK t (xs[j]).1:=λj t hj hf m hm=>hw m (by
   rw[hx]
   unfold DataW.weights
   rw[Tryz.underlying38]
   exact DataW.weights_mem_each (j:=j) (t:=t) (d:=(xs[j]).1) (by rw[<-hf];rfl) (by rw[B5,Aj hj];rfl) m hm)
 have c1:AK.cellsOf 9=1:=by kernel_rfl
 have c2:AK.cellsOf 22=1:=by kernel_rfl
 have c3:AK.cellsOf 25=4:=by kernel_rfl
 rw[c1]at g0
 rw[c2]at g1 g2
 rw[c3]at g3
 obtain⟨s,e0⟩:=zxz Bw g0
 obtain⟨p,e1⟩:=zys g1 (Z 1 _ (by omega) rfl)
 obtain⟨f,e2⟩:=zys g2 (Z 2 _ (by omega) rfl)
 obtain⟨v,e3⟩:=zyr _ _ _ g3 (Z 3 _ (by omega) rfl)
 exact⟨(s,p,f,v),_,_,seven ac,e0,_,_,rfl,e1,_,_,rfl,e2,e3⟩
theorem qah{enc:TypeId×Value->H}{W:World}{sp:Nat->Bool}{x:DataW H×List MemPlace}(h:DataW.trod enc AK W 0 sp held fuel 26 cs=some x)(hw:zh8 AK 26 x.1):∃xs:List OpT,Rd (Fz W) (.row Yt) xs cs:=
 zxy (T:=Yt) Tryz.underlying26 (by kernel_rfl) (by decide) (by decide +kernel) (λ_ _ cs y hy hs=>qb5 hy hs) h hw
end
end Go.Proofs.YtbploiccompocaaGreatDoor
end
section
namespace Go.X
section
theorem qck:Yl (yb (Lib.itoa 1)).1=[49]:=by kernel_rfl
theorem qcd:Yl (yb (Lib.itoa 2)).1=[50]:=by kernel_rfl
def smT:Tr:=.mk 6 ⟨#[]⟩ [⟨#[97]⟩] [.mk 5 ⟨#[]⟩ [] [.mk 3 (bl [49]) [] [],.mk 3 (bl [50]) [] []]]
theorem qai:Sm smT:=by
 refine Sm.few ?_ ?_
 ·have:tks smT=5:=by kernel_rfl
  omega
 ·have O:∀b:Bs,b.length<=2048->txS (.mk 3 (bl b) [] []):=λb hb=>by
   rw[txS,zjk];exact⟨⟨by rw[zv];exact hb,by simp⟩,trivial⟩
  unfold smT
  rw[txS,zjk,zjk,txS,zjk,zjk,zjk]
  exact⟨⟨by decide,by decide⟩,⟨⟨by decide,by simp⟩,O _ (by decide),O _ (by decide),trivial⟩,trivial⟩
theorem zak{l:List Bt}(h:l.length<=1000000)(h2:∀x∈l,x.size<=1048576):SL l:=⟨h,λx hx=>by rw[Js];exact h2 x hx⟩
end
section
variable {gl:Fr} {v:Tr} {R:Bool -> Prop}
theorem zzs(hg:GL gl)(hv:Sm v)(h:R (decide (v.kind≠7)&&zw v)):PC Tp gl 46 [Arg.mk .tree v] [.bool] R:=by
 apply zgj
 simp only[qj]
 refine⟨λb=>b=zw v,λ_=>zy2 hg hv rfl,λb hb=>?_⟩
 cases hk:(v.kind != 7)with
 |false=>
  have e:v.kind=7:=by simpa using hk
  have:(decide (v.kind≠7)&&zw v)=false:=by simp[e]
  rw[this]at h
  simpa[hk]using h
 |true=>
  have e:v.kind≠7:=by simpa using hk
  have hb:=hb hk
  subst hb
  have:(decide (v.kind≠7)&&zw v)=zw v:=by simp[e]
  rw[this]at h
  simpa[hk]using h
theorem zea(hg:GL gl)(hv:Sm v)(hR:R (qy v)):PC Tp gl 21 [Arg.mk .tree v] [.bool] R:=by
 intro h M vs hM ag ha
 match vs,ha with
 |[u],⟨hu,_⟩=>
  have hu:RdV M .tree v u:=hu
  have af:=hu
  obtain⟨sk,si,rfl,rk,ri⟩:=yp hu
  apply PX.of
  apply zkc v.kind v.text sk si
  intro h1
  have L1:Later h M h1 M:=Later.push ag _
  have s1:h1.size=h.size+1:=Ai _
  have Z:∀h':zb,Keep h1.size h1 h'->ze h' ⟨h.size,0,none⟩ 0 [.int .i64 v.kind,.string v.text,slV sk,slV si]:=λh' k=>z1r (h':=h') (by rw[s1]at k;exact k)
  clear_value h1
  refine⟨v.kind,v.text,sk,si,Z h1 (Keep.refl _ _),?_⟩
  have ah:PC Tp gl 44 [Arg.mk .tree v] [.bool] (λr=>r=Zi v):=ztj hv rfl
  refine ah.go (vs:=[.agg #[.int .i64 v.kind,.string v.text,slV sk,slV si]]) (hM.trans L1.le) L1.ag (yo (RdV.mono L1.le af) ww) λw h2 M2 r L2 ac hr=>?_
  refine⟨r,zay ac,v.kind,v.text,sk,si,λ_=>Z h2 L2.keep,?_⟩
  have O:=L1.trans L2
  refine⟨λw h4=>∃b,w=.bool b/\(r=true->b=Qk (λx=>decide (x.kind≠7)&&zw x) v)/\∃M4,Later h M h4 M4,λaj=>?_,λae=>⟨true,true,rfl,λe=>(by rw[e]at ae;cases ae),M2,O⟩,λ_ w h4 ⟨b,e,_⟩=>⟨b,e⟩,?_⟩
  ·refine(ztk (F:=46) (by kernel_rfl) (p:=λx=>decide (x.kind≠7)&&zw x) (λx hx=>zzs hg hx rfl) v hv (hM.trans O.le) L2.ag (RdV.mono O.le af)).go λw h3 M3 b L3 aa ai=>⟨b,zay aa,b,rfl,λ_=>ai,M3,O.trans L3⟩
  ·rintro b h4 ⟨b',e,hb,M4,L4⟩
   cases e
   refine⟨M4,_,L4,zax.2 (rdBool _),?_⟩
   unfold qy at hR
   rw[<-hr]at hR
   cases r with
   |false=>exact hR
   |true=>rw[cond_true,hb rfl];exact hR
theorem zfi(hg:GL gl)(hv:Sm v)(h:R (qy v)):PC Tp gl 34 [Arg.mk .tree v] [.bool] R:=by
 apply zcd
 rw[qj]
 refine zm6 v hv.sz ⟨λr=>r=(tdp v:Int),λ_=>ziw v hv.sz rfl,λr hr=>⟨λb=>b=Qk (λx=>decide (x.kind≠7)&&zw x) v,λ_=>ziy hg false v hv (zlj (λx=>by simp[Bool.and_comm]) v),λb hb=>?_⟩⟩
 have e:(bif decide ((tsz v:Int)<=4096)then decide (r<=32)else false)=Zi v:=by
  unfold Zi
  cases hc:decide ((tsz v:Int)<=4096)with
  |false=>(have:decide (tsz v<=4096)=false:=by simp at hc ⊢;omega);rw[this];rfl
  |true=>
   have:decide (tsz v<=4096)=true:=by simp at hc ⊢;omega
   rw[this,hr hc,cond_true,Bf,AB];simp;omega
 rw[e]at hb ⊢
 unfold qy at h
 cases hs:Zi v with
 |false=>rw[hs]at h;exact h
 |true=>rw[hs]at h;rw[cond_true,hb hs];exact h
theorem z7x(hk:v.keys.length<=1000000000)(hi:v.items.length<=1000000000000)(h:R (zi8 v)):PC Tp gl 38 [Arg.mk .tree v] [.bool] R:=by
 apply zni
 have e:(bif (bif ((v.kind:Int)==0)then((v.text:Bt).toList==((⟨#[]⟩:Bt):Bt).toList)else false)then((Aa .i64 (((Bm v.keys:Nat):Int)+((Bm v.items:Nat):Int)):Int)==0)else false)=zi8 v:=by
  rw[w64 (by omega),AB]
  unfold zi8
  simp only[Ba,AI,beq_iff_eq,decide_eq_true_eq,ByteArray.toList_eq,lb]
  constructor
  ·rintro⟨⟨h1,h2⟩,h3⟩
   exact⟨h1,h2,Az (by omega),Az (by omega)⟩
  ·rintro⟨h1,h2,h3,h4⟩
   exact⟨⟨h1,h2⟩,by rw[h3,h4];rfl⟩
 rw[e];exact h
theorem z2z(h:R (zi8 v)):PC Tp gl 41 [Arg.mk .tree v] [.bool] R:=by
 apply zd3
 have e:(bif (bif (bif ((v.kind:Int)==0)then((v.text:Bt).toList==((⟨#[]⟩:Bt):Bt).toList)else false)then((((Bm v.keys:Nat):Int):Int)==0)else false)then((((Bm v.items:Nat):Int):Int)==0)else false)=zi8 v:=by
  rw[AB]
  unfold zi8
  simp only[Ba,AI,beq_iff_eq,decide_eq_true_eq,ByteArray.toList_eq,lb]
  constructor
  ·rintro⟨⟨⟨h1,h2⟩,h3⟩,h4⟩
   exact⟨h1,h2,Az (by omega),Az (by omega)⟩
  ·rintro⟨h1,h2,h3,h4⟩
   exact⟨⟨⟨h1,h2⟩,by rw[h3];rfl⟩,by rw[h4];rfl⟩
 rw[e];exact h
end
end Go.X
end
section
namespace Go.X
open Go Go.ChangeMaps
section
variable {h h':zb} {m r:Nat} {P:Program} {t kt et ty:TypeId} {K:Value -> zb -> Prop} {dn:List Value}
def MapW(h:zb)(m:Nat)(l:List (Value×Value)):Prop:=
 ∃es O,h[m]?=some (.map es O)/\es.toList.map (λe=>(e.key,e.val))=l/\(∀e∈es.toList,e.born<O)/\(es.toList.map (·.born)).Nodup
theorem MapW.keep{l:List (Value×Value)}(H:MapW h m l)(k:h'[m]?=h[m]?):MapW h' m l:=by
 obtain⟨es,c,h1,h2⟩:=H;exact⟨es,c,k.trans h1,h2⟩
theorem MapW.lt{l:List (Value×Value)}(H:MapW h m l):m<h.size:=by
 obtain⟨es,c,h1,h2⟩:=H;exact(Ac.1 h1).1
theorem MapW.new(h:zb):MapW (h.push (.map #[] 0)) h.size []:=⟨#[],0,wu _ _,rfl,by simp,by simp⟩
def zjl(l:List (Bt×Value)):List (Value×Value):=l.map λp=>(A5 p.1,p.2)
theorem MapW.at{l:List (Bt×Value)}(H:MapW h m (zjl l)):MapAt h m l:=by
 obtain⟨es,c,h1,h2,_⟩:=H;exact⟨es,c,h1,h2⟩
theorem z3a{z:Value}(T:MapT P t kt et z){l:List (Bt×Value)}(H:MapW h m (zjl l))(k:Bt)(v:Value){K:zb->Prop}
  (hK:∀h':zb,MapW h' m (zjl (zwo l k v))->h'.size=h.size->(∀i,i≠m->h'[i]?=h[i]?)->K h'):XRunU P (CQ t (.map (some m)) (.string k) v) h K:=by
 have af:=H.lt
 obtain⟨es,c,h1,h2,h3,h4⟩:=H
 intro B d
 have hu:=QExec.underlying (h:=h) T.map B d
 have hg:=Ji (P:=P) h1 B d
 have hc:=Xa T.key false k h B d
 have O:∀o:Obj,(setObj m o).run P (mk B d h)=.ok () (mk B d (h.setIfInBounds m o)):=by
  intro o
  have:(mk B d h).heap[m]?=some (.map es c):=h1
  simp[setObj,Sem.run,this]
  rfl
 unfold CQ
 rcases J9 k es.toList l 0 h2 with⟨g1,g2⟩|⟨j,v0,e,g1,g2,g3,g4,g5,g6⟩
 ·refine⟨d,h.setIfInBounds m (.map (es.push { key:=.string k,val:=v,born:=c }) (c+1)),?_,hK _ ⟨es.push { key:=.string k,val:=v,born:=c },c+1,by simp[af],?_,?_,?_⟩ (by simp) (λi hi=>by rw[AW (Ne.symm hi)])⟩
  ·rw[Sem.run_bind,hu]
   simp only[Result.andThen_ok,Sem.run_bind,hg,hc]
   rw[Z3 T.key k es.toList none h g2 B d]
   simp only[Result.andThen_ok]
   exact O _
  ·rw[zbb g1]
   unfold zjl at h2 ⊢
   simp[h2]
  ·intro e he
   simp at he
   rcases he with he|rfl
   ·have:=h3 e (by simpa using he);omega
   ·simp
  ·simp only[Array.toList_push,List.map_append,Dx,List.map_nil]
   rw[A0]
   refine⟨h4,by simp,λx hx y hy e=>?_⟩
   simp at hy
   obtain⟨e',aa,rfl⟩:=BR.1 hx
   have:=h3 e' aa;omega
 ·have ai:j<es.size:=by
   have:=(Ax.1 g2).1
   simpa using this
  have Z:((es.modify j λe=>{ e with key:=.string k,val:=v }).toList.map (·.born))=es.toList.map (·.born):=by
   apply Bb
   intro i
   simp only[Array.toList_modify,B5,List.getElem?_modify]
   by_cases ae:j=i
   ·subst ae;cases es.toList[j]? <;> simp
   ·cases es.toList[i]? <;> simp[ae]
  refine⟨d,_,?_,hK (h.setIfInBounds m (.map (es.modify j λe=>{ e with key:=.string k,val:=v }) c)) ⟨es.modify j λe=>{ e with key:=.string k,val:=v },c,by simp[af],?_,?_,?_⟩ (by simp) (λi hi=>by rw[AW (Ne.symm hi)])⟩
  ·rw[Sem.run_bind,hu]
   simp only[Result.andThen_ok,Sem.run_bind,hg,hc]
   rw[Z3 T.key k es.toList _ h g5 B d]
   simp only[Result.andThen_ok,AD]
   have ac:((es[j]?).map (·.key)).getD (.string k)=.string k:=by
    have:es[j]?=some e:=by simpa using g2
    rw[this];exact g3
   rw[ac]
   have hs:D4 (.string k) (.string k)=pure (.string k):=by
    unfold D4
    rw[if_pos (by show(k==k)=true;rw[zkp];simp)]
   rw[hs]
   exact O _
  ·have:=g6 v
   unfold zjl
   simpa using this
  ·intro e' aa
   have:e'.born∈((es.modify j λe=>{ e with key:=.string k,val:=v }).toList.map (·.born)):=BR.2 ⟨e',aa,rfl⟩
   rw[Z]at this
   obtain⟨e2,ah,e3⟩:=BR.1 this
   rw[<-e3];exact h3 e2 ah
  ·rw[Z];exact h4
def MapIt(h:zb)(r m:Nat)(l:List (Value×Value))(dn:List Value):Prop:=
 ∃es Z O aa c,h[r]?=some (.mapIter (some m) O aa c)/\h[m]?=some (.map es Z)/\es.toList.map (λe=>(e.key,e.val))=l/\(∀e∈es.toList,e.born<O)/\O<=c/\O<=Z/\(es.toList.map (·.born)).Nodup /\
  ∀e∈es.toList,aa.contains e.born=true↔e.key∈dn
theorem MapIt.keep{l:List (Value×Value)}(H:MapIt h r m l dn)(k1:h'[r]?=h[r]?)(k2:h'[m]?=h[m]?):MapIt h' r m l dn:=by
 obtain⟨es,Z,O,aa,c,h1,h2,h3⟩:=H
 exact⟨es,Z,O,aa,c,k1.trans h1,k2.trans h2,h3⟩
def z4n(h:zb)(r m:Nat)(k v:Value):Prop:=
 ∃(es:Array MapEntry) (O Z:Nat) (aa:Array Nat) (e:MapEntry),h[r]?=some (.mapIter (some m) Z (aa.push e.born) O)/\h[m]?=some (.map es O)/\e∈es.toList/\(es.toList.map (·.born)).Nodup/\e.key=k/\e.val=v
theorem z3b(ht:P.underlying t=some (.map kt et)){l:List (Value×Value)}(H:MapW h m l)
  (hK:∀h',h'.size=h.size+1->Keep h.size h h'->MapIt h' h.size m l []->K (.pointer (some ⟨h.size,0,none⟩)) h'):XRun P (Eu t (.map (some m))) h K:=by
 have O:=H.lt
 obtain⟨es,c,h1,h2,h3,h4⟩:=H
 intro B d
 have hu:=QExec.underlying (h:=h) ht B d
 have hg:=Ji (P:=P) h1 B d
 refine⟨.pointer (some ⟨h.size,0,none⟩),d,h.push (.mapIter (some m) c #[] c),?_,hK _ (by simp) (Keep.push _ _ (Ae _)) ⟨es,c,c,#[],c,wu _ _,?_,h2,h3,Ae _,Ae _,h4,λe he=>by simp⟩⟩
 ·unfold Eu
  rw[Sem.run_bind,hu]
  simp only[Result.andThen_ok,Sem.run_bind,hg,Sem.run_pure]
  rfl
 ·rw[BG,if_neg (by omega)];exact h1
theorem zvw{es:List MapEntry}(h:(es.map (·.born)).Nodup){a b:MapEntry}(ha:a∈es)(hb:b∈es)(e:a.born=b.born):a=b:=by
 induction es with
 |nil=>cases ha
 |cons x es ih=>
  rw[Dx,Cv]at h
  rcases Ag.1 ha with h1|h1
  ·rcases Ag.1 hb with h2|h2
   ·rw[h1,h2]
   ·exact(h.1 (BR.2 ⟨b,h2,by rw[<-e,h1]⟩)).elim
  ·rcases Ag.1 hb with h2|h2
   ·exact(h.1 (BR.2 ⟨a,h1,by rw[e,h2]⟩)).elim
   ·exact ih h.2 h1 h2
theorem zzt{es:List MapEntry}(h:(es.map (·.key)).Nodup){a b:MapEntry}(ha:a∈es)(hb:b∈es)(e:a.key=b.key):a=b:=by
 induction es with
 |nil=>cases ha
 |cons x es ih=>
  rw[Dx,Cv]at h
  rcases Ag.1 ha with h1|h1
  ·rcases Ag.1 hb with h2|h2
   ·rw[h1,h2]
   ·exact(h.1 (BR.2 ⟨b,h2,by rw[<-e,h1]⟩)).elim
  ·rcases Ag.1 hb with h2|h2
   ·exact(h.1 (BR.2 ⟨a,h1,by rw[e,h2]⟩)).elim
   ·exact ih h.2 h1 h2
def leftN(h:zb)(r m:Nat):Nat:=match h[r]?,h[m]? with
 |some (.mapIter _ _ seen _),some (.map es _)=>(es.toList.filter λe=>!seen.contains e.born).length
 |_,_=>0
theorem leftN.keep(k1:h'[r]?=h[r]?)(k2:h'[m]?=h[m]?):leftN h' r m=leftN h r m:=by unfold leftN;rw[k1,k2]
theorem zqb{α:Type}{p q:α->Bool}(h:∀x,p x=true->q x=true):∀l:List α,(l.filter p).length<=(l.filter q).length
 |[]=>Ae _
 |x::l=>by
  have:=zqb h l
  rw[List.filter_cons,List.filter_cons]
  by_cases hp:p x=true
  ·rw[if_pos hp,if_pos (h x hp)];simp;omega
  ·rw[if_neg hp]
   split
   ·simp;omega
   ·exact this
theorem filter_lt{α:Type}{p q:α->Bool}(h:∀x,p x=true->q x=true){e:α}(h1:p e=false)(h2:q e=true):∀l:List α,e∈l->(l.filter p).length<(l.filter q).length
 |[],he=>by cases he
 |x::l,he=>by
  rw[List.filter_cons,List.filter_cons]
  rcases Ag.1 he with rfl|he
  ·have:=zqb h l
   rw[if_neg (by rw[h1];simp),if_pos h2];simp;omega
  ·have:=filter_lt h h1 h2 l he
   by_cases hp:p x=true
   ·rw[if_pos hp,if_pos (h x hp)];simp;omega
   ·rw[if_neg hp]
    split
    ·simp;omega
    ·exact this
theorem z7y{l:List (Value×Value)}(H:MapIt h r m l dn)(hn:(l.map (·.1)).Nodup)(ak:r≠m)
  (aj:(∀p∈l,p.1∈dn)->K (.tuple #[.bool false]) h)
  (ae:∀k v,(k,v)∈l->k∉dn->∀h',MapIt h' r m l (k::dn)->z4n h' r m k v->h'.size=h.size->(∀j,j≠r->h'[j]?=h[j]?)->leftN h' r m<leftN h r m->K (.tuple #[.bool true,k,v]) h'):
  XRun P (Ey (.pointer (some ⟨r,0,none⟩)) false ty) h K:=by
 obtain⟨es,O,Z,aa,c,h1,h2,h3,h4,h5,h6,h7,h8⟩:=H
 intro B d
 have hk:(es.toList.map (·.key)).Nodup:=by
  have e:es.toList.map (·.key)=l.map (·.1):=by rw[<-h3,List.map_map];rfl
  rw[e];exact hn
 rcases run_next_at (P:=P) (mk B d h) ty r m Z c aa es O h1 h2 h4 h5 with⟨e0,e1⟩|⟨e,he,w1,hw,e1⟩
 ·refine⟨_,d,h,e1,aj λp hp=>?_⟩
  rw[<-h3]at hp
  obtain⟨x,hx,rfl⟩:=BR.1 hp
  refine(h8 x hx).1 ?_
  have:leftOf es aa=#[]:=Array.eq_empty_of_size_eq_zero e0
  unfold leftOf at this
  rw[Array.filter_eq_empty_iff]at this
  have:=this x (by simpa using hx)
  simpa using this
 ·have ac:e∈es.toList/\aa.contains e.born=false:=by
   unfold leftOf at he
   simpa using he
  have hr:r<h.size:=(Ac.1 h1).1
  have ai:∃d',setBlock w1 r (.mapIter (some m) Z (aa.push e.born) O)=mk B d' (h.setIfInBounds r (.mapIter (some m) Z (aa.push e.born) O)):=by
   rcases hw with rfl|rfl
   ·exact⟨d,rfl⟩
   ·exact⟨d+1,rfl⟩
  obtain⟨d',al⟩:=ai
  rw[al]at e1
  have ah:(h.setIfInBounds r (.mapIter (some m) Z (aa.push e.born) O))[m]?=some (.map es O):=by rw[AW ak];exact h2
  have af:(h.setIfInBounds r (.mapIter (some m) Z (aa.push e.born) O))[r]?=some (.mapIter (some m) Z (aa.push e.born) O):=by simp[hr]
  refine⟨_,d',_,e1,ae e.key e.val (by rw[<-h3];exact BR.2 ⟨e,ac.1,rfl⟩) (λhm=>?_) _ ⟨es,O,Z,aa.push e.born,O,af,ah,h3,h4,h6,h6,h7,λx hx=>?_⟩ ⟨es,O,Z,aa,e,af,ah,ac.1,h7,rfl,rfl⟩ (by simp) (λj hj=>by rw[AW (Ne.symm hj)]) ?_⟩
  ·have:=(h8 e ac.1).2 hm
   rw[ac.2]at this;cases this
  ·rw[Ag,<-h8 x hx]
   simp only[Array.contains_eq_mem,Array.mem_push,decide_eq_true_eq]
   constructor
   ·rintro(h|h)
    ·exact .inr h
    ·exact .inl (by rw[zvw h7 hx ac.1 h])
   ·rintro(h|h)
    ·exact .inr (by rw[zzt hk hx ac.1 h])
    ·exact .inl h
  ·unfold leftN
   rw[af,ah,h1,h2]
   refine filter_lt (e:=e) (λx hx=>?_) ?_ ?_ _ ac.1
   ·simp only[Array.contains_eq_mem,Array.mem_push]at hx ⊢
    simp at hx ⊢
    exact hx.1
   ·simp
   ·rw[ac.2];rfl
theorem z3c{k v:Value}(H:z4n h r m k v)(hK:K (.tuple #[k,v]) h):XRun P (Instr.entry (.pointer (some ⟨r,0,none⟩))) h K:=by
 obtain⟨es,Z,O,aa,e,h1,h2,h3,h4,rfl,rfl⟩:=H
 intro B d
 exact⟨_,d,h,run_entry_at (P:=P) (mk B d h) r m O aa es Z e h1 h2 h3 h4,hK⟩
theorem zzu(ht:P.underlying t=some (.map kt et)){l:List (Value×Value)}(H:MapW h m l):QExec P (CE #[t] ty #[.map (some m)]) h (.int .i64 (l.length:Int)):=by
 obtain⟨es,c,h1,h2,_⟩:=H
 intro B d
 have hu:=QExec.underlying (h:=h) ht B d
 have hg:=Ji (P:=P) h1 B d
 have hl:l.length=es.size:=by rw[<-h2];simp
 simp[CE,hu,hg,goInt,hl]
end
end Go.X
end
section
namespace Go.X
open Go Go.Lib
section
variable {v:Tr} {o:OpT}
def zt2(kb:List Bt)(ys:List Tr)(q:Tr->Tr->Bool)(k:Bt)(x:Tr):Bool:=match ys[(idxOfS kb k).toNat]? with
 |some y=>decide (0<=idxOfS kb k)&&q x y
 |none=>false
theorem zja(b:Tr):∀(ks:List Bt) (xs:List Tr),ks.length=xs.length->zp7 ks xs b=(ks.zip xs).all λp=>zt2 b.keys b.items xa p.1 p.2
 |[],[],_=>by simp[zp7]
 |k::ks,x::xs,h=>by
  rw[zp7,zja b ks xs (by simpa using h)]
  rfl
 |[],_::_,h=>by simp at h
 |_::_,[],h=>by simp at h
theorem zjb:∀(xs ys:List Tr),xs.length=ys.length->zp6 xs ys=(xs.zip ys).all λp=>xa p.1 p.2
 |[],[],_=>by simp[zp6]
 |x::xs,y::ys,h=>by
  rw[zp6,zjb xs ys (by simpa using h)]
  rfl
 |[],_::_,h=>by simp at h
 |_::_,[],h=>by simp at h
theorem zal(a b:Tr):xa a b=(decide (a.kind=b.kind)&&(decide (a.text=b.text)&&(decide (a.items.length=b.items.length)&&(if a.kind=6 then zp7 a.keys a.items b else zp6 a.items b.items)))):=by cases a;rw[xa]
theorem zzv{ks:List Bt}{k:Bt}{j:Nat}(h:idxOfS ks k=(j:Int)):j<ks.length:=by
 rcases zm4 k ks 0 with⟨h1,_⟩|⟨i,h1,h2,_⟩
 ·unfold idxOfS at h;rw[h1]at h;omega
 ·unfold idxOfS at h;rw[h1]at h;omega
theorem zau:Sm zT:=⟨by simp[zT,tsz,Qx],by
 refine(Jv _ _).2 ⟨⟨?_,by simp[zT],by simp[zT]⟩,zae.2 (by simp[zT])⟩
 show(0:Nat)<=_;omega⟩
theorem Sm.find{v x:Tr}{p:List Bt}(h:Sm v)(hf:qb v p=some x):Sm x:=by
 obtain⟨h1,h2,_⟩:=jh hf
 exact⟨by have:=h.sz;omega,h2 _ h.tx⟩
theorem znx{v w:Tr}{p:List Bt}(hv:Sm v)(hw:Sm w)(ho:Qk zw v=true)(h1:tsz v<=1000000)(h2:tsz w<=1000000)(hp:∀s∈p,s.size<=1048576):Sm (zd9 (zi9 v p w)).1:=by
 cases h:zi9 v p w with
 |none=>exact zau
 |some t=>exact⟨by have:=z7t h;show tsz t<=_;omega,z7u h hv.tx hw.tx ho h1 hp⟩
theorem zzw(hv:Sm v)(ov:qm v=true)(hw:Sm o.2.2.2)(h2:tsz o.2.2.2<=1000000)(hp:∀s∈o.2.1,s.size<=1048576):Sm (doR v o).1:=by
 have hs:=Y6 ov
 have ok:=xd ov
 unfold doR
 split
 ·split
  ·exact zau
  ·split
   ·exact zau
   ·exact⟨by have:=zfh v o.2.1;show tsz (zgy v o.2.1)<=_;omega,znr hv.tx _⟩
 ·split
  ·split
   ·exact zau
   ·exact z6o hv hw (by omega) _
  ·split
   ·split
    ·exact zau
    ·rename_i y hy
     have Z:=jh hy
     split
     ·split
      ·exact zau
      ·exact hv
     ·rename_i O
      have hf:o.2.2.1≠[]:=λe=>O (by rw[e];simp)
      exact znx ⟨by have:=zfh v o.2.2.1;omega,znr hv.tx _⟩ (hv.find hy) (znw ok hf hy) (by have:=zfh v o.2.2.1;omega) (by omega) hp
   ·split
    ·split
     ·exact zau
     ·rename_i y hy
      have Z:=jh hy
      exact znx hv (hv.find hy) ok (by omega) (by omega) hp
    ·split
     ·split
      ·exact zau
      ·split
       ·exact hv
       ·exact zau
     ·exact znx hv hw ok (by omega) h2 hp
theorem zjc(h:qy v=true):tsz v<=4096:=Y6 (wb h)
theorem z3d(h:zi8 v=true):tsz v=1:=by
 unfold zi8 at h
 have:=(of_decide_eq_true h).2.2.2
 rw[jy,this];rfl
theorem zjd(h:ja o=true):tsz o.2.2.2<=4096:=by
 unfold ja at h
 simp only[AI]at h
 have h:=h.2.2.2.2
 cases hs:(qq (lb o.1)).1 with
 |true=>rw[hs]at h;exact zjc h
 |false=>rw[hs]at h;rw[z3d h];omega
theorem Ws(h:ja o=true)(hs:(qq (lb o.1)).1=true):qm o.2.2.2=true:=by
 unfold ja at h
 simp only[AI]at h
 have h:=h.2.2.2.2
 rw[hs]at h;exact wb h
theorem zeb{s:Bs}(h:s=zvt\/s=xx\/s=za4):(qq s).1=true:=by unfold qq;rw[if_pos h]
theorem zt3{s:Bs}(h:(qq s).2.2=true)(h1:s≠Q4)(h2:s≠xx)(h3:s≠zd7)(h4:s≠zd8)(h5:s≠za4):s=zvt:=by
 unfold qq at h
 split at h
 ·rename_i hc
  rcases hc with hc|hc|hc
  ·exact hc
  ·exact absurd hc h2
  ·exact absurd hc h5
 ·split at h
  ·rename_i hc
   rcases hc with hc|hc
   ·exact absurd hc h3
   ·exact absurd hc h4
  ·exact absurd (of_decide_eq_true h) h1
theorem zec:∀{l:List Tr} {y:Tr},y∈l->tdp y<=Wz l
 |z::l,y,hy=>by
  rw[Wz]
  rcases Ag.1 hy with rfl|hy
  ·omega
  ·have:=zec hy;omega
theorem zfj{n:Nat}:∀{l:List Tr},(∀y∈l,tdp y<=n)->Wz l<=n
 |[],_=>by simp[Wz]
 |y::l,h=>by
  rw[Wz]
  have h1:=h y Aq
  have h2:=zfj λz hz=>h z (Ah _ hz)
  omega
theorem z7z(x:Tr)(j:Nat):tdp (zgx x j)<=tdp x:=by
 rw[zfy,zfy x]
 have:Wz (zgx x j).items<=Wz x.items:=by
  refine zfj λy hy=>?_
  have hy:y∈x.items.take j++x.items.drop (j+1):=hy
  rcases Am.1 hy with hy|hy
  ·exact zec (Bi hy)
  ·exact zec (BQ hy)
 omega
theorem zzx{w:Tr}:∀{p:List Bt} {v x:Tr},qb v p=some x->tdp w<=tdp x->tdp (Qh v p w)<=tdp v
 |[],v,x,h,hw=>by rw[Zu]at h;cases h;rw[Qh];exact hw
 |s::p,v,x,h,hw=>by
  obtain⟨k,hk,e1,_,_⟩:=Yn (Jz h)
  rw[xq e1 hk]at h
  have h1:=zzx h hw
  rw[zgu e1 hk,zfy,zfy v]
  have:Wz (v.items.set k (Qh v.items[k] p w))<=Wz v.items:=by
   refine zfj λy hy=>?_
   rcases C9 hy with hy|rfl
   ·exact zec hy
   ·have:=zec (Ao hk);omega
  show Wz (v.items.set k _)+1<=_
  omega
theorem z8a(v:Tr)(p:List Bt):tdp (zgy v p)<=tdp v:=by
 unfold zgy
 split
 ·exact Ae _
 ·rename_i x hx
  exact zzx hx (z7z x _)
end
end Go.X
end
section
namespace Go.X
open Go Go.X Go.Proofs Go.Lib
section
variable {h:zb} {M gl:Fr} {F:FuncId} {xs ys:List Tr}
theorem mapVal:MapT Tp 137 9 25 (.agg #[.int .i64 0,.string ⟨#[]⟩,.slice none 0 0,.slice none 0 0]):=⟨by kernel_rfl,by kernel_rfl,⟨Tryz.t25,by kernel_rfl,by kernel_rfl⟩⟩
theorem zt4(k:Bt):∀(ks:List Bt) (us:List Value) (i:Nat),ks.length=us.length->(idxFromS ks k i=-1/\zee (ks.zip us) k=none)\/∃j u,idxFromS ks k i=((i+j:Nat):Int)/\us[j]?=some u/\zee (ks.zip us) k=some u
 |[],[],_,_=>.inl ⟨rfl,rfl⟩
 |z::ks,u::us,i,h=>by
  unfold idxFromS
  rw[List.zip_cons_cons,zee]
  by_cases hz:z=k
  ·rw[if_pos hz]
   exact .inr ⟨0,u,rfl,rfl,by rw[if_pos hz]⟩
  ·rw[if_neg hz,if_neg hz]
   rcases zt4 k ks us (i+1) (by simpa using h)with h1|⟨j,w,h1,h2,h3⟩
   ·exact .inl h1
   ·exact .inr ⟨j+1,w,by rw[h1];congr 1;omega,by simpa using h2,h3⟩
 |[],_::_,_,h=>by simp at h
 |_::_,[],_,h=>by simp at h
theorem zzy{l:List (Bt×Value)}{k:Bt}(h:k∉l.map (·.1)):zee l k=none:=by
 induction l with
 |nil=>rfl
 |cons p l ih=>
  simp only[Dx,Ag,not_or]at h
  rw[zee,if_neg (λe=>h.1 e.symm),ih h.2]
theorem zny{α β:Type}{xs:List α}{ys:List β}{k:Nat}(hk:k<xs.length){u:β}(hy:ys.length=k):(xs.take (k+1)).zip (ys++[u])=(xs.take k).zip ys++[(xs[k],u)]:=by
 rw[An hk,List.zip_append (by simp;omega)];rfl
set_option maxHeartbeats 1000000 in
theorem zlq{v:Tr}(hn:v.keys.Nodup)(hl:v.keys.length=v.items.length)(hi:v.items.length<=1000000000000){u:Value}(ag:AgM M h)(hu:RdV M .tree v u){K:Value->zb->Prop}
  (hK:∀(h':zb) (m:Nat) (us:List Value),Keep h.size h h'->h.size<=m->us.length=v.items.length->(∀i (h1:i<v.items.length) (h2:i<us.length),RdV M .tree v.items[i] us[i])->MapW h' m (zjl (v.keys.zip us))->K (.map (some m)) h'):
  XC Tp 125 #[u] h K:=by
 obtain⟨sk,si,rfl,rk,ri⟩:=yp hu
 obtain⟨lk,_,_⟩:=rowLen rk
 obtain⟨li,_,_⟩:=rowLen ri
 apply zgm v.kind v.text sk si
 intro h1
 have k1:Keep h.size h h1:=Keep.push _ _ (Ae _)
 have b1:Blk h1 h.size (zc v.kind v.text sk si).toArray:=Blk.new _ _ _
 have z1:h1.size=h.size+1:=Ai _
 clear_value h1
 refine⟨sk,b1.cellAdd (by rfl),?_⟩
 intro h3
 have k3:Keep h1.size h1 h3:=Keep.push _ _ (Ae _)
 have w3:MapW h3 h1.size []:=MapW.new _
 have z3:h3.size=h1.size+1:=Ai _
 clear_value h3
 have b3:=b1.ofKeep k3
 have kk:Keep h.size h h3:=k1.trans k3 (by omega)
 refine⟨sk,b3.cellAdd (by rfl),λx g=>∃(k:Nat) (us:List Value),x=(k:Int)/\k<=v.items.length/\us.length=k/\g.size=h3.size/\(∀j,j≠h1.size->g[j]?=h3[j]?)/\(∀i (h1:i<v.items.length) (h2:i<us.length),RdV M .tree v.items[i] us[i])/\MapW g h1.size (zjl ((v.keys.take k).zip us)),
  λx _=>v.items.length-x.toNat,⟨0,[],rfl,BP _,rfl,rfl,λ_ _=>rfl,λi _ h2=>by simp at h2,by simpa[zjl]using w3⟩,?_⟩
 rintro x g ⟨k,us,rfl,hk,aa,zg,fg,hr,wg⟩
 have kg:Keep h.size h g:=⟨by omega,λj hj=>by rw[fg j (by omega)];exact kk.get j hj⟩
 have agg:=ag.keep kg
 refine⟨λhc=>?_,λhc=>?_⟩
 ·have O:k<v.keys.length:=by rw[lk]at hc;simp at hc;omega
  have af:k<v.items.length:=by omega
  refine zbo agg rk O rfl rfl ?_
  have bg:Blk g h.size (zc v.kind v.text sk si).toArray:=b3.keep (fg _ (by omega))
  obtain⟨a,ck,ci,ea,ah,r1,r2⟩:=zfv agg ri af
  refine⟨si,bg.cellAdd (by rfl),a,⟨ea,by omega,by omega⟩,v.items[k].kind,v.items[k].text,ck,ci,?_,?_⟩
  ·rw[Ad];exact ah
  refine z3a mapVal wg v.keys[k] _ λg' ae aj ai=>?_
  rw[yz af (by omega)]
  refine⟨⟨k+1,us++[.agg #[.int .i64 v.items[k].kind,.string v.items[k].text,slV ck,slV ci]],rfl,by omega,by simp;omega,by omega,λj hj=>(ai j hj).trans (fg j hj),λi h1 h2=>?_,?_⟩,by simp only[Ad];omega⟩
  ·rw[List.getElem_append]
   split
   ·rename_i h3;exact hr i h1 h3
   ·rename_i h3
    have:i=k:=by simp at h2;omega
    subst this
    simp only[aa,Nat.sub_self,List.getElem_cons_zero]
    exact yd r1 r2
  ·rw[zny O aa]
   have Z:zee ((v.keys.take k).zip us) v.keys[k]=none:=zzy λhm=>by
    rw[List.map_fst_zip (by simp;omega)]at hm
    have ac:=hn
    have e:v.keys=v.keys.take k++v.keys[k]::v.keys.drop (k+1):=by rw[<-AC O,Bp]
    rw[e,A0]at ac
    exact ac.2.2 _ hm _ Aq rfl
   rw[zbb Z]at ae
   exact ae
 ·have O:k=v.keys.length:=by rw[lk]at hc;simp at hc;omega
  subst O
  rw[AE]at wg
  exact hK g h1.size us kg (by omega) (by omega) hr wg
theorem zzz(hF:ya Tp F=true){q:Tr->Tr->Bool}(hp:∀x∈xs,∀y∈ys,PC Tp gl F [Arg.mk .tree x,Arg.mk .tree y] [.bool] (λr=>r=q x y)){s1 s2:Sl}(hM:Fr.le gl M)(ag:AgM M h)
  (r1:Rd M (.row .tree) xs [slV s1]) (r2:Rd M (.row .tree) ys [slV s2]):
  PX Tp 165 #[slV s1,slV s2,.func (.func F) #[] #[]] h M [.bool] (λr=>r=(decide (xs.length=ys.length)&&(xs.zip ys).all λp=>q p.1 p.2)):=by
 obtain⟨l1,n1,_⟩:=rowLen r1
 obtain⟨l2,n2,_⟩:=rowLen r2
 apply PX.of
 apply yn s1 s2 F #[] #[]
 refine⟨λhx=>⟨M,_,Later.refl ag,zax.2 (rdBool _),?_⟩,λhx=>?_⟩
 ·have:¬xs.length=ys.length:=by rw[l1,l2]at hx;simp at hx;omega
  simp[this]
 have aH:xs.length=ys.length:=by rw[l1,l2]at hx;simp at hx;omega
 refine⟨λi g=>∃(k:Nat) (M':Fr),i=(k:Int)/\k<=xs.length/\Later h M g M'/\((xs.zip ys).take k).all (λp=>q p.1 p.2)=true,λi _=>xs.length-i.toNat,⟨0,M,rfl,BP _,Later.refl ag,by simp⟩,?_⟩
 rintro i g ⟨k,M',rfl,hk,L,O⟩
 refine⟨λhc=>?_,λhc=>?_⟩
 ·have ah:k<xs.length:=by rw[l1]at hc;simp at hc;omega
  have az:k<ys.length:=by omega
  obtain⟨a,ck,ci,ea,aB,t1,t2⟩:=zfv L.ag (r1.mono L.le) ah
  refine⟨a,⟨ea,by omega,by omega⟩,xs[k].kind,xs[k].text,ck,ci,by rw[Ad];exact aB,?_⟩
  intro aa
  have aJ:Keep g.size g aa:=Keep.push _ _ (Ae _)
  have aI:Blk aa g.size (zc 0 ⟨#[]⟩ ⟨none,0,0⟩ ⟨none,0,0⟩).toArray:=Blk.new _ _ _
  have aS:aa.size=g.size+1:=Ai _
  clear_value aa
  refine qa aI rfl _ _ _ _ λZ aL aO aM=>?_
  have ar:Keep g.size g Z:=⟨by omega,λj hj=>by rw[aM j (by omega)];exact aJ.get j hj⟩
  have au:=L.ag.keep ar
  obtain⟨a2,dk,di,aC,ax,t3,t4⟩:=zfv au (r2.mono L.le) az
  refine⟨a2,⟨aC,by omega,by omega⟩,ys[k].kind,ys[k].text,dk,di,by rw[Ad];exact ax,?_⟩
  intro af
  have am:Keep Z.size Z af:=Keep.push _ _ (Ae _)
  have aD:Blk af Z.size (zc 0 ⟨#[]⟩ ⟨none,0,0⟩ ⟨none,0,0⟩).toArray:=Blk.new _ _ _
  have aP:af.size=Z.size+1:=Ai _
  clear_value af
  refine qa aD rfl _ _ _ _ λae aA aT ak=>?_
  have an:Blk ae g.size (zc xs[k].kind xs[k].text ck ci).toArray:=(aL.ofKeep am).keep (ak _ (by omega))
  have aN:Keep g.size g ae:=⟨by omega,λj hj=>by rw[ak j (by omega),am.get j (by omega)];exact ar.get j hj⟩
  have ac:Later h M ae M':=L.trans (Later.same L.ag aN)
  refine⟨xs[k].kind,xs[k].text,ck,ci,an.ld (cs:=zc xs[k].kind xs[k].text ck ci),ys[k].kind,ys[k].text,dk,di,aA.ld (cs:=zc ys[k].kind ys[k].text dk di),hF,?_⟩
  have ai:=(hp xs[k] (Ao ah) ys[k] (Ao az)).px (h:=ae) (M:=M') (vs:=[.agg #[.int .i64 xs[k].kind,.string xs[k].text,slV ck,slV ci],.agg #[.int .i64 ys[k].kind,.string ys[k].text,slV dk,slV di]]) (hM.trans ac.le) ac.ag (yo (yd t1 t2) (yo (yd t3 t4) ww))
  refine ai.go λw aQ ay r al ap hr=>?_
  have hr:r=q xs[k] ys[k]:=hr
  subst hr
  have aj:(xs.zip ys).take (k+1)=(xs.zip ys).take k++[(xs[k],ys[k])]:=by
   rw[An (by simp;omega)];simp
  refine⟨q xs[k] ys[k],zay ap,λhf=>⟨ay,_,ac.trans al,zax.2 (rdBool _),?_⟩,λht=>?_⟩
  ·have aG:q xs[k] ys[k]=false:=by simpa using hf
   have:(xs.zip ys).all (λp=>q p.1 p.2)=false:=by
    rw[DK]
    exact⟨(xs[k],ys[k]),DU.2 ⟨k,by simp;omega,by simp⟩,by simp[aG]⟩
   rw[this,Ei]
  ·have aF:q xs[k] ys[k]=true:=by simpa using ht
   rw[yz ah (by omega)]
   refine⟨⟨k+1,ay,rfl,ah,ac.trans al,?_⟩,by simp only[Ad];omega⟩
   rw[aj,CV,O];simp[aF]
 ·have aE:k=xs.length:=by rw[l1]at hc;simp at hc;omega
  subst aE
  refine⟨M',_,L,zax.2 (rdBool _),?_⟩
  rw[AM (by simp;omega)]at O
  rw[O];simp[aH]
theorem zz0{l:List Bt}(h:l.Nodup){i j:Nat}(hi:i<l.length)(hj:j<l.length)(e:l[i]=l[j]):i=j:=by
 unfold List.Nodup at h
 rw[List.pairwise_iff_getElem]at h
 rcases Nat.lt_trichotomy i j with h1|h1|h1
 ·exact absurd e (h i j hi hj h1)
 ·exact h1
 ·exact absurd e.symm (h j i hj hi h1)
theorem zz1{a b:Bt}(h:A5 a=A5 b):a=b:=by injection h
theorem z3e(ks:List Bt)(us:List Value)(h:ks.length=us.length):(zjl (ks.zip us)).map (·.1)=ks.map A5:=by
 unfold zjl
 rw[List.map_map]
 have:(ks.zip us).map (λp=>A5 p.1)=(ks.zip us).unzip.1.map A5:=by simp
 show(ks.zip us).map (λp=>A5 p.1)=_
 rw[this,List.unzip_zip h]
theorem zz2{ks:List Bt}(h:ks.Nodup):(ks.map A5).Nodup:=by
 induction ks with
 |nil=>simp
 |cons k ks ih=>
  rw[Cv]at h
  rw[Dx,Cv]
  refine⟨λhm=>?_,ih h.2⟩
  obtain⟨x,hx,e⟩:=BR.1 hm
  exact h.1 (zz1 e ▸ hx)
set_option maxHeartbeats 2000000 in
theorem zz3(hF:ya Tp F=true){q:Tr->Tr->Bool}{ka kb:List Bt}{ua ub:List Value}(aE:ka.Nodup)(la:ka.length=xs.length)(bj:kb.length=ys.length)(bm:ua.length=xs.length)(bh:ub.length=ys.length)(ba:xs.length<=1000000000000/\ys.length<=1000000000000)
  (hp:∀x∈xs,∀y∈ys,PC Tp gl F [Arg.mk .tree x,Arg.mk .tree y] [.bool] (λr=>r=q x y)) {m1 m2:Nat} (hM:Fr.le gl M) (ag:AgM M h) (w1:MapW h m1 (zjl (ka.zip ua))) (w2:MapW h m2 (zjl (kb.zip ub)))
  (ra:∀i (h1:i<xs.length) (h2:i<ua.length),RdV M .tree xs[i] ua[i]) (rb:∀i (h1:i<ys.length) (h2:i<ub.length),RdV M .tree ys[i] ub[i]):
  PX Tp 166 #[.map (some m1),.map (some m2),.func (.func F) #[] #[]] h M [.bool] (λr=>r=(decide (xs.length=ys.length)&&(ka.zip xs).all λp=>zt2 kb ys q p.1 p.2)):=by
 apply PX.of
 apply qc (some m1) (some m2) F #[] #[]
 have L1:(zjl (ka.zip ua)).length=xs.length:=by unfold zjl;simp;omega
 have L2:(zjl (kb.zip ub)).length=ys.length:=by unfold zjl;simp;omega
 have ai:=zzu (P:=Tp) (ty:=3) mapVal.map w1
 have aj:=zzu (P:=Tp) (ty:=3) mapVal.map w2
 rw[L1]at ai
 rw[L2]at aj
 refine⟨xs.length,ai,ys.length,aj,λhx=>⟨M,_,Later.refl ag,zax.2 (rdBool _),?_⟩,λhx=>?_⟩
 ·have:¬xs.length=ys.length:=by simp at hx;omega
  simp[this]
 have aO:xs.length=ys.length:=by simp at hx;omega
 have be:=w1.lt
 have au:=w2.lt
 have aQ:((zjl (ka.zip ua)).map (·.1)).Nodup:=by rw[z3e _ _ (by omega)];exact zz2 aE
 refine z3b mapVal.map w1 λh4 z4 k4 aT=>⟨some ⟨h.size,0,none⟩,rfl,?_⟩
 refine⟨λg=>∃dn M',MapIt g h.size m1 (zjl (ka.zip ua)) dn/\Later h M g M'/\h.size<g.size/\∀i (h1:i<ka.length) (h2:i<xs.length),A5 ka[i]∈dn->zt2 kb ys q ka[i] xs[i]=true,λg=>leftN g h.size m1,
  ⟨[],M,aT,Later.same ag k4,by omega,λi _ _ hm=>by cases hm⟩,?_⟩
 rintro g ⟨dn,M',it,L,zg,aD⟩
 have kg:=L.keep
 refine z7y it aQ (by omega) (λaL=>.inl ⟨rfl,(λhc=>by cases hc),λ_=>⟨M',_,L,zax.2 (rdBool _),?_⟩⟩) λk u aC hk g1 a6 aI z1 f1 qbt=>.inr ⟨k,u,rfl,λ_=>?_,λhc=>by cases hc⟩
 ·have ax:((ka.zip xs).all λp=>zt2 kb ys q p.1 p.2)=true:=by
   rw[AU]
   intro p ar
   obtain⟨i,hi,e⟩:=A7 ar
   rw[List.length_zip,Nat.lt_min]at hi
   have:=aD i hi.1 hi.2 (aL (.string ka[i],ua[i]) (by
    unfold zjl
    refine BR.2 ⟨(ka[i],ua[i]),DU.2 ⟨i,by simp;omega,by simp⟩,rfl⟩))
   rw[<-e];simpa using this
  rw[ax];simp[aO]
 ·obtain⟨i,a8,aV,ek,eu⟩:∃i,∃(h1:i<ka.length) (h2:i<ua.length),k=.string ka[i]/\u=ua[i]:=by
   unfold zjl at aC
   obtain⟨p,ar,e⟩:=BR.1 aC
   obtain⟨i,hi,e2⟩:=A7 ar
   rw[List.length_zip,Nat.lt_min]at hi
   simp at e2
   injection e with e3 e4
   exact⟨i,hi.1,hi.2,by rw[<-e3,<-e2],by rw[<-e4,<-e2]⟩
  subst ek
  subst eu
  have aH:i<xs.length:=by omega
  have az:Keep h.size h g1:=⟨by omega,λj hj=>by rw[f1 j (by omega)];exact kg.get j hj⟩
  have ay:AgM M' g1:=λb c e=>by
   obtain⟨T,mm,e2⟩:=L.ag b c e
   by_cases hb:b=h.size
   ·subst hb
    obtain⟨_,_,_,_,_,e3,_⟩:=it
    rw[e3]at e2;cases e2
   ·exact⟨T,mm,by rw[f1 b hb];exact e2⟩
  refine z3c aI ⟨_,_,rfl,?_⟩
  intro ah
  have aU:Keep g1.size g1 ah:=Keep.push _ _ (Ae _)
  have aS:Blk ah g1.size (zc 0 ⟨#[]⟩ ⟨none,0,0⟩ ⟨none,0,0⟩).toArray:=Blk.new _ _ _
  have bn:ah.size=g1.size+1:=Ai _
  clear_value ah
  obtain⟨ck,ci,eu,t1,t2⟩:=yp (ra i aH aV)
  rw[eu]
  refine qa aS rfl _ _ _ _ λaa aN bo aY=>?_
  have an:Keep g1.size g1 aa:=⟨by omega,λj hj=>by rw[aY j (by omega)];exact aU.get j hj⟩
  have bc:=ay.keep an
  have aP:MapW aa m2 (zjl (kb.zip ub)):=w2.keep ((an.get _ (by omega)).trans (az.get _ au))
  have Z:=zhm mapVal aP.at ka[i] true
  simp only[if_true]at Z
  obtain⟨y,dk,di,hget,t3,t4,hm1⟩:∃(y:Tr) (dk di:Sl),z0l (kb.zip ub) ka[i] (.agg #[.int .i64 0,.string ⟨#[]⟩,.slice none 0 0,.slice none 0 0])=.agg #[.int .i64 y.kind,.string y.text,slV dk,slV di]/\RdV M .tree y (.agg #[.int .i64 y.kind,.string y.text,slV dk,slV di]) /\
    ((zee (kb.zip ub) ka[i]).isSome=true->y∈ys)/\zt2 kb ys q ka[i] xs[i]=((zee (kb.zip ub) ka[i]).isSome&&q xs[i] y):=by
   rcases zt4 ka[i] kb ub 0 (by omega)with⟨g1,g2⟩|⟨j,w,g1,g2,g3⟩
   ·refine⟨zT,⟨none,0,0⟩,⟨none,0,0⟩,by unfold z0l;rw[g2];rfl,?_,?_,?_⟩
    ·refine yd (v:=zT) ?_ ?_
     ·exact⟨_,rfl,none,0,rfl,⟨by simp[zT],by simp[zT]⟩,.inl rfl⟩
     ·exact⟨_,rfl,none,0,rfl,⟨by simp[zT],by simp[zT]⟩,.inl rfl⟩
    ·rw[g2];intro hc;cases hc
    ·rw[g2]
     unfold zt2 idxOfS
     rw[g1]
     simp
     split
     ·rfl
     ·rfl
   ·obtain⟨hj,ej⟩:=Ax.1 g2
    have am:j<ys.length:=by omega
    have hr:=rb j am hj
    rw[ej]at hr
    obtain⟨dk,di,ew,t3,t4⟩:=yp hr
    refine⟨ys[j],dk,di,by unfold z0l;rw[g3];exact ew,by rw[<-ew];exact hr,λ_=>Ao am,?_⟩
    rw[g3]
    unfold zt2 idxOfS
    rw[g1]
    simp[Aj am]
  rw[hget]at Z
  refine⟨y.kind,y.text,dk,di,(zee (kb.zip ub) ka[i]).isSome,Z,?_⟩
  intro af
  have aF:Keep aa.size aa af:=Keep.push _ _ (Ae _)
  have a1:Blk af aa.size (zc 0 ⟨#[]⟩ ⟨none,0,0⟩ ⟨none,0,0⟩).toArray:=Blk.new _ _ _
  have bq:af.size=aa.size+1:=Ai _
  clear_value af
  refine qa a1 rfl _ _ _ _ λO aZ bp aG=>?_
  have aM:Blk O g1.size (zc xs[i].kind xs[i].text ck ci).toArray:=(aN.ofKeep aF).keep (aG _ (by omega))
  have ac:Keep g1.size g1 O:=⟨by omega,λj hj=>by rw[aG j (by omega),aF.get j (by omega)];exact an.get j hj⟩
  have aA:Keep h.size h O:=az.trans ac (by omega)
  have ae:Later h M O M':=⟨aA,L.le,L.old,ay.keep ac⟩
  have aB:MapIt O h.size m1 (zjl (ka.zip ua)) (.string ka[i]::dn):=a6.keep (ac.get _ (by omega)) (ac.get _ (by omega))
  have ap:leftN O h.size m1<leftN g h.size m1:=by rw[leftN.keep (ac.get h.size (by omega)) (ac.get m1 (by omega))];exact qbt
  refine⟨xs[i].kind,xs[i].text,ck,ci,λ_=>aM.ld (cs:=zc xs[i].kind xs[i].text ck ci),y.kind,y.text,dk,di,λ_=>aZ.ld (cs:=zc y.kind y.text dk di),?_⟩
  have al:zt2 kb ys q ka[i] xs[i]=false->((ka.zip xs).all λp=>zt2 kb ys q p.1 p.2)=false:=λhf=>by
   rw[DK]
   exact⟨(ka[i],xs[i]),DU.2 ⟨i,by simp;omega,by simp⟩,by simp[hf]⟩
  refine⟨λw g2=>∃b M2,w=.bool b/\Later O M' g2 M2/\((zee (kb.zip ub) ka[i]).isSome=true->b=q xs[i] y),λhs=>⟨hF,?_⟩,λhs=>⟨true,true,M',rfl,Later.refl ae.ag,λhc=>by rw[hc]at hs;cases hs⟩,λ_ w g2 ⟨b,_,e,_⟩=>⟨b,e⟩,?_⟩
  ·have a7:(zee (kb.zip ub) ka[i]).isSome=true:=by simpa using hs
   have ak:=(hp xs[i] (Ao aH) y (t4 a7)).px (h:=O) (M:=M') (vs:=[.agg #[.int .i64 xs[i].kind,.string xs[i].text,slV ck,slV ci],.agg #[.int .i64 y.kind,.string y.text,slV dk,slV di]]) (hM.trans ae.le) ae.ag (yo (RdV.mono L.le (yd t1 t2)) (yo (RdV.mono L.le t3) ww))
   exact ak.go λw g2 M2 r L2 aJ hr=>⟨r,zay aJ,r,M2,rfl,L2,λ_=>hr⟩
  ·rintro b g2 ⟨b',M2,e,L2,hb⟩
   cases e
   refine⟨λhf=>⟨M2,_,ae.trans L2,zax.2 (rdBool _),?_⟩,λht=>⟨⟨_,M2,aB.keep (L2.keep.get _ (by omega)) (L2.keep.get _ (by omega)),ae.trans L2,by have:=L2.keep.size;omega,λi2 h1 h2 hm=>?_⟩,?_⟩⟩
   ·have:zt2 kb ys q ka[i] xs[i]=false:=by
     rw[hm1]
     cases hs:(zee (kb.zip ub) ka[i]).isSome with
     |false=>rfl
     |true=>
      rw[hs]at hf
      rw[<-hb hs]
      simpa using hf
    rw[al this,Ei]
   ·rcases Ag.1 hm with e|hm
    ·have e2:=zz1 e
     have:i2=i:=zz0 aE h1 a8 e2
     subst this
     rw[hm1]
     cases hs:(zee (kb.zip ub) ka[i2]).isSome with
     |false=>rw[hs]at ht;simp at ht
     |true=>
      rw[hs]at ht
      rw[<-hb hs]
      simpa using ht
    ·exact aD i2 h1 h2 hm
   ·show leftN g2 h.size m1<leftN g h.size m1
    rw[leftN.keep (L2.keep.get h.size (by omega)) (L2.keep.get m1 (by omega))];exact ap
end
section
variable {v a b:Tr} {gl:Fr} {R:Bool -> Prop}
theorem zfz:ya Tp 137=true:=by kernel_rfl
theorem zf0(a b:Bt):(a.toList==b.toList)=decide (a=b):=by
 rw[AB]
 simp only[ByteArray.toList_eq,beq_iff_eq,decide_eq_true_eq]
 constructor
 ·intro h
  cases a;cases b
  simpa using h
 ·intro h;rw[h]
theorem zqc(h:zw v=true)(h6:v.kind=6):v.keys.Nodup/\v.keys.length=v.items.length:=by
 refine⟨?_,xc h h6⟩
 unfold zw at h
 simp[h6]at h
 have:=h.1.1
 unfold jv at this
 rw[AI]at this
 simpa using this.2
set_option maxHeartbeats 1000000 in
theorem z8b:∀(n:Nat) (a b:Tr),tsz a<=n->Sm a->Sm b->Qk zw a=true->Qk zw b=true->∀{R:Bool->Prop},R (xa a b)->PC Tp gl 137 [Arg.mk .tree a,Arg.mk .tree b] [.bool] R:=by
 intro n
 induction n with
 |zero=>intro a _ h;have:=zb5 a;omega
 |succ n ih=>
  intro a b hn ha hb oa ob R hR h M vs hM ag ak
  match vs,ak with
  |[u1,u2],⟨ah,ai,_⟩=>
  have ah:RdV M .tree a u1:=ah
  have ai:RdV M .tree b u2:=ai
  obtain⟨sk,si,rfl,rk,ri⟩:=yp ah
  obtain⟨tk,ti,rfl,ap,af⟩:=yp ai
  obtain⟨li,_,_⟩:=rowLen ri
  obtain⟨am,_,_⟩:=rowLen af
  apply PX.of
  apply znk a.kind a.text sk si b.kind b.text tk ti
  intro h1 h2
  have k1:Keep h.size h h1:=Keep.push _ _ (Ae _)
  have k2:Keep h1.size h1 h2:=Keep.push _ _ (Ae _)
  have b1:Blk h1 h.size (zc a.kind a.text sk si).toArray:=Blk.new _ _ _
  have b2:Blk h2 h1.size (zc b.kind b.text tk ti).toArray:=Blk.new _ _ _
  have z1:h1.size=h.size+1:=Ai _
  have z2:h2.size=h1.size+1:=Ai _
  clear_value h1 h2
  have Z:=b1.ofKeep k2
  have kk:Keep h.size h h2:=k1.trans k2 (by omega)
  have L2:Later h M h2 M:=Later.same ag kk
  intro K5 aB
  have ac:∀x:Bool,(x=true->xa a b=false)->(x=false->a.kind=b.kind/\a.text=b.text/\a.items.length=b.items.length)->K5 x h2:=by
   intro x aD ar
   refine aB x h2 ⟨λhx=>⟨M,_,L2,zax.2 (rdBool _),?_⟩,λhx=>?_⟩
   ·rw[aD hx]at hR;exact hR
   obtain⟨e1,e2,e3⟩:=ar hx
   have aE:xa a b=(if a.kind=6 then zp7 a.keys a.items b else zp6 a.items b.items):=by rw[zal];simp[e1,e2,e3]
   rw[aE]at hR
   refine⟨a.kind,Z.cellAdd (by rfl),λh6=>?_,λh6=>?_⟩
   ·have O:¬a.kind=6:=by simpa using h6
    rw[if_neg O,zjb _ _ e3]at hR
    refine⟨si,Z.cellAdd (by rfl),ti,b2.cellAdd (by rfl),?_⟩
    refine(zzz (gl:=gl) zfz (q:=xa) (xs:=a.items) (ys:=b.items) (λx hx y hy=>ih x y (by have:=yh hx;omega) (ha.item hx) (hb.item hy) (yx oa hx) (yx ob hy) rfl) hM L2.ag ri af).go λw aH aC r L aa hr=>?_
    have hr:r=_:=hr
    subst hr
    refine⟨_,zay aa,aC,_,L2.trans L,zax.2 (rdBool _),?_⟩
    rw[e3];simpa using hR
   ·have O:a.kind=6:=by simpa using h6
    rw[if_pos O,zja _ _ _ (xc (qz oa) O)]at hR
    obtain⟨na,la⟩:=zqc (qz oa) O
    obtain⟨nb,lb⟩:=zqc (qz ob) (by rw[<-e1];exact O)
    refine⟨a.kind,a.text,sk,si,Z.ld (cs:=zc a.kind a.text sk si),b.kind,b.text,tk,ti,b2.ld (cs:=zc b.kind b.text tk ti),?_⟩
    refine zlq na la ha.items L2.ag (yd rk ri) λaF m1 ua aj aI ax ra w1=>⟨some m1,rfl,aj,?_⟩
    have ae:=L2.ag.keep aj
    refine zlq nb lb hb.items ae (yd ap af) λay m2 ub al aJ au rb w2=>⟨some m2,rfl,?_⟩
    have an:Later h M ay M:=(L2.trans (Later.same L2.ag aj)).trans (Later.same ae al)
    refine(zz3 (gl:=gl) zfz (q:=xa) na la lb ax au ⟨ha.items,hb.items⟩ (λx hx y hy=>ih x y (by have:=yh hx;omega) (ha.item hx) (hb.item hy) (yx oa hx) (yx ob hy) rfl) hM an.ag (w1.keep (al.get _ w1.lt)) w2 ra rb).go λw aG az r L aa hr=>?_
    have hr:r=_:=hr
    subst hr
    refine⟨_,zay aa,az,_,an.trans L,zax.2 (rdBool _),?_⟩
    rw[e3];simpa using hR
  refine⟨a.kind,Z.cellAdd (by rfl),b.kind,b2.cellAdd (by rfl),λhk=>ac _ (λ_=>?_) (λhc=>?_),λhk=>?_⟩
  ·rw[zal]
   have:¬a.kind=b.kind:=by simpa using hk
   simp[this]
  ·rw[hk]at hc;cases hc
  have aA:a.kind=b.kind:=by simpa using hk
  refine⟨a.text,Z.cellAdd (by rfl),b.text,b2.cellAdd (by rfl),λht=>ac _ (λ_=>?_) (λhc=>?_),λht=>⟨si,Z.cellAdd (by rfl),ti,b2.cellAdd (by rfl),ac _ (λhc=>?_) (λhc=>?_)⟩⟩
  ·rw[zal]
   have:¬a.text=b.text:=by rw[zf0]at ht;simpa using ht
   simp[this]
  ·rw[ht]at hc;cases hc
  ·rw[zal]
   have:¬a.items.length=b.items.length:=by rw[li,am]at hc;simp at hc;omega
   simp[this]
  ·have:a.text=b.text:=by rw[zf0]at ht;simpa using ht
   exact⟨aA,this,by rw[li,am]at hc;simp at hc;omega⟩
theorem z8c(hg:GL gl)(ha:Sm a)(hb:Sm b)(h:R (qm a&&(qm b&&xa a b))):PC Tp gl 105 [Arg.mk .tree a,Arg.mk .tree b] [.bool] R:=by
 apply znj
 simp only[qj]
 refine ziz hg ha ⟨λr=>r=qm b,λ_=>ziz hg hb rfl,λr hr=>⟨λx=>x=xa a b,λhc=>?_,λx hx=>?_⟩⟩
 ·cases h1:qm a with
  |false=>rw[h1]at hc;cases hc
  |true=>
   rw[h1,cond_true]at hc
   have h2:=hr h1
   rw[hc]at h2
   exact z8b _ a b (Ae _) ha hb (xd h1) (xd h2.symm) rfl
 ·cases h1:qm a with
  |false=>rw[h1]at h;exact h
  |true=>
   rw[h1]at h hx
   have h2:=hr h1
   subst h2
   simp only[cond_true,Bf]at h hx ⊢
   cases h3:qm b with
   |false=>rw[h3]at h;exact h
   |true=>rw[h3]at h hx;rw[cond_true,hx rfl];exact h
theorem zf1{keys:List Bt}{x:Bt}{k:Nat}(hk:k<keys.length):idxFromS (keys.drop k) x k=if keys[k]=x then(k:Int)else idxFromS (keys.drop (k+1)) x (k+1):=by
 rw[AC hk,idxFromS]
theorem qaj{key:Bt}(hn:v.keys.length<=1000000000){R:Int->Prop}(h:R (idxOfS v.keys key)):PC Tp gl 126 [Arg.mk .tree v,Arg.mk .str key] [.int .i64] R:=by
 apply zgk
 refine⟨λi=>∃k:Nat,i=k/\k<=v.keys.length/\idxOfS v.keys key=idxFromS (v.keys.drop k) key k,λi=>v.keys.length-i.toNat,⟨0,rfl,BP _,by rw[AQ];rfl⟩,?_⟩
 rintro i ⟨k,rfl,hk,e⟩
 refine⟨λhc=>?_,λhc=>?_⟩
 ·have O:k<v.keys.length:=by simp at hc;omega
  refine⟨v.keys[k],⟨by omega,by rw[Ad,Aj O]⟩,λhe=>?_,λhe=>?_⟩
  ·rw[zf0]at he
   rw[e,zf1 O,if_pos (by simpa using he)]at h;exact h
  ·rw[zf0]at he
   rw[zf1 O,if_neg (by simpa using he)]at e
   rw[yz O (by omega)]
   exact⟨⟨k+1,rfl,O,e⟩,by simp only[Ad];omega⟩
 ·have O:k=v.keys.length:=by simp at hc;omega
  subst O
  rw[BC,idxFromS]at e
  rw[e]at h;exact h
def pairT(a b:Tr)(i:Nat)(x:Tr):Bool:=if a.kind=6 then(match a.keys[i]? with
 |some k=>zt2 b.keys b.items xa k x
 |none=>false)else(match b.items[i]? with
 |some y=>xa x y
 |none=>false)
theorem zf2{α β:Type}{p:α×β->Bool}{xs:List α}{ys:List β}(h:xs.length=ys.length):(xs.zip ys).all p=true↔∀i (h1:i<xs.length) (h2:i<ys.length),p (xs[i],ys[i])=true:=by
 rw[AU]
 constructor
 ·intro H i h1 h2
  exact H _ (DU.2 ⟨i,by simp;omega,by simp⟩)
 ·intro H x hx
  obtain⟨i,hi,e⟩:=A7 hx
  rw[List.length_zip,Nat.lt_min]at hi
  have:=H i hi.1 hi.2
  rw[<-e];simpa using this
theorem zvx(ok:Qk zw a=true)(h1:a.kind=b.kind)(h2:a.text=b.text)(h3:a.items.length=b.items.length):xa a b=true↔∀i (hi:i<a.items.length),pairT a b i a.items[i]=true:=by
 have e:xa a b=(if a.kind=6 then zp7 a.keys a.items b else zp6 a.items b.items):=by rw[zal];simp[h1,h2,h3]
 rw[e]
 unfold pairT
 split
 ·rename_i h6
  have hl:=xc (qz ok) h6
  rw[zja _ _ _ hl,zf2 hl]
  constructor
  ·intro H i hi
   rw[Aj (by omega)]
   exact H i (by omega) hi
  ·intro H i hi O
   have:=H i O
   rw[Aj hi]at this
   exact this
 ·rw[zjb _ _ h3,zf2 h3]
  constructor
  ·intro H i hi
   rw[Aj (by omega)]
   exact H i hi (by omega)
  ·intro H i hi O
   have:=H i hi
   rw[Aj O]at this
   exact this
set_option maxHeartbeats 1000000 in
theorem z3f:∀(n:Nat) (a b:Tr),tsz a<=n->Sm a->Sm b->Qk zw a=true->Qk zw b=true->∀{R:Bool->Prop},R (xa a b)->PC Tp gl 111 [Arg.mk .tree a,Arg.mk .tree b] [.bool] R:=by
 intro n
 induction n with
 |zero=>intro a _ h;have:=zb5 a;omega
 |succ n ih=>
  intro a b hn ha hb oa ob R hR
  apply zd5
  have al:=ha.items
  have ar:=hb.keys
  refine⟨λhc=>?_,λhc=>?_⟩
  ·have:xa a b=false:=by
    rw[zal]
    rw[zf0]at hc
    simp only[Bh,Cw,bne_iff_ne,Ce,decide_eq_false_iff_not,ne_eq]at hc
    rcases hc with(h|h)|h
    ·simp[h]
    ·simp[h]
    ·have:¬a.items.length=b.items.length:=by omega
     simp[this]
   rw[this]at hR;exact hR
  rw[zf0]at hc
  obtain⟨e1,e2,e3⟩:a.kind=b.kind/\a.text=b.text/\a.items.length=b.items.length:=by
   simp only[Bh,B8,bne_eq_false_iff_eq,Bool.not_eq_false',decide_eq_true_eq]at hc
   exact⟨hc.1.1,hc.1.2,by omega⟩
  have key:=zvx oa e1 e2 e3
  refine⟨λi=>∃k:Nat,i=k/\k<=a.items.length/\∀j (hj:j<a.items.length),j<k->pairT a b j a.items[j]=true,λi=>a.items.length-i.toNat,⟨0,rfl,BP _,λj _ hj=>by omega⟩,?_⟩
  rintro i ⟨k,rfl,hk,ac⟩
  refine⟨λhc=>?_,λhc=>?_⟩
  ·have O:k<a.items.length:=by simp at hc;omega
   have Z:pairT a b k a.items[k]=false->R false:=λhf=>by
    have:xa a b=false:=by
     rw[DF]
     intro ht
     rw[key.1 ht k O]at hf;cases hf
    rw[this]at hR;exact hR
   intro K hK
   have step:∀(i:Int),(i<0->pairT a b k a.items[k]=false)->(∀j:Nat,i=(j:Int)->∃hj:j<b.items.length,pairT a b k a.items[k]=xa a.items[k] b.items[j])->K i:=by
    intro i h1 h2
    refine hK i ⟨λae=>Z (h1 (by simpa using ae)),λai=>?_⟩
    have ah:0<=i:=by simpa using ai
    obtain⟨hj,e⟩:=h2 i.toNat (by omega)
    refine⟨a.items[k],⟨by omega,by rw[Ad,Aj O]⟩,b.items[i.toNat],⟨ah,by rw[Aj hj]⟩,?_⟩
    simp only[qj]
    refine ih _ _ (by have:=yh (Ao O);omega) (ha.item (Ao O)) (hb.item (Ao hj)) (yx oa (Ao O)) (yx ob (Ao hj)) ⟨λhf=>?_,λht=>?_⟩
    ·refine Z (by rw[e];simpa using hf)
    ·have aj:xa a.items[k] b.items[i.toNat]=true:=by simpa using ht
     rw[yz O (by omega)]
     refine⟨⟨k+1,rfl,O,λj ak am=>?_⟩,by simp only[Ad];omega⟩
     by_cases af:j=k
     ·subst af;rw[e];exact aj
     ·exact ac j ak (by omega)
   refine⟨λh6=>?_,λh6=>?_⟩
   ·have aa:a.kind=6:=by simpa using h6
    have hl:=xc (qz oa) aa
    have ap:=xc (qz ob) (by rw[<-e1];exact aa)
    refine⟨a.keys[k],⟨by omega,by rw[Ad,Aj (by omega)]⟩,?_⟩
    simp only[qj]
    have ep:pairT a b k a.items[k]=zt2 b.keys b.items xa a.keys[k] a.items[k]:=by
     unfold pairT
     rw[if_pos aa,Aj (by omega)]
    refine qaj (by omega) (step _ (λae=>?_) λj hj=>?_)
    ·rw[ep];unfold zt2
     split
     ·have:¬0<=idxOfS b.keys a.keys[k]:=by omega
      simp[this]
     ·rfl
    ·have an:=zzv hj
     refine⟨by omega,?_⟩
     rw[ep];unfold zt2
     rw[hj,Ad,Aj (by omega)]
     simp
   ·have aa:¬a.kind=6:=by simpa using h6
    refine step _ (λae=>by omega) λj hj=>?_
    have:j=k:=by omega
    subst this
    refine⟨by omega,?_⟩
    unfold pairT
    rw[if_neg aa,Aj (by omega)]
  ·have O:k=a.items.length:=by simp at hc;omega
   subst O
   have:xa a b=true:=key.2 λi hi=>ac i hi hi
   rw[this]at hR;exact hR
theorem zz4(hg:GL gl)(ha:Sm a)(hb:Sm b)(h:R (qm a&&(qm b&&xa a b))):PC Tp gl 72 [Arg.mk .tree a,Arg.mk .tree b] [.bool] R:=by
 apply zd4
 simp only[qj]
 refine zgw hg ha (zgw hg hb ⟨λx=>x=xa a b,λhc=>?_,λx hx=>?_⟩)
 ·cases h1:qm a with
  |false=>rw[h1]at hc;cases hc
  |true=>
   rw[h1,cond_true]at hc
   exact z3f _ a b (Ae _) ha hb (xd h1) (xd hc) rfl
 ·cases h1:qm a with
  |false=>rw[h1]at h;exact h
  |true=>
   rw[h1]at h hx
   simp only[cond_true,Bf]at h hx ⊢
   cases h3:qm b with
   |false=>rw[h3]at h;exact h
   |true=>rw[h3]at h hx;rw[cond_true,hx rfl];exact h
end
section
variable {h:zb} {M gl:Fr} {v:Tr} {rb:Nat} {D:List Nat} {o:OpT} {u:Value} {K:Value -> zb -> Prop}
theorem z8d{xs ys:List Bt}{s1 s2:Sl}(ag:AgM M h)(r1:Rd M (.row .str) xs [slV s1])(r2:Rd M (.row .str) ys [slV s2]):XC Tp 104 #[slV s1,slV s2] h λv h'=>v=.bool (decide (xs=ys))/\h'=h:=by
 obtain⟨l1,n1,_⟩:=rowLen r1
 obtain⟨l2,n2,_⟩:=rowLen r2
 apply Qu s1 s2
 refine⟨λhc=>⟨?_,rfl⟩,λhc=>?_⟩
 ·have:¬xs=ys:=λe=>by rw[l1,l2,e]at hc;simp at hc
  simp[this]
 have aa:xs.length=ys.length:=by rw[l1,l2]at hc;simp at hc;omega
 refine⟨λi g=>∃k:Nat,i=k/\k<=xs.length/\g=h/\xs.take k=ys.take k,λi _=>xs.length-i.toNat,⟨0,rfl,BP _,rfl,by simp⟩,?_⟩
 rintro i g ⟨k,rfl,hk,rfl,he⟩
 refine⟨λhc=>?_,λhc=>?_⟩
 ·have h1:k<xs.length:=by rw[l1]at hc;simp at hc;omega
  have h2:k<ys.length:=by omega
  refine zbo ag r1 h1 rfl rfl (zbo ag r2 h2 rfl rfl ⟨λhf=>⟨?_,rfl⟩,λht=>?_⟩)
  ·rw[zf0]at hf
   have:¬xs=ys:=λe=>by subst e;simp at hf
   simp[this]
  ·rw[zf0]at ht
   have O:xs[k]=ys[k]:=by simpa using ht
   rw[yz h1 (by omega)]
   exact⟨⟨k+1,rfl,h1,rfl,by rw[An h1,An h2,he,O]⟩,by simp only[Ad];omega⟩
 ·have Z:k=xs.length:=by rw[l1]at hc;simp at hc;omega
  subst Z
  refine⟨?_,rfl⟩
  rw[AE,AM (by omega)]at he
  simp[he]
set_option maxHeartbeats 2000000 in
theorem zz5(hg:GL gl)(A:At gl v h M rb D)(hp:SL o.2.1)(hw:Sm o.2.2.2)(ho:qm o.2.2.2=true)(hv:qm v=true)(hu:RdV M Yt o u)
  (hK:Res h rb D (match qb v o.2.1 with
   |none=>(zT,8)
   |some x=>if xa x o.2.2.2 then(v,0)else(zT,9)) K):
  XC Tp 64 #[.pointer (some ⟨rb,0,none⟩),u] h K:=by
 obtain⟨sp,sf,sk,si,rfl,r1,r2,r3⟩:=z2x hu
 apply zch (some ⟨rb,0,none⟩) o.1 sp sf o.2.2.2.kind o.2.2.2.text sk si
 intro h1
 have k1:Keep h.size h h1:=Keep.push _ _ (Ae _)
 have b1:Blk h1 h.size (qg o.1 sp sf o.2.2.2 sk si).toArray:=Blk.new _ _ _
 have z1:h1.size=h.size+1:=Ai _
 clear_value h1
 have A1:=A.keep k1
 refine⟨sp,b1.cellAdd (by rfl),?_⟩
 refine A1.at hg hp r1 (λhn h4 k4=>⟨none,rfl,(λ_=>?_),λhc=>by cases hc⟩) λx hx h4 pa k4 plc=>⟨some pa,rfl,(λhc=>by cases hc),λ_=>?_⟩
 ·rw[hn]at hK
  exact za6 hK (by simp) (k1.trans k4 (by omega))
 rw[hx]at hK
 simp only at hK
 have A4:=A1.keep k4
 have z4:=k4.size
 have ak:Keep h.size h h4:=k1.trans k4 (by omega)
 obtain⟨xk,xi,bx,ah,ot,ap,_⟩:=Plc.ld plc
 have an:=ot.lt
 refine⟨pa,rfl,x.kind,x.text,xk,xi,ah,o.2.2.2.kind,o.2.2.2.text,sk,si,?_,xa x o.2.2.2,λaj aa=>?_,λac al=>?_⟩
 ·rw[zo];exact zj7 (b1.ofKeep k4) (vs:=zf o.2.2.2 sk si) (o:=0+3) (i:=0) rfl
 ·have Z:=A4.ag.keep aa
  have af:OT aj x bx (zf x xk xi):=ot.frame λc hc=>aa.get c (an c hc)
  have hs:PC Tp gl 105 [Arg.mk .tree x,Arg.mk .tree o.2.2.2] [.bool] (λr=>r=xa x o.2.2.2):=z8c hg (A4.find_sm hx) hw (by rw[Ya hv hx,ho];rfl)
  refine(hs.go (vs:=[.agg #[.int .i64 x.kind,.string x.text,slV xk,slV xi],.agg #[.int .i64 o.2.2.2.kind,.string o.2.2.2.text,slV sk,slV si]]) (A4.le.trans (Y7 Z bx)) (MxL.ag Z bx) (yo af.rdv (yo (RdV.mono (Y7 Z bx) r3) ww)) λw h' M' r L ae hr=>?_)
  have hr:r=_:=hr
  subst hr
  exact⟨zay ae,L.keep⟩
 ·have O:Keep h.size h ac:=ak.trans al (by omega)
  refine⟨λhf=>?_,λht=>?_⟩
  ·have am:xa x o.2.2.2=false:=by simpa using hf
   rw[am]at hK
   exact za6 hK (by simp) O
  ·have ai:xa x o.2.2.2=true:=by simpa using ht
   rw[ai]at hK
   refine hK ac D (λ_=>A.doc.keep λc hc=>O.get c (A.doc.lt c hc)) ⟨O.size,λc q1 _ _=>O.get c q1,λc hc=>.inl hc⟩
theorem zz6{p f:List Bt}:(f=p.take f.length/\f.length<=p.length)↔(f.length<=p.length/\p.take f.length=f):=⟨λh=>⟨h.2,h.1.symm⟩,λh=>⟨h.2.symm,h.1⟩⟩
set_option maxHeartbeats 4000000 in
theorem zz7(hg:GL gl)(A:At gl v h M rb D)(aQ:∀b cs,M b=some cs->b≠rb/\b∉D)(hp:SL o.2.1)(hf:SL o.2.2.1)(hv:qm v=true)(hu:RdV M Yt o u)
  (hK:Res h rb D (match qb v o.2.2.1 with
   |none=>(zT,8)
   |some y=>if o.2.2.1=o.2.1.take o.2.2.1.length/\o.2.2.1.length<=o.2.1.length then(if o.2.2.1.length<o.2.1.length then(zT,1)else(v,0))else zd9 (zi9 (zgy v o.2.2.1) o.2.1 y)) K):
  XC Tp 62 #[.pointer (some ⟨rb,0,none⟩),u] h K:=by
 obtain⟨sp,sf,sk,si,rfl,r1,r2,r3⟩:=z2x hu
 have rp:Rd M (.row .str) o.2.1 [slV sp]:=by rw[zjj rfl]at r1;exact r1
 have rf:Rd M (.row .str) o.2.2.1 [slV sf]:=by rw[zjj rfl]at r2;exact r2
 obtain⟨lp,np,cp⟩:=rowLen rp
 obtain⟨lf,nf,cf⟩:=rowLen rf
 apply zcf (some ⟨rb,0,none⟩) o.1 sp sf o.2.2.2.kind o.2.2.2.text sk si
 intro h1
 have k1:Keep h.size h h1:=Keep.push _ _ (Ae _)
 have b1:Blk h1 h.size (qg o.1 sp sf o.2.2.2 sk si).toArray:=Blk.new _ _ _
 have z1:h1.size=h.size+1:=Ai _
 clear_value h1
 have A1:=A.keep k1
 refine⟨sf,b1.cellAdd (by rfl),?_⟩
 refine A1.at hg hf r2 (λhn h4 k4=>⟨none,rfl,sf,(b1.ofKeep k4).cellAdd (by rfl),(λ_=>?_),λhc=>by cases hc⟩) λy hy h4 pa k4 plc=>⟨some pa,rfl,sf,(b1.ofKeep k4).cellAdd (by rfl),(λhc=>by cases hc),λ_=>?_⟩
 ·rw[hn]at hK
  exact za6 hK (by simp) (k1.trans k4 (by omega))
 rw[hy]at hK
 simp only at hK
 have A4:=A1.keep k4
 have z4:=k4.size
 have am:Keep h.size h h4:=k1.trans k4 (by omega)
 have b4:=b1.ofKeep k4
 have a1:=A.doc.lt rb (.inl rfl)
 obtain⟨yk,yi,bx,aO,ot,aY,_⟩:=Plc.ld plc
 refine⟨sp,b4.cellAdd (by rfl),sp,(λ_=>b4.cellAdd (by rfl)),.inr ⟨_,rfl⟩,(λhc=>⟨by omega,by omega,?_,by omega⟩),sf,(λ_=>b4.cellAdd (by rfl)),decide (o.2.1.take o.2.2.1.length=o.2.2.1),(λhc=>?_),?_⟩
 ·simp at hc;omega
 ·have ah:o.2.2.1.length<=o.2.1.length:=by simp at hc;omega
  have au:=zns rp ah
  rw[zjj rfl]at au
  have aC:(o.2.1.take o.2.2.1.length).length=o.2.2.1.length:=by rw[AL];omega
  rw[<-lf]at au aC
  have hq:=z8d (h:=h4) (s1:=⟨sp.a,sf.len,sp.cap⟩) (A4.ag) au rf
  rw[lf]at hq
  simp only[Ad,BV,BK,Z9]
  rw[<-lf]at hq
  rw[<-lf]
  exact hq
 have aJ:(bif (decide (((sp.len:Nat):Int)>=((sf.len:Nat):Int)))then decide (o.2.1.take o.2.2.1.length=o.2.2.1)else false)=decide (o.2.2.1=o.2.1.take o.2.2.1.length/\o.2.2.1.length<=o.2.1.length):=by
  rw[AB]
  simp only[Ba,AI,decide_eq_true_eq]
  rw[zz6]
  exact⟨λh=>⟨by omega,h.2⟩,λh=>⟨by omega,h.2⟩⟩
 rw[aJ]
 refine⟨λhc=>?_,λhc=>?_⟩
 ·have ah:=of_decide_eq_true hc
  rw[if_pos ah]at hK
  refine⟨sp,b4.cellAdd (by rfl),λhl=>?_,λhl=>?_⟩
  ·rw[if_pos (by rw[lp,lf]at hl;simp at hl;omega)]at hK
   exact za6 hK (by simp) am
  ·rw[if_neg (by rw[lp,lf]at hl;simp at hl;omega)]at hK
   exact hK h4 D (λ_=>A4.doc) ⟨am.size,λc q1 _ _=>am.get c q1,λc hc=>.inl hc⟩
 ·have ah:=of_decide_eq_false hc
  rw[if_neg ah]at hK
  have an:o.2.2.1≠[]:=λe=>ah (by rw[e];simp)
  refine⟨pa,rfl,y.kind,y.text,yk,yi,aO,?_⟩
  have aA:=A4.find_sm hy
  refine zfc hg aA (Ya hv hy) (A4.le.trans (Y7 A4.ag bx)) (MxL.ag A4.ag bx) ot.rdv λaa bs ck ci aN ar aG=>⟨y.kind,y.text,ck,ci,rfl,?_⟩
  have a8:=aN.size
  intro al
  have aS:Keep aa.size aa al:=Keep.push _ _ (Ae _)
  have aU:Blk al aa.size (zc 0 ⟨#[]⟩ ⟨none,0,0⟩ ⟨none,0,0⟩).toArray:=Blk.new _ _ _
  have a6:al.size=aa.size+1:=Ai _
  clear_value al
  refine qa aU rfl _ _ _ _ λai aT a7 aP=>?_
  have aD:Keep aa.size aa ai:=⟨by omega,λj hj=>by rw[aP j (by omega)];exact aS.get j hj⟩
  have ae:Keep h4.size h4 ai:=aN.trans aD (by omega)
  have ap:Keep h.size h ai:=am.trans ae (by omega)
  have Z:=A4.keep ae
  have ak:OT ai y bs (zf y ck ci):=ar.frame λc hc=>aD.get c (ar.lt c hc)
  have ac:=A4.out aG
  refine⟨sf,(b4.ofKeep ae).cellAdd (by rfl),?_⟩
  refine zp8 hg Z.sm Z.ok hf Z.le Z.ag Z.doc r2 (λan hl=>?_) (λy hy=>zgz Z.sz hy) (λh0=>absurd h0 an) λz j hl hz hj aZ aj D' aM tn=>⟨0,rfl,(λhx=>by simp at hx),λ_=>?_⟩
  ·obtain⟨z,q1,k,q2,q3⟩:=zaj an hy
   exact⟨z,q1,by rw[Xw hl,q2];omega⟩
  have aH:zgy v o.2.2.1=Qh v (o.2.2.1.take (o.2.2.1.length-1)) (zgx z j):=by
   unfold zgy Yp
   rw[hz]
   simp only
   rw[<-Xw hl,hj];rfl
  rw[<-aH]at aM
  have zt:=tn.size
  have O:∀c,c<ai.size->c≠rb->c∉D->aj[c]?=ai[c]?:=tn.old
  have az:∀c∈D,c<h.size:=λc hc=>A.doc.lt c (.inr hc)
  have af:At gl (zgy v o.2.2.1) aj M rb D':=by
   refine⟨A.le,λb c e=>?_,aM,?_,znw A.ok an hy,by have:=zfh v o.2.2.1;have:=A.sz;omega⟩
   ·have hb:=Z.ag.lt e
    obtain⟨q1,q2⟩:=aQ b c e
    obtain⟨T,mm,e2⟩:=Z.ag b c e
    exact⟨T,mm,by rw[O b hb q1 q2];exact e2⟩
   ·exact⟨by have:=zfh v o.2.2.1;have:=A.sm.sz;omega,znr A.sm.tx _⟩
  have aF:Blk aj h.size (qg o.1 sp sf o.2.2.2 sk si).toArray:=(b4.ofKeep ae).keep (O _ (by omega) (by omega) (λhm=>by have:=az _ hm;omega))
  have aB:Blk aj aa.size (zc y.kind y.text ck ci).toArray:=aT.keep (O _ (by omega) (by omega) (λhm=>by have:=az _ hm;omega))
  have aI:OT aj y bs (zf y ck ci):=ak.frame λc hc=>O c (ak.lt c hc) (ac c hc).1 (ac c hc).2
  have aE:∀c∈bs,c≠rb/\c∉D':=λc hc=>⟨(ac c hc).1,λhm=>by
   rcases tn.own c hm with q|q|q
   ·exact(ac c hc).2 q
   ·cases q
   ·have:=ak.lt c hc;omega⟩
  refine⟨sp,aF.cellAdd (by rfl),y.kind,y.text,ck,ci,aB.ld (cs:=zc y.kind y.text ck ci),?_⟩
  refine z4m hg af.sm af.ok hp af.le af.ag af.doc r1 aI aE (λx hx=>zgz af.sz hx) (λhn h' k'=>⟨8,rfl,?_⟩) λt ht h' aV ay ax=>⟨0,rfl,?_⟩
  ·rw[hn]at hK
   refine hK h' [] (λe=>by simp[zd9]at e) ⟨by have:=k'.size;omega,λc q1 q2 q3=>?_,λc hc=>by cases hc⟩
   rw[k'.get c (by omega),O c (by omega) q2 q3];exact ap.get c q1
  ·rw[ht]at hK
   refine hK h' aV (λ_=>ay) ⟨by have:=ax.size;omega,λc q1 q2 q3=>?_,λc hc=>?_⟩
   ·have aL:c∉D':=λhm=>by
     rcases tn.own c hm with q|q|q
     ·exact q3 q
     ·cases q
     ·omega
    rw[ax.old c (by omega) q2 aL,O c (by omega) q2 q3];exact ap.get c q1
   ·rcases ax.own c hc with q|q|q
    ·rcases tn.own c q with q|q|q
     ·exact .inl q
     ·cases q
     ·exact .inr (.inr (by omega))
    ·exact .inr (.inr (by have:=aG c q;omega))
    ·exact .inr (.inr (by omega))
end
section
variable {gl M:Fr} {o:OpT} {R:Bool -> Prop}
theorem qak(s:Bt)(a:Array UInt8):(s.toList==(⟨a⟩:Bt).toList)=decide (lb s=a.toList):=by
 rw[AB];simp[ByteArray.toList_eq,lb]
structure OpS (o:OpT):Prop where
 p:SL o.2.1
 f:SL o.2.2.1
 v:Sm o.2.2.2
theorem z3h{s:Bt}{R:Bool×Bool×Bool->Prop}(h:R (qq (lb s))):PC Tp gl 36 [Arg.mk .str s] [.bool,.bool,.bool] R:=by
 apply zka
 simp only[qak]
 unfold qq zvt xx za4 zd7 zd8 Q4 at h
 intro K hK
 have yes:(lb s=[97,100,100]\/lb s=[114,101,112,108,97,99,101]\/lb s=[116,101,115,116])->K true:=λhc=>hK true ⟨λ_=>by rw[if_pos hc]at h;exact h,(λhc=>by cases hc)⟩
 have no:¬(lb s=[97,100,100]\/lb s=[114,101,112,108,97,99,101]\/lb s=[116,101,115,116])->K false:=λhc=>hK false ⟨(λhc=>by cases hc),λ_=>by
  rw[if_neg hc]at h
  refine⟨λh1=>⟨λ_=>?_,λh2=>?_⟩,λh1=>⟨λh2=>?_,λh2=>?_⟩⟩
  ·rw[if_pos (.inl (by simpa using h1))]at h;exact h
  ·rw[h1]at h2;cases h2
  ·rw[if_pos (.inr (by simpa using h2))]at h;exact h
  ·rw[if_neg (λhx=>by rcases hx with hx|hx <;> simp_all)]at h
   exact h⟩
 refine⟨λh1=>?_,λh1=>⟨λh2=>?_,λh2=>?_⟩⟩
 ·rw[h1];exact yes (.inl (by simpa using h1))
 ·rw[h2];exact yes (.inr (.inl (by simpa using h2)))
 ·cases h3:decide (lb s=#[116,101,115,116].toList)with
  |true=>exact yes (.inr (.inr (by simpa using h3)))
  |false=>exact no (by rintro(hx|hx|hx) <;> simp_all)
theorem z3i{s:Bt}{R:Bool×Bool×Bool->Prop}(h:R (qq (lb s))):PC Tp gl 39 [Arg.mk .str s] [.bool,.bool,.bool] R:=by
 apply zce
 simp only[qak]
 unfold qq zvt xx za4 zd7 zd8 Q4 at h
 intro K hK
 have yes:(lb s=[97,100,100]\/lb s=[114,101,112,108,97,99,101]\/lb s=[116,101,115,116])->K true:=λhc=>hK true ⟨λ_=>by rw[if_pos hc]at h;exact h,(λhc=>by cases hc)⟩
 have no:¬(lb s=[97,100,100]\/lb s=[114,101,112,108,97,99,101]\/lb s=[116,101,115,116])->K false:=λhc=>hK false ⟨(λhc=>by cases hc),λ_=>by
  rw[if_neg hc]at h
  refine⟨λh0=>?_,λh0=>⟨λh1=>⟨λ_=>?_,λh2=>?_⟩,λh1=>⟨λh2=>?_,λh2=>?_⟩⟩⟩
  ·have e:lb s=[114,101,109,111,118,101]:=by simpa using h0
   rw[e]at h;exact h
  ·rw[if_pos (.inl (by simpa using h1))]at h;exact h
  ·rw[h1]at h2;cases h2
  ·rw[if_pos (.inr (by simpa using h2))]at h;exact h
  ·rw[if_neg (λhx=>by rcases hx with hx|hx <;> simp_all)]at h
   have:decide (lb s=[114,101,109,111,118,101])=false:=by simpa using h0
   rw[this]at h
   exact h⟩
 refine⟨λh1=>?_,λh1=>⟨λh2=>?_,λh2=>?_⟩⟩
 ·rw[h1];exact yes (.inl (by simpa using h1))
 ·rw[h2];exact yes (.inr (.inl (by simpa using h2)))
 ·cases h3:decide (lb s=#[116,101,115,116].toList)with
  |true=>exact yes (.inr (.inr (by simpa using h3)))
  |false=>exact no (by rintro(hx|hx|hx) <;> simp_all)
theorem zqd(hg:GL gl)(ho:OpS o)(h:R (ja o)):PC Tp gl 17 [Arg.mk Yt o] [.bool] R:=by
 apply zj9
 refine z3h ?_
 simp only[qj]
 intro K hK
 have no:ja o=false->K true:=λhf=>hK true ⟨λ_=>by rw[hf]at h;exact h,(λhc=>by cases hc)⟩
 refine⟨λh1=>?_,λh1=>?_⟩
 ·rw[h1]
  exact no (by unfold ja;simp at h1;simp[h1])
 have Z:(qq (lb o.1)).2.2=true:=by simpa using h1
 refine zna hg ho.p ⟨λh2=>?_,λh2=>?_⟩
 ·rw[h2]
  exact no (by unfold ja;simp at h2;simp[h2])
 have O:qs o.2.1=true:=by simpa using h2
 refine zna hg ho.f ⟨λh3=>?_,λh3=>?_⟩
 ·rw[h3]
  exact no (by unfold ja;simp at h3;simp[h3])
 have aa:qs o.2.2.1=true:=by simpa using h3
 have e:(bif (!(qq (lb o.1)).2.1)then(decide (((Bm o.2.2.1:Nat):Int)>0))else false)=!((qq (lb o.1)).2.1||decide (o.2.2.1=[])):=by
  rw[AB]
  cases(qq (lb o.1)).2.1 with
  |true=>simp
  |false=>simp[BB]
 rw[e]
 cases h4:((qq (lb o.1)).2.1||decide (o.2.2.1=[]))with
 |false=>exact no (by unfold ja;rw[h4];simp)
 |true=>
  have hr:ja o=(bif (qq (lb o.1)).1 then qy o.2.2.2 else zi8 o.2.2.2):=by unfold ja;rw[Z,O,aa,h4];rfl
  rw[hr]at h
  refine hK false ⟨(λhc=>by cases hc),λ_=>⟨λh5=>?_,λh5=>?_⟩⟩
  ·rw[h5]at h;exact zea hg ho.v h
  ·rw[h5]at h;exact z7x (by have:=ho.v.keys;omega) ho.v.items h
theorem zlr(hg:GL gl)(ho:OpS o)(h:R (ja o)):PC Tp gl 18 [Arg.mk Yt o] [.bool] R:=by
 apply zcc
 refine z3i ?_
 simp only[qj]
 refine zd1 ho.p (zd1 ho.f ?_)
 have e:(bif (bif (bif (!(qq (lb o.1)).2.2)then true else(!qs o.2.1))then true else(!qs o.2.2.1))then true else(bif (!(qq (lb o.1)).2.1)then(decide (((Bm o.2.2.1:Nat):Int)>0))else false))=!((qq (lb o.1)).2.2&&(qs o.2.1&&(qs o.2.2.1&&((qq (lb o.1)).2.1||decide (o.2.2.1=[]))))):=by
  have e2:(decide (((Bm o.2.2.1:Nat):Int)>0))=!decide (o.2.2.1=[]):=by
   rw[AB];simp[BB]
  rw[e2]
  cases(qq (lb o.1)).2.2 <;> cases qs o.2.1 <;> cases qs o.2.2.1 <;> cases(qq (lb o.1)).2.1 <;> cases decide (o.2.2.1=[]) <;> rfl
 rw[e]
 cases h4:((qq (lb o.1)).2.2&&(qs o.2.1&&(qs o.2.2.1&&((qq (lb o.1)).2.1||decide (o.2.2.1=[])))))with
 |false=>
  refine⟨λ_=>?_,λhc=>by simp at hc⟩
  have:ja o=false:=by
   unfold ja
   cases h1:(qq (lb o.1)).2.2 <;> cases h2:qs o.2.1 <;> cases h3:qs o.2.2.1 <;> simp[h1,h2,h3]at h4 ⊢
   simp[h4]
  rw[this]at h;exact h
 |true=>
  refine⟨λhc=>by simp at hc,λ_=>?_⟩
  have hr:ja o=(bif (qq (lb o.1)).1 then qy o.2.2.2 else zi8 o.2.2.2):=by
   simp only[AI]at h4
   unfold ja
   rw[h4.1,h4.2.1,h4.2.2.1,h4.2.2.2];rfl
  rw[hr]at h
  refine⟨λh5=>?_,λh5=>?_⟩
  ·rw[h5]at h;exact zfi hg ho.v h
  ·rw[h5]at h;exact z2z h
theorem zz8{sp sf sk si:Sl}(r1:RdV M (.row .str) o.2.1 (slV sp))(r2:RdV M (.row .str) o.2.2.1 (slV sf))(r3:RdV M .tree o.2.2.2 (.agg (zf o.2.2.2 sk si).toArray)):RdV M Yt o (.agg (qg o.1 sp sf o.2.2.2 sk si).toArray):=by
 rw[zjj rfl]at r1 r2
 unfold RdV at r3 ⊢
 simp only[zcl,if_true]at r3 ⊢
 obtain⟨cs,e,r3⟩:=r3
 have e:zf o.2.2.2 sk si=cs:=by injection e with e;simpa using congrArg CH e
 subst e
 exact⟨qg o.1 sp sf o.2.2.2 sk si,rfl,[.string o.1],_,rfl,rfl,[slV sp],_,rfl,r1,[slV sf],_,rfl,r2,r3⟩
set_option maxHeartbeats 2000000 in
theorem zz9(hg:GL gl){v:Tr}{h:zb}{rb:Nat}{D:List Nat}(A:At gl v h M rb D)(az:∀b cs,M b=some cs->b≠rb/\b∉D)(hv:qy v=true)(ho:OpS o){u:Value}(hu:RdV M Yt o u){K:Value->zb->Prop}(hK:Res h rb D (wj v o) K):
  XC Tp 33 #[.pointer (some ⟨rb,0,none⟩),u] h K:=by
 have ov:=wb hv
 have af:=hu
 obtain⟨sp,sf,sk,si,rfl,r1,r2,r3⟩:=z2x hu
 apply zfg (some ⟨rb,0,none⟩) o.1 sp sf o.2.2.2.kind o.2.2.2.text sk si
 intro h1
 have k1:Keep h.size h h1:=Keep.push _ _ (Ae _)
 have b1:Blk h1 h.size (qg o.1 sp sf o.2.2.2 sk si).toArray:=Blk.new _ _ _
 have z1:h1.size=h.size+1:=Ai _
 clear_value h1
 have A1:=A.keep k1
 refine⟨o.1,sp,sf,o.2.2.2.kind,o.2.2.2.text,sk,si,b1.ld (cs:=qg o.1 sp sf o.2.2.2 sk si),?_⟩
 have an:PC Tp gl 17 [Arg.mk Yt o] [.bool] (λr=>r=ja o):=zqd hg ho rfl
 refine an.go (vs:=[.agg (qg o.1 sp sf o.2.2.2 sk si).toArray]) A1.le A1.ag (yo af ww) λw aj aY r au aC hr=>?_
 have hr:r=ja o:=hr
 subst hr
 have aa:Keep h.size h aj:=k1.trans au.keep (by omega)
 have ae:=A.keep aa
 have aF:=b1.ofKeep au.keep
 have aZ:=au.keep.size
 refine⟨ja o,zay aC,λhf=>?_,λht=>?_⟩
 ·have ay:ja o=false:=by simpa using hf
  have:wj v o=(zT,1):=by unfold wj;rw[ay];rfl
  rw[this]at hK
  exact za6 hK (by simp) aa
 have ac:ja o=true:=by simpa using ht
 have ai:wj v o=(if(doR v o).2=0 then(if qy (doR v o).1 then((doR v o).1,0)else(zT,1))else(zT,(doR v o).2)):=by unfold wj;rw[ac,if_pos rfl]
 have aO:∀s∈o.2.1,s.size<=1048576:=λs hs=>by rw[<-Js];exact ho.p.s s hs
 have aM:Sm (doR v o).1:=zzw A.sm ov ho.v (by have:=zjd ac;omega) aO
 intro aJ aD
 have Z:∀F,ya Tp F=true->(∀KK,Res aj rb D (doR v o) KK->XC Tp F #[.pointer (some ⟨rb,0,none⟩),.agg (qg o.1 sp sf o.2.2.2 sk si).toArray] aj KK)->aJ (.func (.func F) #[.pointer (some ⟨rb,0,none⟩)] #[]) aj:=by
  intro F hF hX
  refine aD _ aj ⟨o.1,sp,sf,o.2.2.2.kind,o.2.2.2.text,sk,si,aF.ld (cs:=qg o.1 sp sf o.2.2.2 sk si),hF,?_⟩
  refine hX _ λh' D' hD tn=>⟨(doR v o).2,rfl,λaS=>?_,λaP=>?_⟩
  ·have ap:(doR v o).2≠0:=by simpa using aS
   rw[ai,if_neg ap]at hK
   exact hK h' [] (λe=>absurd e ap) ⟨by have:=tn.size;have:=aa.size;omega,λc q1 q2 q3=>(tn.old c (by have:=aa.size;omega) q2 q3).trans (aa.get c q1),λc hc=>by cases hc⟩
  ·have ah:(doR v o).2=0:=by simpa using aP
   rw[ai,if_pos ah]at hK
   have aG:=hD ah
   have zt:=tn.size
   obtain⟨⟨cs,bd,aV,ot⟩,aU⟩:=aG
   obtain⟨dk,di,aH⟩:=ot.cells
   have aA:AgM M h':=λb c e=>by
    have hb:=ae.ag.lt e
    obtain⟨q1,q2⟩:=az b c e
    obtain⟨T,mm,e2⟩:=ae.ag b c e
    exact⟨T,mm,by rw[tn.old b hb q1 q2];exact e2⟩
   have aB:cs=(zf (doR v o).1 dk di).toArray:=by apply Dr;rw[aH];rfl
   rw[aH]at ot
   subst aB
   refine⟨⟨rb,0,none⟩,rfl,(doR v o).1.kind,(doR v o).1.text,dk,di,?_,?_⟩
   ·rw[zo];exact bd.ld (cs:=zf (doR v o).1 dk di)
   have aQ:PC Tp gl 21 [Arg.mk .tree (doR v o).1] [.bool] (λr=>r=qy (doR v o).1):=zea hg aM rfl
   refine aQ.go (vs:=[.agg #[.int .i64 (doR v o).1.kind,.string (doR v o).1.text,slV dk,slV di]]) (A.le.trans (Y7 aA D')) (MxL.ag aA D') (yo ot.rdv ww) λw2 ax a1 aL ar al ak=>?_
   have ak:aL=qy (doR v o).1:=ak
   subst ak
   have aT:=ar.keep.size
   have aE:Turn h ax rb D [] D':=⟨by have:=aa.size;omega,λc q1 q2 q3=>by
    have:=aa.size
    rw[ar.keep.get c (by omega),tn.old c (by omega) q2 q3];exact aa.get c q1,λc hc=>by
    rcases tn.own c hc with q|q|q
    ·exact .inl q
    ·cases q
    ·exact .inr (.inr (by have:=aa.size;omega))⟩
   refine⟨qy (doR v o).1,zay al,λhf=>?_,λaI=>?_⟩
   ·have ay:qy (doR v o).1=false:=by simpa using hf
    rw[if_neg (by rw[ay];simp)]at hK
    exact hK ax D' (λe=>by simp at e) aE
   ·have aN:qy (doR v o).1=true:=by simpa using aI
    rw[if_pos aN]at hK
    refine hK ax D' (λ_=>?_) aE
    have hd:Doc h' rb (doR v o).1 D':=hD ah
    exact hd.keep λc hc=>ar.keep.get c (hd.lt c hc)
 have am:(qq (lb o.1)).2.2=true:=by
  unfold ja at ac
  simp only[AI]at ac
  exact ac.1
 refine⟨o.1,?_,?_⟩
 ·rw[zo];exact aF.cell (by rfl)
 simp only[qak]
 refine⟨λc1=>?_,λc1=>⟨λc2=>?_,λc2=>⟨λc3=>?_,λc3=>⟨λc4=>?_,λc4=>⟨λc5=>?_,λc5=>?_⟩⟩⟩⟩⟩
 ·have e1:lb o.1=Q4:=of_decide_eq_true c1
  refine Z _ (by kernel_rfl) λKK O=>zr4 hg ae ho.p af ?_
  unfold doR at O;rw[if_pos e1]at O;exact O
 all_goals have n1:lb o.1≠Q4:=of_decide_eq_false c1
 ·have e2:lb o.1=xx:=of_decide_eq_true c2
  refine Z _ (by kernel_rfl) λKK O=>zqa hg ae ho.p ho.v (Ws ac (zeb (.inr (.inl e2)))) af ?_
  unfold doR at O;rw[if_neg n1,if_pos e2]at O;exact O
 all_goals have n2:lb o.1≠xx:=of_decide_eq_false c2
 ·have e3:lb o.1=zd7:=of_decide_eq_true c3
  refine Z _ (by kernel_rfl) λKK O=>zz7 hg ae az ho.p ho.f ov af ?_
  unfold doR at O;rw[if_neg n1,if_neg n2,if_pos e3]at O;exact O
 all_goals have n3:lb o.1≠zd7:=of_decide_eq_false c3
 ·have e4:lb o.1=zd8:=of_decide_eq_true c4
  refine Z _ (by kernel_rfl) λKK O=>zzr hg ae ho.p ho.f ov af ?_
  unfold doR at O;rw[if_neg n1,if_neg n2,if_neg n3,if_pos e4]at O;exact O
 all_goals have n4:lb o.1≠zd8:=of_decide_eq_false c4
 ·have e5:lb o.1=za4:=of_decide_eq_true c5
  refine Z _ (by kernel_rfl) λKK O=>zz5 hg ae ho.p ho.v (Ws ac (zeb (.inr (.inr e5)))) ov af ?_
  unfold doR at O;rw[if_neg n1,if_neg n2,if_neg n3,if_neg n4,if_pos e5]at O;exact O
 ·have n5:lb o.1≠za4:=of_decide_eq_false c5
  have e6:=zt3 am n1 n2 n3 n4 n5
  refine Z _ (by kernel_rfl) λKK O=>z2y hg ae ho.p ho.v (Ws ac (zeb (.inl e6))) af ?_
  unfold doR at O;rw[if_neg n1,if_neg n2,if_neg n3,if_neg n4,if_neg n5]at O;exact O
end
section
variable {h:zb} {v:Tr} {o:OpT}
theorem opAt{M:Fr}(ag:AgM M h){xs:List OpT}{s:Sl}(H:Rd M (.row Yt) xs [slV s]){k:Nat}(hk:k<xs.length):∃(a:Addr) (sp sf sk si:Sl),s.a=some a/\ze h (a.add (k*7)) 0 (qg xs[k].1 sp sf xs[k].2.2.2 sk si)/\RdV M Yt xs[k] (.agg (qg xs[k].1 sp sf xs[k].2.2.2 sk si).toArray):=by
 obtain⟨b,o,cs,e1,e2,e3⟩:=Go.X.rowAt H hk
 have e4:RdV M Yt xs[k] (.agg (cut cs (o+k*sz Yt) (sz Yt)).toArray):=by
  unfold RdV;simp only[zcl,if_true];exact⟨_,rfl,e3⟩
 obtain⟨sp,sf,sk,si,q,_⟩:=z2x e4
 have:(cut cs (o+k*sz Yt) (sz Yt))=qg xs[k].1 sp sf xs[k].2.2.2 sk si:=by
  injection q with q
  exact congrArg CH q
 refine⟨_,sp,sf,sk,si,e1,?_,by rw[<-this];exact e4⟩
 rw[z0q]
 exact zxv ag e2 (i:=0) this
theorem zr5(s:Bt)(sp sf:Sl)(v:Tr)(sk si:Sl):∀u∈qg s sp sf v sk si,u.oneCell'=true:=by
 intro u hu
 simp[qg]at hu
 rcases hu with rfl|rfl|rfl|rfl|rfl|rfl|rfl <;> simp[Value.oneCell',slV]
theorem qcl:ji Tp 38=true:=by kernel_rfl
theorem qcm:je Tp 38=7:=by kernel_rfl
def opZero:List Value:=[.string ⟨#[]⟩,.slice none 0 0,.slice none 0 0,.int .i64 0,.string ⟨#[]⟩,.slice none 0 0,.slice none 0 0]
theorem z0a{b:Nat}{cs:Array Value}(H:Blk h b cs)(hn:cs.size=7)(s:Bt)(sp sf:Sl)(v:Tr)(sk si:Sl){K:zb->Prop}
  (hK:∀h':zb,Blk h' b (qg s sp sf v sk si).toArray->h'.size=h.size->(∀j,j≠b->h'[j]?=h[j]?)->K h'):XRunU Tp (Al 38 (.pointer (some ⟨b,0,none⟩)) (.agg (qg s sp sf v sk si).toArray)) h K:=
 xr (vs:=qg s sp sf v sk si) qcl H rfl qcm (by rw[hn];exact Ae _) (zr5 s sp sf v sk si) λh' e1 e2 e3=>hK h' (by rw[zru (by rw[hn];rfl)]at e1;exact e1) e2 e3
theorem Wt(h:(wj v o).2=0):qy (wj v o).1=true:=by
 unfold wj at h ⊢
 split
 ·split
  ·split
   ·rename_i h3;exact h3
   ·rename_i h1 h2 h3;rw[if_pos h1,if_pos h2,if_neg h3]at h;simp at h
  ·rename_i h1 h2;rw[if_pos h1,if_neg h2]at h;exact absurd h h2
 ·rename_i h1;rw[if_neg h1]at h;simp at h
theorem zg0(hv:Sm v)(hr:qy v=true)(ho:OpS o):Sm (wj v o).1:=by
 unfold wj
 split
 ·rename_i h1
  split
  ·split
   ·exact zzw hv (wb hr) ho.v (by have:=zjd h1;omega) λs hs=>by rw[<-Js];exact ho.p.s s hs
   ·exact zau
  ·exact zau
 ·exact zau
set_option maxHeartbeats 4000000 in
theorem zg1{gl:Fr}(hg:GL gl){l:List OpT}(hv:Sm v)(hl:∀o∈l,OpS o)(hn:l.length<=1000000){R:Tr×Int×Int->Prop}(hR:R (qi v l)):
  PC Tp gl 13 [Arg.mk .tree v,Arg.mk (.row Yt) l] [.tree,.int .i64,.int .i64] R:=by
 intro h M vs hM ag aF
 match vs,aF with
 |[u1,u2],⟨al,aD,_⟩=>
 have al:RdV M .tree v u1:=al
 have aD:RdV M (.row Yt) l u2:=aD
 have au:=al
 obtain⟨sk,si,rfl,rk,ri⟩:=yp al
 obtain⟨sl,rfl,rl⟩:=zdg aD
 obtain⟨ll,_,_⟩:=rowLen rl
 apply PX.of
 apply za3 v.kind v.text sk si sl
 intro h1 h2
 have k1:Keep h.size h h1:=Keep.push _ _ (Ae _)
 have k2:Keep h1.size h1 h2:=Keep.push _ _ (Ae _)
 have b1:Blk h1 h.size (zc v.kind v.text sk si).toArray:=Blk.new _ _ _
 have b2:Blk h2 h1.size (zc 0 ⟨#[]⟩ ⟨none,0,0⟩ ⟨none,0,0⟩).toArray:=Blk.new _ _ _
 have z1:h1.size=h.size+1:=Ai _
 have z2:h2.size=h1.size+1:=Ai _
 clear_value h1 h2
 have aN:=b1.ofKeep k2
 have aG:Keep h.size h h2:=k1.trans k2 (by omega)
 have bq:=ag.keep aG
 have ret:∀(g g':zb) (M':Fr) (r:Tr) (sk si:Sl) (i e:Int),Later h M g' M'->RdV M' .tree r (.agg #[.int .i64 r.kind,.string r.text,slV sk,slV si])->R (r,i,e) ->
   ∃M' r',Later h M g' M'/\zht M' [.tree,.int .i64,.int .i64] r' (.tuple #[.agg #[.int .i64 r.kind,.string r.text,slV sk,slV si],.int .i64 i,.int .i64 e])/\R r':=by
  intro g g' M' r sk si i e L hr hR
  exact⟨M',(r,i,e),L,⟨[_,_,_],⟨_,_,rfl,hr,_,_,rfl,zxu _ _,_,rfl,zxu _ _⟩,rfl⟩,hR⟩
 have aP:∀(g:zb) (i e:Int),Keep h.size h g->Blk g h1.size (zc 0 ⟨#[]⟩ ⟨none,0,0⟩ ⟨none,0,0⟩).toArray->R (zT,i,e) ->
   XRunU Tp (Al 25 (.pointer (some ⟨h1.size,0,none⟩)) (.agg #[.int .i64 0,.string (⟨#[]⟩:Bt),.slice none 0 0,.slice none 0 0])) g (λg'=>∃ar:Int,∃ax:Bt,∃Z:Sl,∃aa:Sl,ze g' ⟨h1.size,0,none⟩ 0 [.int .i64 ar,.string ax,.slice Z.a Z.len Z.cap,.slice aa.a aa.len aa.cap] /\
    (∃M' r',Later h M g' M'/\zht M' [.tree,.int .i64,.int .i64] r' (.tuple #[.agg #[.int .i64 ar,.string ax,.slice Z.a Z.len Z.cap,.slice aa.a aa.len aa.cap],.int .i64 i,.int .i64 e])/\R r')):=by
  intro g i e kg bg a7
  refine qa bg rfl 0 ⟨#[]⟩ ⟨none,0,0⟩ ⟨none,0,0⟩ λg' b' z' f'=>⟨0,⟨#[]⟩,⟨none,0,0⟩,⟨none,0,0⟩,b'.ld (cs:=zc 0 ⟨#[]⟩ ⟨none,0,0⟩ ⟨none,0,0⟩),?_⟩
  have aB:Keep h.size h g':=⟨by have:=kg.size;omega,λj hj=>by rw[f' j (by omega)];exact kg.get j hj⟩
  refine ret g g' M zT ⟨none,0,0⟩ ⟨none,0,0⟩ i e (Later.same ag aB) ?_ a7
  refine yd (v:=zT) ?_ ?_
  ·exact⟨_,rfl,none,0,rfl,⟨by simp[zT],by simp[zT]⟩,.inl rfl⟩
  ·exact⟨_,rfl,none,0,rfl,⟨by simp[zT],by simp[zT]⟩,.inl rfl⟩
 refine⟨v.kind,v.text,sk,si,aN.ld (cs:=zc v.kind v.text sk si),?_⟩
 have an:PC Tp gl 21 [Arg.mk .tree v] [.bool] (λr=>r=qy v):=zea hg hv rfl
 refine an.go (vs:=[.agg #[.int .i64 v.kind,.string v.text,slV sk,slV si]]) hM bq (yo au ww) λw h8 M8 r L8 aI hr=>?_
 have hr:r=qy v:=hr
 subst hr
 have k8:Keep h.size h h8:=aG.trans L8.keep (by omega)
 have z8:=L8.keep.size
 refine⟨qy v,zay aI,λhf=>?_,λht=>?_⟩
 ·have bj:qy v=false:=by simpa using hf
  unfold qi at hR
  rw[bj]at hR
  exact aP h8 0 1 k8 (b2.ofKeep L8.keep) hR
 have aC:qy v=true:=by simpa using ht
 have aJ:qi v l=Zj v l 0:=by unfold qi;rw[aC];rfl
 rw[aJ]at hR
 refine⟨v.kind,v.text,sk,si,(aN.ofKeep L8.keep).ld (cs:=zc v.kind v.text sk si),?_⟩
 refine zfc hg hv (wb aC) hM (ag.keep k8) au λO bs ck ci aE ot be=>⟨v.kind,v.text,ck,ci,rfl,?_⟩
 have bF:=aE.size
 intro ac
 have ay:Keep O.size O ac:=Keep.push _ _ (Ae _)
 have bh:Blk ac O.size (zc v.kind v.text ck ci).toArray:=Blk.new _ _ _
 have bE:ac.size=O.size+1:=Ai _
 clear_value ac
 have bu:Keep h.size h ac:=(k8.trans aE (by omega)).trans ay (by omega)
 have aQ:OT ac v bs (zf v ck ci):=ot.frame λc hc=>ay.get c (ot.lt c hc)
 have bm:Doc ac O.size v bs:=⟨⟨_,bh,rfl,aQ⟩,λhm=>by have:=ot.lt _ hm;omega⟩
 have aM:Blk ac h1.size (zc 0 ⟨#[]⟩ ⟨none,0,0⟩ ⟨none,0,0⟩).toArray:=((b2.ofKeep L8.keep).ofKeep aE).ofKeep ay
 refine⟨λi g=>∃(k:Nat) (w:Tr) (D:List Nat),i=(k:Int)/\k<=l.length/\Keep h.size h g/\O.size<g.size/\Blk g h1.size (zc 0 ⟨#[]⟩ ⟨none,0,0⟩ ⟨none,0,0⟩).toArray/\Doc g O.size w D/\(∀c∈D,h2.size<=c)/\qy w=true/\Sm w/\R (Zj w (l.drop k) k),
  λi _=>l.length-i.toNat,⟨0,v,bs,rfl,BP _,bu,by omega,aM,bm,(λc hc=>by have:=be c hc;omega),aC,hv,by rw[AQ];exact hR⟩,?_⟩
 rintro i g ⟨k,w,D,rfl,hk,kg,zg,bg,dg,hD,am,aU,ai⟩
 have agg:=ag.keep kg
 refine⟨λhc=>?_,λhc=>?_⟩
 ·have ae:k<l.length:=by rw[ll]at hc;simp at hc;omega
  obtain⟨a,sp,sf,tk,ti,ea,aZ,bc⟩:=opAt agg rl ae
  have aS:=hl l[k] (Ao ae)
  refine⟨a,⟨ea,by omega,by omega⟩,l[k].1,sp,sf,l[k].2.2.2.kind,l[k].2.2.2.text,tk,ti,by rw[Ad];exact aZ,?_⟩
  intro aj
  have ba:Keep g.size g aj:=Keep.push _ _ (Ae _)
  have a6:Blk aj g.size opZero.toArray:=Blk.new _ _ _
  have bG:aj.size=g.size+1:=Ai _
  clear_value aj
  refine z0a a6 rfl l[k].1 sp sf l[k].2.2.2 tk ti λak bp bD bn=>?_
  refine⟨l[k].1,sp,sf,l[k].2.2.2.kind,l[k].2.2.2.text,tk,ti,bp.ld (cs:=qg l[k].1 sp sf l[k].2.2.2 tk ti),?_⟩
  have az:Keep g.size g ak:=⟨by omega,λj hj=>by rw[bn j (by omega)];exact ba.get j hj⟩
  have af:Keep h.size h ak:=kg.trans az (by have:=kg.size;omega)
  have a1:At gl w ak M O.size D:=⟨hM,ag.keep af,dg.keep λc hc=>az.get c (dg.lt c hc),aU,xd (wb am),zjc am⟩
  have a8:∀b cs,M b=some cs->b≠O.size/\b∉D:=λb cs e=>by
   have:=ag.lt e
   exact⟨by omega,λhm=>by have:=hD b hm;omega⟩
  have ap:R (if(wj w l[k]).2=0 then Zj (wj w l[k]).1 (l.drop (k+1)) (k+1)else(zT,(k:Int),(wj w l[k]).2)):=by
   rw[AC ae,Zj]at ai
   exact ai
  have key:∀(h':zb) (D':List Nat),Turn ak h' O.size D [] D'->Keep h.size h h'/\Blk h' h1.size (zc 0 ⟨#[]⟩ ⟨none,0,0⟩ ⟨none,0,0⟩).toArray:=λh' D' tn=>
   ⟨⟨by have:=tn.size;have:=af.size;omega,λj hj=>by rw[tn.old j (by have:=af.size;omega) (by omega) (λhm=>by have:=hD j hm;omega)];exact af.get j hj⟩,
    (bg.ofKeep az).keep (tn.old _ (by omega) (by omega) (λhm=>by have:=hD _ hm;omega))⟩
  refine zz9 hg a1 a8 am aS bc λh' D' aT tn=>⟨(wj w l[k]).2,rfl,λbz=>?_,λbo=>?_⟩
  all_goals obtain⟨aV,aO⟩:=key h' D' tn
  ·have aL:¬(wj w l[k]).2=0:=by simpa using bz
   rw[if_neg aL]at ap
   exact aP h' k (wj w l[k]).2 aV aO ap
  ·have ah:(wj w l[k]).2=0:=by simpa using bo
   rw[if_pos ah]at ap
   rw[yz ae (by omega)]
   refine⟨⟨k+1,(wj w l[k]).1,D',rfl,ae,aV,by have:=tn.size;omega,aO,aT ah,λc hc=>?_,Wt ah,zg0 aU am aS,ap⟩,by simp only[Ad];omega⟩
   rcases tn.own c hc with q|q|q
   ·exact hD c q
   ·cases q
   ·omega
 ·have ae:k=l.length:=by rw[ll]at hc;simp at hc;omega
  subst ae
  rw[BC,Zj]at ai
  obtain⟨⟨cs,bd,bC,aA⟩,bB⟩:=dg
  obtain⟨dk,di,aY⟩:=aA.cells
  have aH:cs=(zf w dk di).toArray:=by apply Dr;rw[aY];rfl
  rw[aY]at aA
  subst aH
  refine⟨⟨O.size,0,none⟩,rfl,w.kind,w.text,dk,di,?_,?_⟩
  ·rw[zo];exact bd.ld (cs:=zf w dk di)
  refine qa bg rfl w.kind w.text dk di λg' b' z' f'=>⟨w.kind,w.text,dk,di,b'.ld (cs:=zc w.kind w.text dk di),?_⟩
  have aB:Keep h.size h g':=⟨by have:=kg.size;omega,λj hj=>by rw[f' j (by omega)];exact kg.get j hj⟩
  have bA:OT g' w D (zf w dk di):=aA.frame λc hc=>f' c (by have:=hD c hc;omega)
  have L:=MxL.later (M:=M) (h0:=h) (h:=g') ag aB (bs:=D) (λc hc=>by have:=hD c hc;omega)
  rw[ll]
  exact ret g g' _ w dk di _ _ L bA.rdv ai
end
end Go.X
end
section
namespace Go.X
section
theorem zje(v0:Option Addr)(ac:Bt)(b:Int)(c:Bt)(d:Sl)(e:Sl)(h:zb)(R:Value->zb->Prop)
  (H:let f:=h.push (.cells #[.int .i64 b,.string c,slV d,slV e] 25);∃g,v0=some g/\∃i,zm f (Af g 2)=some (slV i)/\∃j,v0=some j/\∃k,zm f (Af j 3)=some (slV k)/\∃l m n o,ze f ⟨h.size,0,none⟩ 0 [.int .i64 l,.string m,slV n,slV o]/\(let p:=f.push (.cells #[.string ac] 9);(p)[(⟨h.size,0,none⟩:Addr).block]?=(f)[(⟨h.size,0,none⟩:Addr).block]?/\(p)[((Af j 3):Addr).block]?=(f)[((Af j 3):Addr).block]?/\(p)[((Af g 2):Addr).block]?=(f)[((Af g 2):Addr).block]?/\(XRun Tp (Au #[22,22] 22 #[slV i,.slice (some ⟨f.size,0,none⟩) 1 1]) p (λq r=>∃s,q=slV s/\(r)[(⟨h.size,0,none⟩:Addr).block]?=(f)[(⟨h.size,0,none⟩:Addr).block]?/\(r)[((Af j 3):Addr).block]?=(f)[((Af j 3):Addr).block]?/\let t:=r.push (.cells #[.int .i64 l,.string m,slV n,slV o] 25);(t)[((Af j 3):Addr).block]?=(f)[((Af j 3):Addr).block]?/\XRun Tp (Au #[23,23] 23 #[slV k,.slice (some ⟨r.size,0,none⟩) 1 1]) t (λu v=>∃w,u=slV w/\∃x,v0=some x/\XRunU Tp (Al 22 (.pointer (some (Af x 2))) (slV s)) v (λy=>∃z,v0=some z/\XRunU Tp (Al 23 (.pointer (some (Af z 3))) (slV w)) y (λA=>R (.tuple #[]) A)))))/\(let B:=p.push (.cells #[.int .i64 l,.string m,slV n,slV o] 25);(B)[((Af j 3):Addr).block]?=(f)[((Af j 3):Addr).block]?/\(B)[((Af g 2):Addr).block]?=(f)[((Af g 2):Addr).block]?/\XRun Tp (Au #[22,22] 22 #[slV i,.slice (some ⟨f.size,0,none⟩) 1 1]) B (λC D=>∃E,C=slV E/\(D)[((Af j 3):Addr).block]?=(f)[((Af j 3):Addr).block]?/\XRun Tp (Au #[23,23] 23 #[slV k,.slice (some ⟨p.size,0,none⟩) 1 1]) D (λF G=>∃I,F=slV I/\∃J,v0=some J/\XRunU Tp (Al 22 (.pointer (some (Af J 2))) (slV E)) G (λL=>∃M,v0=some M/\XRunU Tp (Al 23 (.pointer (some (Af M 3))) (slV I)) L (λN=>R (.tuple #[]) N))))))/\(let O:=f.push (.cells #[.int .i64 l,.string m,slV n,slV o] 25);(O)[((Af j 3):Addr).block]?=(f)[((Af j 3):Addr).block]?/\(O)[((Af g 2):Addr).block]?=(f)[((Af g 2):Addr).block]?/\let P:=O.push (.cells #[.string ac] 9);(P)[((Af j 3):Addr).block]?=(f)[((Af j 3):Addr).block]?/\(P)[((Af g 2):Addr).block]?=(f)[((Af g 2):Addr).block]?/\XRun Tp (Au #[22,22] 22 #[slV i,.slice (some ⟨O.size,0,none⟩) 1 1]) P (λQ S=>∃T,Q=slV T/\(S)[((Af j 3):Addr).block]?=(f)[((Af j 3):Addr).block]?/\XRun Tp (Au #[23,23] 23 #[slV k,.slice (some ⟨f.size,0,none⟩) 1 1]) S (λU V=>∃W,U=slV W/\∃X,v0=some X/\XRunU Tp (Al 22 (.pointer (some (Af X 2))) (slV T)) V (λY=>∃Z,v0=some Z/\XRunU Tp (Al 23 (.pointer (some (Af Z 3))) (slV W)) Y (λaa=>R (.tuple #[]) aa)))))):
  XC Tp 87 #[.pointer v0,.string ac,.agg #[.int .i64 b,.string c,.slice d.a d.len d.cap,.slice e.a e.len e.cap]] h R:=
 XF ⟨[(1,8000)],[],[]⟩ [] 26 Tryz.func87 H
theorem zfk(b:Int)(c:Bt)(d:Sl)(e:Sl)(b9:Sl)(f:Int)(g:Bt)(i:Sl)(j:Sl)(h:zb)(R:Value->zb->Prop)
  (H:let k:=h.push (.cells #[.int .i64 b,.string c,slV d,slV e] 25);let l:=k.push (.cells #[.int .i64 f,.string g,slV i,slV j] 25);let m:=l.push (.cells #[.int .i64 0,.string (⟨#[]⟩:Bt),.slice none 0 0,.slice none 0 0] 25);(((b9.len:Int)==0)=true->∃n o p q,ze m ⟨k.size,0,none⟩ 0 [.int .i64 n,.string o,slV p,slV q]/\XC Tp 12 #[.agg #[.int .i64 n,.string o,slV p,slV q]] m (λr s=>∃t u w x,r=.agg #[.int .i64 t,.string u,slV w,slV x]/\XRunU Tp (Al 25 (.pointer (some ⟨l.size,0,none⟩)) (.agg #[.int .i64 t,.string u,slV w,slV x])) s (λy=>∃z A B C,ze y ⟨l.size,0,none⟩ 0 [.int .i64 z,.string A,slV B,slV C]/\R (.tuple #[.agg #[.int .i64 z,.string A,slV B,slV C],.int .i64 0]) y)))/\(((b9.len:Int)==0)=false->∀D:Addr->Bool->zb->Prop,(∀E:Addr,∀F:Bool,∀G:zb,(∃I,((!(!F))=true->zm G (Af E 0)=some (.int .i64 I))/\∃J,(((!(!F))&&(I != 5))=true->zm G (Af E 0)=some (.int .i64 J))/\((bif (!F)then true else(bif (I != 5)then(J != 6)else false))=true->XRunU Tp (Al 25 (.pointer (some ⟨l.size,0,none⟩)) (.agg #[.int .i64 0,.string (⟨#[]⟩:Bt),.slice none 0 0,.slice none 0 0])) G (λL=>∃M N O P,ze L ⟨l.size,0,none⟩ 0 [.int .i64 M,.string N,slV O,slV P]/\R (.tuple #[.agg #[.int .i64 M,.string N,slV O,slV P],.int .i64 8]) L))/\((bif (!F)then true else(bif (I != 5)then(J != 6)else false))=false->∃Q S T U,ze G E 0 [.int .i64 Q,.string S,slV T,slV U]/\∃V,(b9.a=some V/\0<=(Aa .i64 ((b9.len:Int)-1))/\(Aa .i64 ((b9.len:Int)-1))<(b9.len:Int))/\∃W,zm G (V.add ((Aa .i64 ((b9.len:Int)-1)).toNat*1))=some (.string W)/\XC Tp 108 #[.agg #[.int .i64 Q,.string S,slV T,slV U],.string W] G (λX Y=>∃Z,X=.int .i64 Z/\∀aa:zb->Prop,(∀ab:zb,(∃ac ae af ag,ze ab ⟨h.size,0,none⟩ 0 [.int .i64 ac,.string ae,slV af,slV ag]/\((none:Option Value)=none\/∃v,(some (.int .i64 (Aa .i64 ((b9.len:Int)-1))):Option Value)=some v)/\(0<=(0:Int)/\(0:Int)<=(Aa .i64 ((b9.len:Int)-1))/\(Aa .i64 ((b9.len:Int)-1))<=(b9.cap:Int)/\(b9.cap:Int)<=(b9.cap:Int))/\∃ah ai aj ak,ze ab E 0 [.int .i64 ah,.string ai,slV aj,slV ak]/\XC Tp 71 #[.agg #[.int .i64 ac,.string ae,slV af,slV ag],.slice (Qv b9.a 1 ((0:Int).toNat) ((b9.cap:Int).toNat)) ((Aa .i64 ((b9.len:Int)-1)).toNat-(0:Int).toNat) ((b9.cap:Int).toNat-(0:Int).toNat),.agg #[.int .i64 ah,.string ai,slV aj,slV ak]] ab (λal am=>∃an ao ap aq,al=.agg #[.int .i64 an,.string ao,slV ap,slV aq]/\XRunU Tp (Al 25 (.pointer (some ⟨l.size,0,none⟩)) (.agg #[.int .i64 an,.string ao,slV ap,slV aq])) am (λar=>∃au av aw ax,ze ar ⟨l.size,0,none⟩ 0 [.int .i64 au,.string av,slV aw,slV ax]/\R (.tuple #[.agg #[.int .i64 au,.string av,slV aw,slV ax],.int .i64 0]) ar)))->aa ab)->∃ay,zm Y (Af E 0)=some (.int .i64 ay)/\((bif (ay==6)then(decide (Z>=0))else false)=true->∃az,zm Y (Af E 3)=some (slV az)/\∃aA aB aC aD,ze Y ⟨k.size,0,none⟩ 0 [.int .i64 aA,.string aB,slV aC,slV aD]/\XC Tp 12 #[.agg #[.int .i64 aA,.string aB,slV aC,slV aD]] Y (λaE aF=>∃aG aH aI aJ,aE=.agg #[.int .i64 aG,.string aH,slV aI,slV aJ]/\∃aL,(az.a=some aL/\0<=Z/\Z<az.len)/\(aF)[((Af E 3):Addr).block]?=(Y)[((Af E 3):Addr).block]?/\XRunU Tp (Al 25 (.pointer (some (aL.add (Z.toNat*4)))) (.agg #[.int .i64 aG,.string aH,slV aI,slV aJ])) aF (λaM=>aa aM)))/\((bif (ay==6)then(decide (Z>=0))else false)=false->∃aN,zm Y (Af E 0)=some (.int .i64 aN)/\((aN==6)=true->∃aO,zm Y (Af E 2)=some (slV aO)/\∃aP,(b9.a=some aP/\0<=(Aa .i64 ((b9.len:Int)-1))/\(Aa .i64 ((b9.len:Int)-1))<(b9.len:Int))/\∃aQ,zm Y (aP.add ((Aa .i64 ((b9.len:Int)-1)).toNat*1))=some (.string aQ)/\let aS:=Y.push (.cells #[.string aQ] 9);(aS)[((Af E 2):Addr).block]?=(Y)[((Af E 2):Addr).block]?/\XRun Tp (Au #[22,22] 22 #[slV aO,.slice (some ⟨Y.size,0,none⟩) 1 1]) aS (λaT aU=>∃aV,aT=slV aV/\XRunU Tp (Al 22 (.pointer (some (Af E 2))) (slV aV)) aU (λaW=>∃aX,zm aW (Af E 3)=some (slV aX)/\∃aY aZ a0 a1,ze aW ⟨k.size,0,none⟩ 0 [.int .i64 aY,.string aZ,slV a0,slV a1]/\XC Tp 12 #[.agg #[.int .i64 aY,.string aZ,slV a0,slV a1]] aW (λa2 a3=>∃a4 a5 a6 a7,a2=.agg #[.int .i64 a4,.string a5,slV a6,slV a7]/\(a3)[((Af E 3):Addr).block]?=(aW)[((Af E 3):Addr).block]?/\let a8:=a3.push (.cells #[.int .i64 a4,.string a5,slV a6,slV a7] 25);(a8)[((Af E 3):Addr).block]?=(aW)[((Af E 3):Addr).block]?/\XRun Tp (Au #[23,23] 23 #[slV aX,.slice (some ⟨a3.size,0,none⟩) 1 1]) a8 (λa9 ba=>∃bb,a9=slV bb/\XRunU Tp (Al 23 (.pointer (some (Af E 3))) (slV bb)) ba (λbc=>aa bc))))))/\((aN==6)=false->∃bd,(b9.a=some bd/\0<=(Aa .i64 ((b9.len:Int)-1))/\(Aa .i64 ((b9.len:Int)-1))<(b9.len:Int))/\∃be,zm Y (bd.add ((Aa .i64 ((b9.len:Int)-1)).toNat*1))=some (.string be)/\XC Tp 109 #[.string be] Y (λbf bg=>∃bh bi,bf=.tuple #[.int .i64 bh,.bool bi]/\∀bj:Int->zb->Prop,(∀bk:Int,∀bl:zb,((decide (bk<0)=true->XRunU Tp (Al 25 (.pointer (some ⟨l.size,0,none⟩)) (.agg #[.int .i64 0,.string (⟨#[]⟩:Bt),.slice none 0 0,.slice none 0 0])) bl (λbm=>∃bn bo bp bq,ze bm ⟨l.size,0,none⟩ 0 [.int .i64 bn,.string bo,slV bp,slV bq]/\R (.tuple #[.agg #[.int .i64 bn,.string bo,slV bp,slV bq],.int .i64 8]) bm))/\(decide (bk<0)=false->∃br,zm bl (Af E 3)=some (slV br)/\∃bs bt bu bv,ze bl ⟨k.size,0,none⟩ 0 [.int .i64 bs,.string bt,slV bu,slV bv]/\XC Tp 12 #[.agg #[.int .i64 bs,.string bt,slV bu,slV bv]] bl (λbw bx=>∃bz bA bB bC,bw=.agg #[.int .i64 bz,.string bA,slV bB,slV bC]/\(bx)[((Af E 3):Addr).block]?=(bl)[((Af E 3):Addr).block]?/\XC Tp 110 #[slV br,.int .i64 bk,.agg #[.int .i64 bz,.string bA,slV bB,slV bC]] bx (λbD bE=>∃bF,bD=slV bF/\XRunU Tp (Al 23 (.pointer (some (Af E 3))) (slV bF)) bE (λbG=>aa bG)))))->bj bk bl)->∃bH,(b9.a=some bH/\0<=(Aa .i64 ((b9.len:Int)-1))/\(Aa .i64 ((b9.len:Int)-1))<(b9.len:Int))/\∃bI,zm bg (bH.add ((Aa .i64 ((b9.len:Int)-1)).toNat*1))=some (.string bI)/\∃bJ,(((!(bI.toList==(⟨#[45]⟩:Bt).toList))&&bi)=true->zm bg (Af E 3)=some (slV bJ))/\((bif (bI.toList==(⟨#[45]⟩:Bt).toList)then true else(bif bi then(bh==bJ.len)else false))=true->∃bL,zm bg (Af E 3)=some (slV bL)/\bj (bL.len:Int) bg)/\((bif (bI.toList==(⟨#[45]⟩:Bt).toList)then true else(bif bi then(bh==bJ.len)else false))=false->bj Z bg)))))))->D E F G)->∃bM bN bO bP,ze m ⟨h.size,0,none⟩ 0 [.int .i64 bM,.string bN,slV bO,slV bP]/\((none:Option Value)=none\/∃v,(some (.int .i64 (Aa .i64 ((b9.len:Int)-1))):Option Value)=some v)/\(0<=(0:Int)/\(0:Int)<=(Aa .i64 ((b9.len:Int)-1))/\(Aa .i64 ((b9.len:Int)-1))<=(b9.cap:Int)/\(b9.cap:Int)<=(b9.cap:Int))/\(XC Tp 68 #[.agg #[.int .i64 bM,.string bN,slV bO,slV bP],.slice (Qv b9.a 1 ((0:Int).toNat) ((b9.cap:Int).toNat)) ((Aa .i64 ((b9.len:Int)-1)).toNat-(0:Int).toNat) ((b9.cap:Int).toNat-(0:Int).toNat)] m (λbQ bS=>∃bT bU bV bW bX,bQ=.tuple #[.agg #[.int .i64 bT,.string bU,slV bV,slV bW],.bool bX]/\let bY:=bS.push (.cells #[.int .i64 0,.string (⟨#[]⟩:Bt),.slice none 0 0,.slice none 0 0] 25);XRunU Tp (Al 25 (.pointer (some ⟨bS.size,0,none⟩)) (.agg #[.int .i64 bT,.string bU,slV bV,slV bW])) bY (λbZ=>D ⟨bS.size,0,none⟩ bX bZ)))/\(let b0:=m.push (.cells #[.int .i64 0,.string (⟨#[]⟩:Bt),.slice none 0 0,.slice none 0 0] 25);(b0)[(⟨h.size,0,none⟩:Addr).block]?=(m)[(⟨h.size,0,none⟩:Addr).block]?/\XC Tp 68 #[.agg #[.int .i64 bM,.string bN,slV bO,slV bP],.slice (Qv b9.a 1 ((0:Int).toNat) ((b9.cap:Int).toNat)) ((Aa .i64 ((b9.len:Int)-1)).toNat-(0:Int).toNat) ((b9.cap:Int).toNat-(0:Int).toNat)] b0 (λb1 b2=>∃b3 b4 b5 b6 b7,b1=.tuple #[.agg #[.int .i64 b3,.string b4,slV b5,slV b6],.bool b7]/\XRunU Tp (Al 25 (.pointer (some ⟨m.size,0,none⟩)) (.agg #[.int .i64 b3,.string b4,slV b5,slV b6])) b2 (λb8=>D ⟨m.size,0,none⟩ b7 b8))))):
  XC Tp 69 #[.agg #[.int .i64 b,.string c,.slice d.a d.len d.cap,.slice e.a e.len e.cap],.slice b9.a b9.len b9.cap,.agg #[.int .i64 f,.string g,.slice i.a i.len i.cap,.slice j.a j.len j.cap]] h R:=
 XF ⟨[(7,8000),(19,8000),(9,8000),(11,8000),(12,8000),(18,8000),(4,8000)],[],[(5,[(9,.one (.ad)),(10,.one (.bool))]),(19,[]),(16,[(11,.one (.int .i64))])]⟩ [.cell 6 25,.tmp 7] 123 Tryz.func69 H
theorem zcj(b:Int)(c:Bt)(d:Sl)(e:Sl)(h:zb)(R:Value->zb->Prop)
  (H:let f:=h.push (.cells #[.int .i64 b,.string c,slV d,slV e] 25);let g:=f.push (.cells #[.int .i64 0,.string (⟨#[]⟩:Bt),.slice none 0 0,.slice none 0 0] 25);∀i:Addr->zb->Prop,(∀j:Addr,∀k:zb,(∃(l:Int->zb->Prop) (m:Int->zb->Nat),l 0 k/\∀n:Int,∀o:zb,l n o->(∃p,zm o (Af ⟨h.size,0,none⟩ 3)=some (slV p)/\(decide (n<p.len)=true->∃q,zm o (Af j 3)=some (slV q)/\∃r,zm o (Af ⟨h.size,0,none⟩ 3)=some (slV r)/\∃s,(r.a=some s/\0<=n/\n<r.len)/\∃t u v w,ze o (s.add (n.toNat*4)) 0 [.int .i64 t,.string u,slV v,slV w]/\XC Tp 12 #[.agg #[.int .i64 t,.string u,slV v,slV w]] o (λx y=>∃z A B C,x=.agg #[.int .i64 z,.string A,slV B,slV C]/\(y)[((Af j 3):Addr).block]?=(o)[((Af j 3):Addr).block]?/\let D:=y.push (.cells #[.int .i64 z,.string A,slV B,slV C] 25);(D)[((Af j 3):Addr).block]?=(o)[((Af j 3):Addr).block]?/\XRun Tp (Au #[23,23] 23 #[slV q,.slice (some ⟨y.size,0,none⟩) 1 1]) D (λE F=>∃G,E=slV G/\XRunU Tp (Al 23 (.pointer (some (Af j 3))) (slV G)) F (λI=>(l (Aa .i64 (n+1)) I/\m (Aa .i64 (n+1)) I<m n o)))))/\(decide (n<p.len)=false->∃J L M N,ze o j 0 [.int .i64 J,.string L,slV M,slV N]/\XRunU Tp (Al 25 (.pointer (some ⟨f.size,0,none⟩)) (.agg #[.int .i64 J,.string L,slV M,slV N])) o (λO=>∃P Q S T,ze O ⟨f.size,0,none⟩ 0 [.int .i64 P,.string Q,slV S,slV T]/\R (.agg #[.int .i64 P,.string Q,slV S,slV T]) O))))->i j k)->∃U,zm g (Af ⟨h.size,0,none⟩ 0)=some (.int .i64 U)/\∃V,zm g (Af ⟨h.size,0,none⟩ 1)=some (.string V)/\∃W,zm g (Af ⟨h.size,0,none⟩ 2)=some (slV W)/\(let X:=g.push (.cells #[] 9);(X)[((Af ⟨h.size,0,none⟩ 2):Addr).block]?=(g)[((Af ⟨h.size,0,none⟩ 2):Addr).block]?/\(X)[((Af ⟨h.size,0,none⟩ 1):Addr).block]?=(g)[((Af ⟨h.size,0,none⟩ 1):Addr).block]?/\(X)[((Af ⟨h.size,0,none⟩ 0):Addr).block]?=(g)[((Af ⟨h.size,0,none⟩ 0):Addr).block]?/\(XRun Tp (Au #[22,22] 22 #[.slice (some ⟨g.size,0,none⟩) 0 0,slV W]) X (λY Z=>∃aa,Y=slV aa/\(Z)[((Af ⟨h.size,0,none⟩ 1):Addr).block]?=(g)[((Af ⟨h.size,0,none⟩ 1):Addr).block]?/\(Z)[((Af ⟨h.size,0,none⟩ 0):Addr).block]?=(g)[((Af ⟨h.size,0,none⟩ 0):Addr).block]?/\(let ab:=Z.push (.cells #[.int .i64 0,.string (⟨#[]⟩:Bt),.slice none 0 0,.slice none 0 0] 25);XRunU Tp (Al 25 (.pointer (some ⟨Z.size,0,none⟩)) (.agg #[.int .i64 U,.string V,slV aa,.slice none 0 0])) ab (λac=>i ⟨Z.size,0,none⟩ ac))/\(let ae:=Z.push (.cells #[.int .i64 0,.string (⟨#[]⟩:Bt),.slice none 0 0,.slice none 0 0] 25);(ae)[((Af ⟨h.size,0,none⟩ 1):Addr).block]?=(g)[((Af ⟨h.size,0,none⟩ 1):Addr).block]?/\(ae)[((Af ⟨h.size,0,none⟩ 0):Addr).block]?=(g)[((Af ⟨h.size,0,none⟩ 0):Addr).block]?/\XRunU Tp (Al 25 (.pointer (some ⟨Z.size,0,none⟩)) (.agg #[.int .i64 U,.string V,slV aa,.slice none 0 0])) ae (λaf=>i ⟨Z.size,0,none⟩ af))))/\(let ag:=X.push (.cells #[.int .i64 0,.string (⟨#[]⟩:Bt),.slice none 0 0,.slice none 0 0] 25);(ag)[((Af ⟨h.size,0,none⟩ 2):Addr).block]?=(g)[((Af ⟨h.size,0,none⟩ 2):Addr).block]?/\(ag)[((Af ⟨h.size,0,none⟩ 1):Addr).block]?=(g)[((Af ⟨h.size,0,none⟩ 1):Addr).block]?/\(ag)[((Af ⟨h.size,0,none⟩ 0):Addr).block]?=(g)[((Af ⟨h.size,0,none⟩ 0):Addr).block]?/\XRun Tp (Au #[22,22] 22 #[.slice (some ⟨g.size,0,none⟩) 0 0,slV W]) ag (λah ai=>∃aj,ah=slV aj/\(ai)[((Af ⟨h.size,0,none⟩ 1):Addr).block]?=(g)[((Af ⟨h.size,0,none⟩ 1):Addr).block]?/\(ai)[((Af ⟨h.size,0,none⟩ 0):Addr).block]?=(g)[((Af ⟨h.size,0,none⟩ 0):Addr).block]?/\XRunU Tp (Al 25 (.pointer (some ⟨X.size,0,none⟩)) (.agg #[.int .i64 U,.string V,slV aj,.slice none 0 0])) ai (λak=>i ⟨X.size,0,none⟩ ak))))/\(let al:=g.push (.cells #[.int .i64 0,.string (⟨#[]⟩:Bt),.slice none 0 0,.slice none 0 0] 25);(al)[((Af ⟨h.size,0,none⟩ 2):Addr).block]?=(g)[((Af ⟨h.size,0,none⟩ 2):Addr).block]?/\(al)[((Af ⟨h.size,0,none⟩ 1):Addr).block]?=(g)[((Af ⟨h.size,0,none⟩ 1):Addr).block]?/\(al)[((Af ⟨h.size,0,none⟩ 0):Addr).block]?=(g)[((Af ⟨h.size,0,none⟩ 0):Addr).block]?/\let am:=al.push (.cells #[] 9);(am)[((Af ⟨h.size,0,none⟩ 2):Addr).block]?=(g)[((Af ⟨h.size,0,none⟩ 2):Addr).block]?/\(am)[((Af ⟨h.size,0,none⟩ 1):Addr).block]?=(g)[((Af ⟨h.size,0,none⟩ 1):Addr).block]?/\(am)[((Af ⟨h.size,0,none⟩ 0):Addr).block]?=(g)[((Af ⟨h.size,0,none⟩ 0):Addr).block]?/\XRun Tp (Au #[22,22] 22 #[.slice (some ⟨al.size,0,none⟩) 0 0,slV W]) am (λan ao=>∃ap,an=slV ap/\(ao)[((Af ⟨h.size,0,none⟩ 1):Addr).block]?=(g)[((Af ⟨h.size,0,none⟩ 1):Addr).block]?/\(ao)[((Af ⟨h.size,0,none⟩ 0):Addr).block]?=(g)[((Af ⟨h.size,0,none⟩ 0):Addr).block]?/\XRunU Tp (Al 25 (.pointer (some ⟨g.size,0,none⟩)) (.agg #[.int .i64 U,.string V,slV ap,.slice none 0 0])) ao (λaq=>i ⟨g.size,0,none⟩ aq)))):
  XC Tp 12 #[.agg #[.int .i64 b,.string c,.slice d.a d.len d.cap,.slice e.a e.len e.cap]] h R:=
 XF ⟨[(5,8000),(1,8000)],[(3,[(4,.one (.int .i64))])],[(2,[(3,.one (.ad))])]⟩ [.cell 2 25] 33 Tryz.func12 H
theorem zed(b:Int)(c:Bt)(d:Sl)(e:Sl)(ap:Sl)(h:zb)(R:Value->zb->Prop)
  (H:let f:=h.push (.cells #[.int .i64 b,.string c,slV d,slV e] 25);let g:=f.push (.cells #[.int .i64 0,.string (⟨#[]⟩:Bt),.slice none 0 0,.slice none 0 0] 25);∃i j k l,ze g ⟨h.size,0,none⟩ 0 [.int .i64 i,.string j,slV k,slV l]/\XC Tp 107 #[.agg #[.int .i64 i,.string j,slV k,slV l]] g (λm n=>∃o,m=.bool o/\XC Tp 40 #[slV ap] n (λp q=>∃r,p=.bool r/\((bif (!o)then true else(!r))=true->XRunU Tp (Al 25 (.pointer (some ⟨f.size,0,none⟩)) (.agg #[.int .i64 0,.string (⟨#[]⟩:Bt),.slice none 0 0,.slice none 0 0])) q (λs=>∃t u v w,ze s ⟨f.size,0,none⟩ 0 [.int .i64 t,.string u,slV v,slV w]/\R (.tuple #[.agg #[.int .i64 t,.string u,slV v,slV w],.bool false]) s))/\((bif (!o)then true else(!r))=false->∃(x:Int->zb->Prop) (y:Int->zb->Nat),x 0 q/\∀z:Int,∀A:zb,x z A->((decide (z<ap.len)=true->∃B C D E,ze A ⟨h.size,0,none⟩ 0 [.int .i64 B,.string C,slV D,slV E]/\∃F,(ap.a=some F/\0<=z/\z<ap.len)/\∃G,zm A (F.add (z.toNat*1))=some (.string G)/\XC Tp 108 #[.agg #[.int .i64 B,.string C,slV D,slV E],.string G] A (λI J=>∃L,I=.int .i64 L/\(decide (L<0)=true->XRunU Tp (Al 25 (.pointer (some ⟨f.size,0,none⟩)) (.agg #[.int .i64 0,.string (⟨#[]⟩:Bt),.slice none 0 0,.slice none 0 0])) J (λM=>∃N O P Q,ze M ⟨f.size,0,none⟩ 0 [.int .i64 N,.string O,slV P,slV Q]/\R (.tuple #[.agg #[.int .i64 N,.string O,slV P,slV Q],.bool false]) M))/\(decide (L<0)=false->∃S,zm J (Af ⟨h.size,0,none⟩ 3)=some (slV S)/\∃T,(S.a=some T/\0<=L/\L<S.len)/\∃U V W X,ze J (T.add (L.toNat*4)) 0 [.int .i64 U,.string V,slV W,slV X]/\XRunU Tp (Al 25 (.pointer (some ⟨h.size,0,none⟩)) (.agg #[.int .i64 U,.string V,slV W,slV X])) J (λY=>(x (Aa .i64 (z+1)) Y/\y (Aa .i64 (z+1)) Y<y z A)))))/\(decide (z<ap.len)=false->∃Z aa ab ac,ze A ⟨h.size,0,none⟩ 0 [.int .i64 Z,.string aa,slV ab,slV ac]/\XC Tp 12 #[.agg #[.int .i64 Z,.string aa,slV ab,slV ac]] A (λad ae=>∃af ag ah ai,ad=.agg #[.int .i64 af,.string ag,slV ah,slV ai]/\XRunU Tp (Al 25 (.pointer (some ⟨f.size,0,none⟩)) (.agg #[.int .i64 af,.string ag,slV ah,slV ai])) ae (λaj=>∃ak al am an,ze aj ⟨f.size,0,none⟩ 0 [.int .i64 ak,.string al,slV am,slV an]/\R (.tuple #[.agg #[.int .i64 ak,.string al,slV am,slV an],.bool true]) aj)))))))):
  XC Tp 68 #[.agg #[.int .i64 b,.string c,.slice d.a d.len d.cap,.slice e.a e.len e.cap],.slice ap.a ap.len ap.cap] h R:=
 XF ⟨[(8,8000)],[(6,[(8,.one (.int .i64))])],[]⟩ [.cell 4 25,.tmp 5] 43 Tryz.func68 H
theorem Yq(b:Int)(c:Bt)(d:Sl)(e:Sl)(az:Sl)(f:Int)(g:Bt)(i:Sl)(j:Sl)(h:zb)(R:Value->zb->Prop)
  (H:let k:=h.push (.cells #[.int .i64 b,.string c,slV d,slV e] 25);let l:=k.push (.cells #[.int .i64 f,.string g,slV i,slV j] 25);let m:=l.push (.cells #[.int .i64 0,.string (⟨#[]⟩:Bt),.slice none 0 0,.slice none 0 0] 25);(((az.len:Int)==0)=true->∃n o p q,ze m ⟨k.size,0,none⟩ 0 [.int .i64 n,.string o,slV p,slV q]/\XRunU Tp (Al 25 (.pointer (some ⟨l.size,0,none⟩)) (.agg #[.int .i64 n,.string o,slV p,slV q])) m (λr=>∃s t u w,ze r ⟨l.size,0,none⟩ 0 [.int .i64 s,.string t,slV u,slV w]/\R (.agg #[.int .i64 s,.string t,slV u,slV w]) r))/\(((az.len:Int)==0)=false->∃x y z A,ze m ⟨h.size,0,none⟩ 0 [.int .i64 x,.string y,slV z,slV A]/\XC Tp 12 #[.agg #[.int .i64 x,.string y,slV z,slV A]] m (λB C=>∃D E F G,B=.agg #[.int .i64 D,.string E,slV F,slV G]/\let I:=C.push (.cells #[.int .i64 0,.string (⟨#[]⟩:Bt),.slice none 0 0,.slice none 0 0] 25);XRunU Tp (Al 25 (.pointer (some ⟨C.size,0,none⟩)) (.agg #[.int .i64 D,.string E,slV F,slV G])) I (λJ=>∃L M N O,ze J ⟨h.size,0,none⟩ 0 [.int .i64 L,.string M,slV N,slV O]/\∃P,(az.a=some P/\0<=(0:Int)/\(0:Int)<(az.len:Int))/\∃Q,zm J (P.add ((0:Int).toNat*1))=some (.string Q)/\XC Tp 108 #[.agg #[.int .i64 L,.string M,slV N,slV O],.string Q] J (λS T=>∃U,S=.int .i64 U/\∃V,zm T (Af ⟨C.size,0,none⟩ 3)=some (slV V)/\∃W,zm T (Af ⟨h.size,0,none⟩ 3)=some (slV W)/\∃X,(W.a=some X/\0<=U/\U<W.len)/\∃Y Z aa ab,ze T (X.add (U.toNat*4)) 0 [.int .i64 Y,.string Z,slV aa,slV ab]/\((none:Option Value)=none\/∃v,(none:Option Value)=some v)/\(0<=(1:Int)/\(1:Int)<=(az.len:Int)/\(az.len:Int)<=(az.cap:Int)/\(az.cap:Int)<=(az.cap:Int))/\∃ac ad ae af,ze T ⟨k.size,0,none⟩ 0 [.int .i64 ac,.string ad,slV ae,slV af]/\XC Tp 71 #[.agg #[.int .i64 Y,.string Z,slV aa,slV ab],.slice (Qv az.a 1 ((1:Int).toNat) ((az.cap:Int).toNat)) ((az.len:Int).toNat-(1:Int).toNat) ((az.cap:Int).toNat-(1:Int).toNat),.agg #[.int .i64 ac,.string ad,slV ae,slV af]] T (λag ah=>∃ai aj ak al,ag=.agg #[.int .i64 ai,.string aj,slV ak,slV al]/\∃am,(V.a=some am/\0<=U/\U<V.len)/\(ah)[((Af ⟨C.size,0,none⟩ 3):Addr).block]?=(T)[((Af ⟨C.size,0,none⟩ 3):Addr).block]?/\XRunU Tp (Al 25 (.pointer (some (am.add (U.toNat*4)))) (.agg #[.int .i64 ai,.string aj,slV ak,slV al])) ah (λan=>∃ao ap aq ar,ze an ⟨C.size,0,none⟩ 0 [.int .i64 ao,.string ap,slV aq,slV ar]/\XRunU Tp (Al 25 (.pointer (some ⟨l.size,0,none⟩)) (.agg #[.int .i64 ao,.string ap,slV aq,slV ar])) an (λau=>∃av aw ax ay,ze au ⟨l.size,0,none⟩ 0 [.int .i64 av,.string aw,slV ax,slV ay]/\R (.agg #[.int .i64 av,.string aw,slV ax,slV ay]) au)))))))):
  XC Tp 71 #[.agg #[.int .i64 b,.string c,.slice d.a d.len d.cap,.slice e.a e.len e.cap],.slice az.a az.len az.cap,.agg #[.int .i64 f,.string g,.slice i.a i.len i.cap,.slice j.a j.len j.cap]] h R:=
 XF ⟨[(4,8000),(5,8000)],[],[]⟩ [.cell 6 25] 34 Tryz.func71 H
end
section
variable {g gF h:zb} {D bk bb:List Nat} {rb pb o b:Nat} {cs0 cs:Array Value} {sk si:Sl} {K:zb -> Prop} {M:Fr} {ks:List Bt}
theorem z0b{x:Tr}{ks':List Bt}{T:Tr->Tr}{bf:Nat->List Nat}(P:PlcP g D rb ⟨pb,o,none⟩ x T pb o cs0 sk si bk bb b cs bf)(ah:rb<g.size){sk':Sl}{kb:Nat}(hs:g.size<=gF.size)(hf:∀c,c<g.size->c∉bk->gF[c]?=g[c]?)(ok:OKeys gF ks' [kb] sk')(Z:kb∈bk\/g.size<=kb)(hK:∀h' D',Doc h' rb (T (.mk x.kind x.text ks' x.items)) D'->Turn g h' rb D [] D'->gF.size=h'.size->(∀c,c≠pb->h'[c]?=gF[c]?)->K h'):
  XRunU Tp (Al 22 (.pointer (some (Af ⟨pb,o,none⟩ 2))) (.slice sk'.a sk'.len sk'.cap)) gF K:=by
 have ac:pb<g.size:=P.blk.lt
 have ai:=P.fit
 have O:∀c,c<g.size->c∉bk->c≠kb:=λc hc hn e=>by
  rcases Z with h|h
  ·exact hn (e ▸ h)
  ·omega
 have bF:Blk gF pb cs0:=P.blk.keep (hf pb ac P.nk)
 rw[zo]
 refine xr (vs:=[slV sk']) ztl bF rfl zzn (by show o+2+1<=_;omega) (by simp[Value.oneCell',slV]) λh1 b1 z1 f1=>?_
 rw[zzj P.fit P.cell]at b1
 have fz:∀c,c<g.size->c∉bk->c≠pb->h1[c]?=g[c]?:=λc hc n1 n3=>(f1 c n3).trans (hf c hc n1)
 have hD:∀c,c≠rb->c∉D->c≠pb:=λc n1 n2 e=>by
  rcases P.pin with e2|e2
  ·exact n1 (by rw[e,e2])
  ·exact n2 (by rw[e];exact e2)
 have ae:∀c,c∉D->c∉bk:=λc hc hm=>hc (P.ik c hm)
 have ot:OTp h1 (.mk x.kind x.text ks' x.items) sk' si [kb] bb b cs bf:=by
  refine⟨ok.frame λc hc=>f1 c (by simp at hc;subst hc;exact(O pb ac P.nk).symm),P.tr.hn,P.tr.hz.imp id λ⟨q1,q2,q3,q4⟩=>⟨q1,q2,q3.keep (fz b (P.lt _ (P.ib b (by rw[q1];simp))) (λhm=>P.tr.d1 b hm (by rw[q1];simp)) (λe=>P.nb (by rw[<-e,q1];simp))),q4⟩,λi hx=>(P.tr.hi i hx).frame λc hc=>fz c (P.lt c (P.jf i hx c hc)) (λhm=>P.tr.d2 c hm i hx hc) (λe=>P.nf i hx (e ▸ hc)),by simp,λc hc hm=>?_,λc hc i hi hm=>?_,P.tr.d3,P.tr.d4⟩
  ·simp at hc;subst hc
   exact O c (P.lt c (P.ib c hm)) (λh=>P.tr.d1 c h hm) rfl
  ·simp at hc;subst hc
   exact O c (P.lt c (P.jf i hi c hm)) (λh=>P.tr.d2 c h i hi hm) rfl
 obtain⟨D',af,aa⟩:=P.put h1 _ _ _ (λc q1 q2 q3 q4 q5=>fz c (by
  rcases q5 with rfl|q5
  ·exact ah
  ·exact P.lt c q5) q2 q1) b1 ot.ot (λc hc=>by
  rcases yy.1 hc with hc|hc|⟨i,hi,hc⟩
  ·simp at hc;subst hc
   rcases Z with h|h
   ·exact .inl (.inl h)
   ·exact .inr ⟨by omega,λhm=>by have:=P.lt c hm;omega⟩
  ·exact .inl (.inr (.inl hc))
  ·exact .inl (.inr (.inr ⟨i,hi,hc⟩)))
 refine hK h1 D' af ⟨by omega,λc q1 q2 q3=>fz c q1 (ae c q3) (hD c q2 q3),λc hc=>?_⟩ (by omega) f1
 rcases aa c hc with hc|hc
 ·exact .inl hc
 ·rcases yy.1 hc with hc|hc|⟨i,hi,hc⟩
  ·simp at hc;subst hc
   rcases Z with h|h
   ·exact .inl (P.ik c h)
   ·exact .inr (.inr h)
  ·exact .inl (P.ib c hc)
  ·exact .inl (P.jf i hi c hc)
theorem zls{x w:Tr}{T:Tr->Tr}{bf:Nat->List Nat}(P:PlcP g D rb ⟨pb,o,none⟩ x T pb o cs0 sk si bk bb b cs bf)(am:rb<g.size){bw:List Nat}{wk wi:Sl}(ow:OT gF w bw (zf w wk wi))(Z:∀c∈bw,c≠rb/\c∉D)(hx:x.items.length<=1000000000)
  {si':Sl} {b':Nat} {cs':Array Value} (hs:g.size<=gF.size) (hf:∀c,c<g.size->c∉bb->gF[c]?=g[c]?)
  (e1:si'.a=some ⟨b',0,none⟩) (e2:si'.len=x.items.length+1) (e3:x.items.length+1<=si'.cap) (e4:Blk gF b' cs') (e5:si'.cap*4<=cs'.size) (e6:cut cs' 0 ((x.items.length+1)*4)=cut cs 0 (x.items.length*4)++zf w wk wi) (ac:(b'=b/\b∈bb)\/g.size<=b') (ak:b'∉bw) (hK:∀h' D',Doc h' rb (T (.mk x.kind x.text x.keys (x.items++[w]))) D'->Turn g h' rb D bw D'->gF.size=h'.size->(∀c,c≠pb->h'[c]?=gF[c]?)->K h'):
  XRunU Tp (Al 23 (.pointer (some (Af ⟨pb,o,none⟩ 3))) (.slice si'.a si'.len si'.cap)) gF K:=by
 have ae:pb<g.size:=P.blk.lt
 have ar:=P.fit
 have aa:∀c,c<g.size->c∉bb->c≠b':=λc hc hn e=>by
  rcases ac with⟨h1,h2⟩|h
  ·exact hn (by rw[e,h1];exact h2)
  ·omega
 have bF:Blk gF pb cs0:=P.blk.keep (hf pb ae P.nb)
 rw[zo]
 refine xr (vs:=[slV si']) zlk bF rfl zll (by show o+3+1<=_;omega) (by simp[Value.oneCell',slV]) λh2 b2 z2 f2=>?_
 rw[zp5 P.fit P.cell]at b2
 have fz:∀c,c<g.size->c∉bb->c≠pb->h2[c]?=g[c]?:=λc hc n2 n3=>(f2 c n3).trans (hf c hc n2)
 have aj:pb≠b':=aa pb ae P.nb
 have hD:∀c,c≠rb->c∉D->c≠pb:=λc n1 n2 e=>by
  rcases P.pin with e2|e2
  ·exact n1 (by rw[e,e2])
  ·exact n2 (by rw[e];exact e2)
 have al:∀c,c∉D->c∉bb:=λc hc hm=>hc (P.ib c hm)
 have an:OT h2 w bw (zf w wk wi):=ow.frame λc hc=>f2 c (hD c (Z c hc).1 (Z c hc).2)
 have af:∀i,i<x.items.length->∀c∈bf i,c∉bb:=λi hi c hc hm=>P.tr.d3 c hm i hi hc
 have O:(cut cs 0 (x.items.length*4)).length<=x.items.length*4:=by unfold cut;simp;omega
 have ot:=(P.tr.ins (k:=x.items.length) (Ae _) an (λi hi c hc=>fz c (P.lt c (P.jf i hi c hc)) (af i hi c hc) (λe=>P.nf i hi (e ▸ hc))) e1 (e4.keep (f2 b' aj.symm)) e2 e3 e5 (by omega)
  (by rw[e6,AM O,A6 O,Bc]) (λi hi hm=>aa b' (P.lt _ (P.jf i hi b' hm)) (af i hi b' hm) rfl) ak (λc hc i hi hm=>(Z c hc).2 (P.jf i hi c hm))
  (P.tr.keys.frame (h':=h2) λc hc=>fz c (P.lt c (P.ik c hc)) (P.tr.d1 c hc) (λe=>P.nk (e ▸ hc))) P.tr.nk (λhm=>aa b' (P.lt _ (P.ik b' hm)) (P.tr.d1 b' hm) rfl) P.tr.d2 (λc hc hm=>(Z c hm).2 (P.ik c hc))).ot
 have ap:(x.items.take x.items.length++w::x.items.drop x.items.length)=x.items++[w]:=by rw[AE,BC]
 have O:∀c,c∈(AZ (x.items.take x.items.length++w::x.items.drop x.items.length).length).flatMap (λi=>if i<x.items.length then bf i else if i=x.items.length then bw else bf (i-1))->(∃i,i<x.items.length/\c∈bf i)\/c∈bw:=by
  intro c hc
  obtain⟨i,hi,hc⟩:=Bj.1 hc
  have au:i<x.items.length+1:=by simpa using hi
  split at hc
  ·exact .inl ⟨i,by omega,hc⟩
  ·split at hc
   ·exact .inr hc
   ·exact .inl ⟨i-1,by omega,hc⟩
 obtain⟨D',ai,ah⟩:=P.put h2 _ _ _ (λc q1 q2 q3 q4 q5=>fz c (by
  rcases q5 with rfl|q5
  ·exact am
  ·exact P.lt c q5) q3 q1) b2 ot (λc hc=>by
  rw[Am,Am]at hc
  rcases hc with hc|hc|hc
  ·exact .inl (.inl hc)
  ·simp at hc;subst hc
   rcases ac with⟨e,hm⟩|e
   ·exact .inl (.inr (.inl (by rw[e];exact hm)))
   ·exact .inr ⟨by omega,λhm=>by have:=P.lt c hm;omega⟩
  ·rcases O c hc with hc|hc
   ·exact .inl (.inr (.inr hc))
   ·exact .inr (Z c hc))
 rw[ap]at ai
 refine hK h2 D' ai ⟨by omega,λc q1 q2 q3=>fz c q1 (al c q3) (hD c q2 q3),λc hc=>?_⟩ (by omega) f2
 rcases ah c hc with hc|hc
 ·exact .inl hc
 ·rw[Am,Am]at hc
  rcases hc with hc|hc|hc
  ·exact .inl (P.ik c hc)
  ·simp at hc;subst hc
   rcases ac with⟨e,hm⟩|e
   ·exact .inl (P.ib c (by rw[e];exact hm))
   ·exact .inr (.inr e)
  ·rcases O c hc with⟨i,hi,hc⟩|hc
   ·exact .inl (P.jf i hi c hc)
   ·exact .inr (.inl hc)
theorem z8e(ag:AgM M h){s:Sl}(H:Rd M (.row .str) ks [slV s]):Arr h.size h s.a (ks.map A5):=by
 obtain⟨w,e,a,c,q,hn,hx⟩:=H
 simp only[Br,and_true]at e
 subst e
 simp only[slV,AJ]at q
 obtain⟨h1,_,_⟩:=q
 rcases hx with rfl|⟨b,o,cs,e1,e2,e3⟩
 ·exact .inl rfl
 ·refine .inr ⟨b,o,by rw[h1,e1],ag.lt e2,λi v hv=>?_⟩
  rw[B5]at hv
  cases hk:ks[i]? with
  |none=>rw[hk]at hv;cases hv
  |some k=>
   rw[hk]at hv
   simp only[Option.map_some,Ab]at hv
   subst hv
   obtain⟨hi,e⟩:=Ax.1 hk
   have:=e3 i hi
   rw[e]at this
   have h4:cut cs (o+i) 1=[.string k]:=by
    have h5:cut cs (o+i*sz .str) (sz .str)=[.string k]:=this
    simpa[sz]using h5
   exact zxw ag e2 h4
theorem znz(ag:AgM M h){s:Sl}(rk:Rd M (.row .str) ks [slV s])(hn:ks.length<=1048576){e:Nat}{K:Value->zb->Prop}
  (hb:Blk h e #[])
  (hK:∀(s':Sl) (bk:List Nat) (h':zb),OKeys h' ks bk s'->(∀c∈bk,h.size<=c)->bk.Nodup->Keep h.size h h'->K (.slice s'.a s'.len s'.cap) h'):
  XRun Tp (Au #[22,22] 22 #[.slice (some ⟨e,0,none⟩) 0 0,.slice s.a s.len s.cap]) h K:=by
 obtain⟨hl,_,_⟩:=rowLen rk
 have Z:=z8e ag rk
 have aa:∀u∈ks.map A5,u.oneCell'=true:=λu hu=>by
  obtain⟨x,_,rfl⟩:=BR.1 hu
  simp[Value.oneCell']
 have hS:∀B d,Src Tp 1 22 (slV s) s.len (ks.map A5) (mk B d h):=λB d=>zc5 Z (by simp[hl]) elemStr.pos aa elemStr.slice B d
 intro B d
 by_cases h0:ks=[]
 ·subst h0
  have O:s.len=0:=hl
  have hr:=x8 (P:=Tp) (ty:=22) elemStr (s:=⟨some ⟨e,0,none⟩,0,0⟩) (h':=h) (hS B d) (by rw[O];simp) (λp hp=>rfl) (λhc=>by cases hc)
  refine⟨_,d,h,hr,?_⟩
  have:=hK ⟨some ⟨e,0,none⟩,0,0⟩ [] h ⟨rfl,by simp,by simp,.inl ⟨rfl,rfl,rfl⟩⟩ (λc hc=>by cases hc) (by simp) (Keep.refl _ _)
  simp only[O];exact this
 ·have ac:0<ks.length:=BB.2 h0
  obtain⟨c,blk,q1,q2,q3,q4,q5⟩:=Yf (P:=Tp) (ty:=22) (tx:=22) (base:=0) elemStr (s:=⟨some ⟨e,0,none⟩,0,0⟩) (h:=h) (xs:=[]) (by simp) (λB d=>Zr (n:=h.size) (.inl rfl) (by simp) elemStr.pos B d) hS (by show(0+s.len)*16<=_;omega) (by show 0+s.len<=_;omega) (BP _) (by show 0<0+s.len;omega) B d
  refine⟨_,d+1,_,q1,?_⟩
  refine hK ⟨some ⟨h.size,0,none⟩,0+s.len,c⟩ [h.size] _ ⟨by show 0+s.len=_;omega,by omega,by show _<=c;simp only at q2;omega,.inr ⟨h.size,blk,rfl,rfl,Blk.new _ _ _,by show c<=_;omega,?_⟩⟩ (λx hx=>by simp at hx;omega) (by simp) (Keep.push _ _ (Ae _))
  unfold cut
  rw[AQ]
  simp only[BL,Cf]at q5
  rw[<-hl]
  simpa using q5
end
section
variable {gl M:Fr} {v:Tr} {h:zb} {K:Value -> zb -> Prop}
set_option maxHeartbeats 4000000 in
theorem zjf(n:Nat):∀(v:Tr),tsz v<=n->Sm v->tsz v<=1000000000->∀{h:zb} {M:Fr} {u:Value},AgM M h->RdV M .tree v u->∀{K:Value->zb->Prop},
  (∀(h':zb) (bs:List Nat) (sk si:Sl),Keep h.size h h'->OT h' v bs (zf v sk si)->(∀b∈bs,h.size<=b)->K (.agg #[.int .i64 v.kind,.string v.text,slV sk,slV si]) h')->XC Tp 12 #[u] h K:=by
 induction n with
 |zero=>intro v h;have:=zb5 v;omega
 |succ n ih=>
  intro v hn hv aS h M u ag hu K hK
  obtain⟨sk,si,rfl,rk,ri⟩:=yp hu
  obtain⟨li,_,_⟩:=rowLen ri
  have bQ:v.items.length<=1000000000:=by have:=Zt v.items;rw[jy]at aS;omega
  apply zcj v.kind v.text sk si
  intro h1 h2
  have k1:Keep h.size h h1:=Keep.push _ _ (Ae _)
  have k2:Keep h1.size h1 h2:=Keep.push _ _ (Ae _)
  have b1:Blk h1 h.size (zc v.kind v.text sk si).toArray:=Blk.new _ _ _
  have b2:Blk h2 h1.size (zc 0 ⟨#[]⟩ ⟨none,0,0⟩ ⟨none,0,0⟩).toArray:=Blk.new _ _ _
  have z1:h1.size=h.size+1:=Ai _
  have z2:h2.size=h1.size+1:=Ai _
  clear_value h1 h2
  have aD:=b1.ofKeep k2
  have aZ:Keep h.size h h2:=k1.trans k2 (by omega)
  intro K5 bM
  have az:∀(hF:zb) (o:Nat) (bk:List Nat) (ck:Sl),Keep h2.size h2 hF->OKeys hF v.keys bk ck->(∀c∈bk,h2.size<=c)->bk.Nodup->h2.size<=o->o∉bk->Blk hF o (zc v.kind v.text ck ⟨none,0,0⟩).toArray->K5 ⟨o,0,none⟩ hF:=by
   intro hF o bk ck kF ok O nk ho bG bo
   refine bM ⟨o,0,none⟩ hF ⟨λi g=>∃(k:Nat) (D:List Nat),i=(k:Int)/\k<=v.items.length/\Keep h2.size h2 g/\o<g.size/\Doc g o (.mk v.kind v.text v.keys (v.items.take k)) D/\∀c∈D,h2.size<=c,
    λi _=>v.items.length-i.toNat,⟨0,bk++([]++(AZ ([]:List Tr).length).flatMap λ_=>[]),rfl,BP _,kF,bo.lt,⟨⟨_,bo,rfl,?_⟩,by simpa using bG⟩,by simpa using O⟩,?_⟩
   ·rw[Cr]
    exact OT.mk (si:=⟨none,0,0⟩) (b:=0) (cs:=#[]) (bf:=λ_=>[]) ok ⟨rfl,by simp,by simp⟩ (.inl ⟨rfl,rfl,rfl⟩) (λi hi=>absurd hi (by simp)) (by simpa using nk)
   rintro i g ⟨k,D,rfl,hk,kg,aN,dg,hD⟩
   have aE:Keep h.size h g:=aZ.trans kg (by omega)
   have agg:=ag.keep aE
   have bg:=aD.ofKeep kg
   have zg:=kg.size
   refine⟨si,bg.cellAdd (by rfl),λhc=>?_,λhc=>?_⟩
   ·have af:k<v.items.length:=by rw[li]at hc;simp at hc;omega
    obtain⟨pb,of,cs0,cn,oi,bk',bb,b,cs,bf,P⟩:=Plc.parts dg.plc
    have aT:=P.ad
    injection aT with e1 e2 _
    subst e1;subst e2
    have bS:=P.fit
    have bc:zm g (Af ⟨o,0,none⟩ 3)=some (slV oi):=by
     refine P.blk.cellAdd ?_
     have:(cut cs0 0 4)[3]?=some (slV oi):=by rw[P.cell];rfl
     rw[zu,if_pos (by omega)]at this
     rw[<-AN];exact this
    obtain⟨a,tk,ti,ea,bE,t1,t2⟩:=zfv agg ri af
    refine⟨oi,bc,si,bg.cellAdd (by rfl),a,⟨ea,by omega,by omega⟩,v.items[k].kind,v.items[k].text,tk,ti,by rw[Ad];exact bE,?_⟩
    have hm:=Ao af
    have cj:=yh hm
    refine ih v.items[k] (by omega) (hv.item hm) (by omega) agg (yd t1 t2) λaC bs wk wi aH ow aA=>⟨v.items[k].kind,v.items[k].text,wk,wi,rfl,aH.get _ aN,?_⟩
    have cd:=aH.size
    intro ap
    have aO:Keep aC.size aC ap:=Keep.push _ _ (Ae _)
    have bp:Blk ap aC.size (zf v.items[k] wk wi).toArray:=Blk.new _ _ _
    have bV:ap.size=aC.size+1:=Ai _
    clear_value ap
    have am:Keep g.size g ap:=aH.trans aO (by omega)
    refine⟨am.get _ aN,?_⟩
    have ar:∀c∈bb,c<g.size:=λc hc=>P.lt c (P.ib c hc)
    have aP:(v.items.take k).length=k:=by rw[AL];omega
    refine znt P.tr (λc hc=>am.get c (ar c hc)) bp (by rw[show(Tr.mk v.kind v.text v.keys (v.items.take k)).items.length=k from aP];omega) λsi' a8 b' cs' q1 q2 q3 q4 q5 q6 q7 q8 q9=>⟨si',rfl,?_⟩
    have bC:∀c,c<g.size->c∉bb->a8[c]?=g[c]?:=λc hc hn=>(q9 c (by omega) hn).trans (am.get c hc)
    have bj:OT a8 v.items[k] bs (zf v.items[k] wk wi):=ow.frame λc hc=>by
     have h1:=ow.lt c hc
     have h2:=aA c hc
     rw[q9 c (by omega) (λhm=>by have:=ar c hm;omega)]
     exact aO.get c h1
    refine zls P aN bj (λc hc=>by
     have h2:=aA c hc
     exact⟨λe=>by omega,λhm=>by have:=P.lt c hm;omega⟩) (by rw[show(Tr.mk v.kind v.text v.keys (v.items.take k)).items.length=k from aP];omega) (by omega) bC q1 q2 q3 q4 q5 q6 (q7.imp id λh=>by omega) (λhm=>by
     have h1:=ow.lt b' hm
     have h2:=aA b' hm
     rcases q7 with⟨e,bO⟩|h
     ·have:=ar b bO;omega
     ·omega) λh' D' bJ tn hz cp=>?_
    rw[yz af (by omega)]
    have cu:=tn.size
    refine⟨⟨k+1,D',rfl,af,⟨by omega,λj hj=>?_⟩,by omega,?_,λc hc=>?_⟩,by simp only[Ad];omega⟩
    ·rw[tn.old j (by omega) (by omega) (λhm=>by have:=hD j hm;omega)];exact kg.get j hj
    ·rw[An af];exact bJ
    ·rcases tn.own c hc with q|q|q
     ·exact hD c q
     ·have:=aA c q;omega
     ·omega
   ·have af:k=v.items.length:=by rw[li]at hc;simp at hc;omega
    subst af
    rw[AE]at dg
    have dg:Doc g o v D:=by cases v;exact dg
    obtain⟨⟨cs,bd,bU,aF⟩,bT⟩:=dg
    obtain⟨dk,di,bh⟩:=aF.cells
    have a1:cs=(zf v dk di).toArray:=by apply Dr;rw[bh];rfl
    rw[bh]at aF
    subst a1
    refine⟨v.kind,v.text,dk,di,bd.ld (cs:=zf v dk di),?_⟩
    refine qa (b2.ofKeep kg) rfl v.kind v.text dk di λg' b' z' f'=>⟨v.kind,v.text,dk,di,b'.ld (cs:=zc v.kind v.text dk di),?_⟩
    refine hK g' D dk di ⟨by have:=aE.size;omega,λj hj=>by rw[f' j (by omega)];exact aE.get j hj⟩ (aF.frame λc hc=>f' c (by have:=hD c hc;omega)) λc hc=>by have:=hD c hc;omega
  have aI:=ag.keep aZ
  have aJ:v.keys.length<=1048576:=hv.keys
  refine⟨v.kind,aD.cellAdd (by rfl),v.text,aD.cellAdd (by rfl),sk,aD.cellAdd (by rfl),?_,?_⟩
  ·intro Z
   have ai:Keep h2.size h2 Z:=Keep.push _ _ (Ae _)
   have ba:Blk Z h2.size #[]:=Blk.new _ _ _
   have cq:Z.size=h2.size+1:=Ai _
   clear_value Z
   have hl:h.size<h2.size:=by omega
   refine⟨ai.get _ hl,ai.get _ hl,ai.get _ hl,?_,?_⟩
   ·refine znz (aI.keep ai) rk aJ ba λs' bk ah ok O nk a7=>⟨s',rfl,?_⟩
    have au:Keep h2.size h2 ah:=ai.trans a7 (by omega)
    have bY:=a7.size
    refine⟨au.get _ hl,au.get _ hl,?_,?_⟩
    all_goals
     intro ax
     have aY:Keep ah.size ah ax:=Keep.push _ _ (Ae _)
     have bL:Blk ax ah.size (zc 0 ⟨#[]⟩ ⟨none,0,0⟩ ⟨none,0,0⟩).toArray:=Blk.new _ _ _
     have cr:ax.size=ah.size+1:=Ai _
     clear_value ax
     have ay:Keep h2.size h2 ax:=au.trans aY (by omega)
     try refine⟨ay.get _ hl,ay.get _ hl,?_⟩
     refine qa bL rfl v.kind v.text s' ⟨none,0,0⟩ λbu bn bZ aQ=>?_
     have aM:∀c∈bk,c<ah.size:=λc hc=>by
      obtain⟨_,_,_,h4⟩:=ok
      rcases h4 with⟨_,h,_⟩|⟨b9,b8,e9,_,bF,_⟩
      ·rw[h]at hc;cases hc
      ·rw[e9]at hc;simp at hc;subst hc;exact bF.lt
     refine az bu ah.size bk s' ⟨by omega,λj hj=>by rw[aQ j (by omega)];exact ay.get j hj⟩ (ok.frame λc hc=>by have:=aM c hc;rw[aQ c (by omega)];exact aY.get c (aM c hc)) (λc hc=>by have:=O c hc;omega) nk (by omega) (λhm=>by have:=aM _ hm;omega) bn
   ·intro an
    have aV:Keep Z.size Z an:=Keep.push _ _ (Ae _)
    have bm:Blk an Z.size (zc 0 ⟨#[]⟩ ⟨none,0,0⟩ ⟨none,0,0⟩).toArray:=Blk.new _ _ _
    have cy:an.size=Z.size+1:=Ai _
    clear_value an
    have aa:Keep h2.size h2 an:=ai.trans aV (by omega)
    refine⟨aa.get _ hl,aa.get _ hl,aa.get _ hl,?_⟩
    refine znz (aI.keep aa) rk aJ (ba.ofKeep aV) λs' bk bH ok O nk aL=>⟨s',rfl,?_⟩
    have al:Keep h2.size h2 bH:=aa.trans aL (by omega)
    refine⟨al.get _ hl,al.get _ hl,?_⟩
    refine qa (bm.ofKeep aL) rfl v.kind v.text s' ⟨none,0,0⟩ λbD bz cg a6=>?_
    have co:=aL.size
    refine az bD Z.size bk s' ⟨by omega,λj hj=>by rw[a6 j (by omega)];exact al.get j hj⟩ (ok.frame λc hc=>by have:=O c hc;rw[a6 c (by omega)]) (λc hc=>by have:=O c hc;omega) nk (by omega) (λhm=>by have:=O _ hm;omega) bz
  ·intro ac
   have aB:Keep h2.size h2 ac:=Keep.push _ _ (Ae _)
   have bP:Blk ac h2.size (zc 0 ⟨#[]⟩ ⟨none,0,0⟩ ⟨none,0,0⟩).toArray:=Blk.new _ _ _
   have cb:ac.size=h2.size+1:=Ai _
   clear_value ac
   have hl:h.size<h2.size:=by omega
   refine⟨aB.get _ hl,aB.get _ hl,aB.get _ hl,?_⟩
   intro ak
   have be:Keep ac.size ac ak:=Keep.push _ _ (Ae _)
   have bB:Blk ak ac.size #[]:=Blk.new _ _ _
   have cc:ak.size=ac.size+1:=Ai _
   clear_value ak
   have ae:Keep h2.size h2 ak:=aB.trans be (by omega)
   refine⟨ae.get _ hl,ae.get _ hl,ae.get _ hl,?_⟩
   refine znz (aI.keep ae) rk aJ bB λs' bk bA ok O nk aG=>⟨s',rfl,?_⟩
   have aj:Keep h2.size h2 bA:=ae.trans aG (by omega)
   refine⟨aj.get _ hl,aj.get _ hl,?_⟩
   refine qa ((bP.ofKeep be).ofKeep aG) rfl v.kind v.text s' ⟨none,0,0⟩ λbI bq cm aU=>?_
   have ca:=aG.size
   refine az bI h2.size bk s' ⟨by omega,λj hj=>by rw[aU j (by omega)];exact aj.get j hj⟩ (ok.frame λc hc=>by have:=O c hc;rw[aU c (by omega)]) (λc hc=>by have:=O c hc;omega) nk (by omega) (λhm=>by have:=O _ hm;omega) bq
theorem zn0{s:Bt}(hv:Sm v)(hs:(lb s).length<=1048576){u:Value}(hM:Fr.le gl M)(ag:AgM M h)(hu:RdV M .tree v u)
  (hK:∀h',Keep h.size h h'->K (.int .i64 (qd v s)) h'):XC Tp 108 #[u,.string s] h K:=by
 have hp:PC Tp gl 108 [Arg.mk .tree v,Arg.mk .str s] [.int .i64] (λr=>r=qd v s):=znb hv hs rfl
 refine hp.go (vs:=[u,.string s]) hM ag (yo hu (yo (rdStr _) ww)) λw h' M' r L O hr=>?_
 have hr:r=qd v s:=hr
 subst hr
 rw[z9s O]
 exact hK h' L.keep
set_option maxHeartbeats 2000000 in
theorem z3j(hg:GL gl)(hv:Sm v){p:List Bt}(hp:SL p){u1 u2:Value}(hM:Fr.le gl M)(ag:AgM M h)(aD:RdV M .tree v u1)(aE:RdV M (.row .str) p u2)
  (a7:(Jx v p).2=false->∀h',Keep h.size h h'->K (.tuple #[.agg #[.int .i64 0,.string (⟨#[]⟩:Bt),.slice none 0 0,.slice none 0 0],.bool false]) h')
  (aJ:∀x,qm v=true->qs p=true->qb v p=some x->∀(h':zb) (bs:List Nat) (sk si:Sl),Keep h.size h h'->OT h' x bs (zf x sk si)->(∀b∈bs,h.size<=b)->K (.tuple #[.agg #[.int .i64 x.kind,.string x.text,slV sk,slV si],.bool true]) h'):
  XC Tp 68 #[u1,u2] h K:=by
 have an:=aD
 obtain⟨sk,si,rfl,rk,ri⟩:=yp aD
 obtain⟨sp,rfl,rp⟩:=zdg aE
 obtain⟨lp,_,_⟩:=rowLen rp
 have be:=hp.n
 apply zed v.kind v.text sk si sp
 intro h1 h2
 have k1:Keep h.size h h1:=Keep.push _ _ (Ae _)
 have k2:Keep h1.size h1 h2:=Keep.push _ _ (Ae _)
 have b1:Blk h1 h.size (zc v.kind v.text sk si).toArray:=Blk.new _ _ _
 have b2:Blk h2 h1.size (zc 0 ⟨#[]⟩ ⟨none,0,0⟩ ⟨none,0,0⟩).toArray:=Blk.new _ _ _
 have z1:h1.size=h.size+1:=Ai _
 have z2:h2.size=h1.size+1:=Ai _
 clear_value h1 h2
 have ay:=b1.ofKeep k2
 have az:Keep h.size h h2:=k1.trans k2 (by omega)
 have aG:∀(g:zb),Keep h.size h g->Blk g h1.size (zc 0 ⟨#[]⟩ ⟨none,0,0⟩ ⟨none,0,0⟩).toArray->(Jx v p).2=false ->
   XRunU Tp (Al 25 (.pointer (some ⟨h1.size,0,none⟩)) (.agg #[.int .i64 0,.string (⟨#[]⟩:Bt),.slice none 0 0,.slice none 0 0])) g (λg'=>∃ak:Int,∃al:Bt,∃O:Sl,∃Z:Sl,ze g' ⟨h1.size,0,none⟩ 0 [.int .i64 ak,.string al,.slice O.a O.len O.cap,.slice Z.a Z.len Z.cap] /\
    K (.tuple #[.agg #[.int .i64 ak,.string al,.slice O.a O.len O.cap,.slice Z.a Z.len Z.cap],.bool false]) g'):=by
  intro g kg bg hf
  refine qa bg rfl 0 ⟨#[]⟩ ⟨none,0,0⟩ ⟨none,0,0⟩ λg' b' z' f'=>⟨0,⟨#[]⟩,⟨none,0,0⟩,⟨none,0,0⟩,b'.ld (cs:=zc 0 ⟨#[]⟩ ⟨none,0,0⟩ ⟨none,0,0⟩),?_⟩
  exact a7 hf g' ⟨by have:=kg.size;omega,λj hj=>by rw[f' j (by omega)];exact kg.get j hj⟩
 refine⟨v.kind,v.text,sk,si,ay.ld (cs:=zc v.kind v.text sk si),?_⟩
 have au:PC Tp gl 107 [Arg.mk .tree v] [.bool] (λr=>r=qm v):=zgw hg hv rfl
 refine au.go (vs:=[.agg #[.int .i64 v.kind,.string v.text,slV sk,slV si]]) hM (ag.keep az) (yo an ww) λw h8 M8 r L8 aN hr=>?_
 have hr:r=qm v:=hr
 subst hr
 refine⟨qm v,zay aN,?_⟩
 have k8:Keep h.size h h8:=az.trans L8.keep (by omega)
 have z8:=L8.keep.size
 have ai:PC Tp gl 40 [Arg.mk (.row .str) p] [.bool] (λr=>r=qs p):=zd1 hp rfl
 refine ai.go (vs:=[slV sp]) hM (ag.keep k8) (yo aE ww) λw aF bh r ah aj af=>?_
 have af:r=qs p:=af
 subst af
 refine⟨qs p,zay aj,?_⟩
 have bj:=ah.keep.size
 have aS:Keep h.size h aF:=k8.trans ah.keep (by omega)
 have aB:=(ay.ofKeep L8.keep).ofKeep ah.keep
 have ap:=(b2.ofKeep L8.keep).ofKeep ah.keep
 refine⟨λhc=>?_,λhc=>?_⟩
 ·refine aG aF aS ap ?_
  unfold Jx
  cases h1:qm v <;> cases h2:qs p <;> simp[h1,h2]at hc ⊢
 obtain⟨ho,hr⟩:qm v=true/\qs p=true:=by
  cases h1:qm v <;> cases h2:qs p <;> simp[h1,h2]at hc ⊢
 have bp:∀x,qb v p=some x->Jx v p=(x,true):=λx hx=>by unfold Jx;rw[ho,hr,hx];rfl
 have aT:qb v p=none->(Jx v p).2=false:=λhx=>by unfold Jx;rw[ho,hr,hx];rfl
 refine⟨λi g=>∃(k:Nat) (x:Tr) (ck ci:Sl),i=(k:Int)/\k<=p.length/\Keep h.size h g/\h1.size<g.size/\Blk g h.size (zc x.kind x.text ck ci).toArray/\Blk g h1.size (zc 0 ⟨#[]⟩ ⟨none,0,0⟩ ⟨none,0,0⟩).toArray/\RdV M .tree x (.agg #[.int .i64 x.kind,.string x.text,slV ck,slV ci])/\Sm x/\Qk zw x=true/\tsz x<=4096/\qb v p=qb x (p.drop k),
  λi _=>p.length-i.toNat,⟨0,v,sk,si,rfl,BP _,aS,by omega,aB,ap,an,hv,xd ho,Y6 ho,by rw[AQ]⟩,?_⟩
 rintro i g ⟨k,x,ck,ci,rfl,hk,kg,zg,bg,ar,rx,hx,aC,bu,hf⟩
 have agg:=ag.keep kg
 refine⟨λhc=>?_,λhc=>?_⟩
 ·have aa:k<p.length:=by rw[lp]at hc;simp at hc;omega
  refine⟨x.kind,x.text,ck,ci,bg.ld (cs:=zc x.kind x.text ck ci),?_⟩
  refine zbo agg rp aa rfl rfl ?_
  refine zn0 hx (hp.s _ (Ao aa)) hM agg rx λaO ae=>⟨qd x p[k],rfl,λaZ=>?_,λa6=>?_⟩
  all_goals have bn:=ae.size
  all_goals have ac:Keep h.size h aO:=kg.trans ae (by have:=kg.size;omega)
  ·have aQ:qd x p[k]<0:=by simpa using aZ
   refine aG aO ac (ar.ofKeep ae) (aT ?_)
   rw[hf,AC aa,zah aQ]
  ·have bc:0<=qd x p[k]:=by simpa using a6
   obtain⟨j,ej,hj⟩:∃j:Nat,qd x p[k]=j/\j<x.items.length:=by
    rcases Y5 (qz aC) p[k]with e|h
    ·omega
    ·exact h
   obtain⟨xk,xi,q,bA,aH⟩:=yp rx
   have e1:slV ck=slV xk/\slV ci=slV xi:=by
    injection q with q
    have:=congrArg CH q
    simp only[Br,and_true,true_and]at this
    exact this
   have e2:ci=xi:=by
    cases ci;cases xi
    have:=e1.2
    simp only[slV,AJ]at this
    obtain⟨a1,a2,a3⟩:=this
    simp_all
   subst e2
   obtain⟨l2,_,_⟩:=rowLen aH
   have aA:=ag.keep ac
   obtain⟨a,yk,yi,ea,aU,t1,t2⟩:=zfv aA aH hj
   have am:=bg.ofKeep ae
   refine⟨ci,am.cellAdd (by rfl),a,⟨ea,by omega,by omega⟩,x.items[j].kind,x.items[j].text,yk,yi,by rw[ej,Ad];exact aU,?_⟩
   refine qa am rfl _ _ _ _ λbo a8 bB aI=>?_
   have hm:=Ao hj
   rw[yz aa (by omega)]
   refine⟨⟨k+1,x.items[j],yk,yi,rfl,aa,⟨by have:=ac.size;omega,λi hi=>by rw[aI i (by omega)];exact ac.get i hi⟩,by omega,a8,(ar.ofKeep ae).keep (aI _ (by omega)),yd t1 t2,hx.item hm,yx aC hm,by have:=yh hm;omega,?_⟩,by simp only[Ad];omega⟩
   rw[hf,AC aa,xq ej hj]
 ·have aa:k=p.length:=by rw[lp]at hc;simp at hc;omega
  subst aa
  rw[BC,Zu]at hf
  refine⟨x.kind,x.text,ck,ci,bg.ld (cs:=zc x.kind x.text ck ci),?_⟩
  refine zjf (tsz x) x (Ae _) hx (by omega) agg rx λaV bs dk di ax ot aL=>⟨x.kind,x.text,dk,di,rfl,?_⟩
  have bq:=ax.size
  have bz:=kg.size
  refine qa (ar.ofKeep ax) rfl _ _ _ _ λba aY bm aM=>⟨x.kind,x.text,dk,di,aY.ld (cs:=zc x.kind x.text dk di),?_⟩
  have aP:Keep h.size h aV:=kg.trans ax (by omega)
  exact aJ x ho hr hf ba bs dk di ⟨by omega,λi hi=>by rw[aM i (by omega)];exact aP.get i hi⟩ (ot.frame λc hc=>aM c (by have:=aL c hc;omega)) λc hc=>by have:=aL c hc;omega
end
section
variable {M:Fr}
theorem OKeys.rd{h:zb}{ks:List Bt}{bs:List Nat}{s:Sl}(H:OKeys h ks bs s)(hM:∀b∈bs,∀cs,Blk h b cs->M b=some cs):Rd M (.row .str) ks [slV s]:=by
 obtain⟨k1,k2,k3,k4⟩:=H
 refine⟨slV s,rfl,s.a,s.cap,by rw[slV,k1],⟨k2,k3⟩,?_⟩
 rcases k4 with⟨h0,_⟩|⟨b',cs',rfl,e1,e2,_,e3⟩
 ·exact .inl h0
 ·refine .inr ⟨b',0,cs',e1,hM b' (by simp) cs' e2,λi hx=>?_⟩
  have:(cut cs' 0 ks.length)[i]?=some (A5 ks[i]):=by rw[e3,B5,Aj hx];rfl
  unfold cut at this
  rw[AF,if_pos hx,AQ]at this
  have O:=(Ax.1 this).1
  show cut cs' (0+i*1) 1=[A5 ks[i]]
  unfold cut
  rw[AD,Cf,AC O,B4,Cr]
  rw[Aj O]at this
  rw[Aw this]
theorem qb6{g g':zb}{v r:Tr}{sk si:Sl}{bk bb:List Nat}{b:Nat}{cs:Array Value}{bf:Nat->List Nat}(P:OTp g v sk si bk bb b cs bf){k:Nat}(hk:k<v.items.length){rc:List Value}(ac:rc.length=4)(an:Blk g' b (upd cs (k*4) rc))(hf:∀j,j≠b->g'[j]?=g[j]?)(ag:AgM M g)
  (ak:∀c,c∈bk++(bb++(AZ v.items.length).flatMap bf)->M c=none) (hr:TrRd M r rc):
  RdV (MxL M g' (bk++(bb++(AZ v.items.length).flatMap bf))) .tree (zrs v k r) (.agg (zf v sk si).toArray)/\AgM (MxL M g' (bk++(bb++(AZ v.items.length).flatMap bf))) g'/\Fr.le M (MxL M g' (bk++(bb++(AZ v.items.length).flatMap bf))):=by
 rcases P.hz with⟨h0,_⟩|⟨Z,ha,hb,au⟩
 ·rw[h0]at hk;simp at hk
 have af:b∈bk++(bb++(AZ v.items.length).flatMap bf):=by rw[Z];simp
 have ae:AgM M g':=λc x e=>by
  obtain⟨T,m,e2⟩:=ag c x e
  have ar:c≠b:=λe3=>by rw[e3,ak b af]at e;cases e
  exact⟨T,m,by rw[hf c ar];exact e2⟩
 have ah:=Y7 ae (bk++(bb++(AZ v.items.length).flatMap bf))
 refine⟨?_,MxL.ag ae _,ah⟩
 have aa:∀c,c∈bk++(bb++(AZ v.items.length).flatMap bf)->∀x,Blk g' c x->MxL M g' (bk++(bb++(AZ v.items.length).flatMap bf)) c=some x:=λc hc x hx=>MxL.at hc hx
 have ap:∀i,i<v.items.length->∀c∈bf i,c∈bk++(bb++(AZ v.items.length).flatMap bf):=λi hi c hc=>by
  simp only[Am,Bj,BO]
  exact .inr (.inr ⟨i,hi,hc⟩)
 have am:∀i,i<v.items.length->b∉bf i:=λi hi hm=>P.d3 b (by rw[Z];simp) i hi hm
 obtain⟨n1,n2,n3⟩:=P.hn
 have hu:k*4+rc.length<=cs.size:=by omega
 unfold RdV
 simp only[zcl,if_true]
 refine⟨_,rfl,?_⟩
 have O:=OKeys.rd (M:=MxL M g' (bk++(bb++(AZ v.items.length).flatMap bf))) (P.keys.frame (h':=g') λc hc=>hf c (λe=>P.d1 c hc (by rw[e,Z];simp))) (λc hc x hx=>aa c (by simp[hc]) x hx)
 obtain⟨vk,e,ai⟩:=O
 simp only[Br,and_true]at e
 subst e
 have al:slV si=.slice si.a (v.items.set k r).length si.cap:=by rw[Dv,slV,n1]
 show TrRd _ (.mk v.kind v.text v.keys (v.items.set k r)) [.int .i64 v.kind,.string v.text,slV sk,slV si]
 rw[al]
 refine TrRd.mk (b:=b) (o:=0) (cs:=upd cs (k*4) rc) ai (by rw[Dv];exact⟨n2,n3⟩) (.inr ⟨ha,aa b af _ an⟩) λi hi=>?_
 rw[Dv]at hi
 rw[AD]
 by_cases aj:i=k
 ·subst aj
  have:=ziu hu
  rw[ac]at this
  rw[this,List.getElem_set_self]
  exact Rd.mono (t:=.tree) ah hr
 ·rw[List.getElem_set_ne (by omega),Jw hu (by omega)]
  refine((P.hi i hi).frame (h':=g') λc hc=>hf c (λe=>am i hi (e ▸ hc))).rd λc hc x hx=>aa c (ap i hi c hc) x hx
set_option maxHeartbeats 4000000 in
theorem zjg{gl:Fr}(hg:GL gl){w:Tr}:∀(p:List Bt) (v:Tr),(yj v p).length=p.length->Sm v->tsz v<=1000000000->SL p->∀{R:Tr->Prop},R (Qh v p w)->PC Tp gl 71 [Arg.mk .tree v,Arg.mk (.row .str) p,Arg.mk .tree w] [.tree] R:=by
 intro p
 induction p with
 |nil=>
  intro v _ hv aC hp R hR h M vs hM ag ah
  match vs,ah with
  |[u1,u2,u3],⟨aa,aj,Z,_⟩=>
  have aa:RdV M .tree v u1:=aa
  have aj:RdV M (.row .str) [] u2:=aj
  have Z:RdV M .tree w u3:=Z
  have am:=Z
  obtain⟨sk,si,rfl,rk,ri⟩:=yp aa
  obtain⟨sp,rfl,rp⟩:=zdg aj
  obtain⟨wk,wi,rfl,bG,bq⟩:=yp Z
  obtain⟨lp,_,_⟩:=rowLen rp
  apply PX.of
  apply Yq v.kind v.text sk si sp w.kind w.text wk wi
  intro h1 h2 h3
  have k1:Keep h.size h h1:=Keep.push _ _ (Ae _)
  have k2:Keep h1.size h1 h2:=Keep.push _ _ (Ae _)
  have k3:Keep h2.size h2 h3:=Keep.push _ _ (Ae _)
  have b2:Blk h2 h1.size (zc w.kind w.text wk wi).toArray:=Blk.new _ _ _
  have b3:Blk h3 h2.size (zc 0 ⟨#[]⟩ ⟨none,0,0⟩ ⟨none,0,0⟩).toArray:=Blk.new _ _ _
  have z1:h1.size=h.size+1:=Ai _
  have z2:h2.size=h1.size+1:=Ai _
  have z3:h3.size=h2.size+1:=Ai _
  clear_value h1 h2 h3
  refine⟨λ_=>⟨w.kind,w.text,wk,wi,(b2.ofKeep k3).ld (cs:=zc w.kind w.text wk wi),?_⟩,λhc=>by rw[lp]at hc;simp at hc⟩
  refine qa b3 rfl _ _ _ _ λh8 b8 z8 f8=>⟨w.kind,w.text,wk,wi,b8.ld (cs:=zc w.kind w.text wk wi),?_⟩
  rw[Qh]at hR
  have kk:Keep h.size h h8:=⟨by omega,λj hj=>by rw[f8 j (by omega),k3.get j (by omega),k2.get j (by omega)];exact k1.get j hj⟩
  exact⟨M,w,Later.same ag kk,zax.2 am,hR⟩
 |cons s p ih=>
  intro v bH hv aC hp R hR h M vs hM ag ah
  match vs,ah with
  |[u1,u2,u3],⟨aa,aj,Z,_⟩=>
  have aa:RdV M .tree v u1:=aa
  have aj:RdV M (.row .str) (s::p) u2:=aj
  have Z:RdV M .tree w u3:=Z
  have aD:=aa
  have am:=Z
  obtain⟨sk,si,rfl,rk,ri⟩:=yp aa
  obtain⟨sp,rfl,rp⟩:=zdg aj
  obtain⟨wk,wi,rfl,bG,bq⟩:=yp Z
  obtain⟨lp,np,cp⟩:=rowLen rp
  obtain⟨li,_,_⟩:=rowLen ri
  obtain⟨k,hk,e1,e2,e3⟩:=Yn bH
  apply PX.of
  apply Yq v.kind v.text sk si sp w.kind w.text wk wi
  intro h1 h2 h3
  have k1:Keep h.size h h1:=Keep.push _ _ (Ae _)
  have k2:Keep h1.size h1 h2:=Keep.push _ _ (Ae _)
  have k3:Keep h2.size h2 h3:=Keep.push _ _ (Ae _)
  have b1:Blk h1 h.size (zc v.kind v.text sk si).toArray:=Blk.new _ _ _
  have b2:Blk h2 h1.size (zc w.kind w.text wk wi).toArray:=Blk.new _ _ _
  have b3:Blk h3 h2.size (zc 0 ⟨#[]⟩ ⟨none,0,0⟩ ⟨none,0,0⟩).toArray:=Blk.new _ _ _
  have z1:h1.size=h.size+1:=Ai _
  have z2:h2.size=h1.size+1:=Ai _
  have z3:h3.size=h2.size+1:=Ai _
  clear_value h1 h2 h3
  have aY:Keep h.size h h3:=(k1.trans k2 (by omega)).trans k3 (by omega)
  have aI:=(b1.ofKeep k2).ofKeep k3
  have bn:=b2.ofKeep k3
  refine⟨λhc=>(by rw[lp]at hc;simp at hc;omega),λ_=>⟨v.kind,v.text,sk,si,aI.ld (cs:=zc v.kind v.text sk si),?_⟩⟩
  refine zjf (tsz v) v (Ae _) hv aC (ag.keep aY) aD λac bs ck ci a6 ot ax=>⟨v.kind,v.text,ck,ci,rfl,?_⟩
  have bU:=a6.size
  intro au
  have bp:Keep ac.size ac au:=Keep.push _ _ (Ae _)
  have aV:Blk au ac.size (zc 0 ⟨#[]⟩ ⟨none,0,0⟩ ⟨none,0,0⟩).toArray:=Blk.new _ _ _
  have bV:au.size=ac.size+1:=Ai _
  clear_value au
  refine qa aV rfl _ _ _ _ λaG a8 bO bF=>?_
  have aL:Keep ac.size ac aG:=⟨by omega,λj hj=>by rw[bF j (by omega)];exact bp.get j hj⟩
  have ae:Keep h3.size h3 aG:=a6.trans aL (by omega)
  have ap:Keep h.size h aG:=aY.trans ae (by omega)
  have aB:=ag.keep ap
  have aN:=ot.frame λc hc=>aL.get c (ot.lt c hc)
  refine⟨v.kind,v.text,sk,si,(aI.ofKeep ae).ld (cs:=zc v.kind v.text sk si),?_⟩
  refine zbo (L:=sp.len) aB rp (k:=0) (by simp) (i:=0) rfl rfl ?_
  refine zn0 hv (hp.s s (by simp)) hM aB aD λbA ai=>⟨qd v s,rfl,?_⟩
  have bP:=ai.size
  have aE:=(aI.ofKeep ae).ofKeep ai
  have aF:=(bn.ofKeep ae).ofKeep ai
  have ak:=a8.ofKeep ai
  have aA:Keep h.size h bA:=ap.trans ai (by have:=ap.size;omega)
  have az:=ag.keep aA
  have ar:=aN.frame λc hc=>ai.get c (by have:=ot.lt c hc;omega)
  obtain⟨aQ,aU,bk,bb,b,cs,bf,aH,P,rfl⟩:=ar.p
  have aO:slV ck=slV aQ/\slV ci=slV aU:=by
   have:zf v ck ci=zf v aQ aU:=aH
   simp only[zf,Br,and_true,true_and]at this
   exact this
  have al:∀{a b:Sl},slV a=slV b->a=b:=λ {a b} h=>by
   cases a;cases b
   simp only[slV,AJ]at h
   obtain⟨a1,a2,a3⟩:=h
   simp_all
  have bo:=al aO.1
  have bD:=al aO.2
  subst bo;subst bD
  obtain⟨n1,n2,n3⟩:=P.hn
  obtain⟨a,tk,ti,ea,bz,t1,t2⟩:=zfv az ri hk
  have hm:=Ao hk
  refine⟨ci,ak.cellAdd (by rfl),si,aE.cellAdd (by rfl),a,⟨ea,by omega,by omega⟩,v.items[k].kind,v.items[k].text,tk,ti,by rw[e1,Ad];exact bz,.inl rfl,⟨by omega,by have:=lp;simp at this;omega,by omega,by omega⟩,w.kind,w.text,wk,wi,aF.ld (cs:=zc w.kind w.text wk wi),?_⟩
  have hl:sp.len=p.length+1:=by rw[lp];rfl
  have bm:RdV M (.row .str) p (.slice (Qv sp.a 1 ((1:Int).toNat) (((sp.cap:Int):Int).toNat)) (((sp.len:Int):Int).toNat-(1:Int).toNat) (((sp.cap:Int):Int).toNat-(1:Int).toNat)):=by
   have:=Rd.sub (a:=sp.a) (n:=sp.len) (c:=sp.cap) rp (l:=1) (r:=sp.len) (m:=sp.cap) (by omega) (by rw[lp];exact Ae _) (by omega) (Ae _)
   rw[lp,AE]at this
   rw[zjj rfl,lp]
   exact this
  have bI:SL p:=⟨by have:=hp.n;simp at this;omega,λx hx=>hp.s x (by simp[hx])⟩
  have ba:PC Tp gl 71 [Arg.mk .tree v.items[k],Arg.mk (.row .str) p,Arg.mk .tree w] [.tree] (λr=>r=Qh v.items[k] p w):=ih v.items[k] e3 (hv.item hm) (by have:=yh hm;omega) bI rfl
  refine ba.go (vs:=[.agg #[.int .i64 v.items[k].kind,.string v.items[k].text,slV tk,slV ti],_,.agg #[.int .i64 w.kind,.string w.text,slV wk,slV wi]]) hM az (yo (yd t1 t2) (yo bm (yo am ww))) λx be aJ r O aP hr=>?_
  have hr:r=Qh v.items[k] p w:=hr
  subst hr
  have an:=zax.1 aP
  have af:=an
  obtain⟨yk,yi,rfl,bY,b9⟩:=yp an
  have bQ:=O.keep.size
  rcases P.hz with⟨h0,_⟩|⟨aM,ha,hb,bM⟩
  ·rw[h0]at hk;simp at hk
  have bE:OTp be v ck ci bk bb b cs bf:=by
   refine⟨P.keys.frame λc hc=>O.keep.get c ?_,P.hn,P.hz.imp id λ⟨q1,q2,q3,q4⟩=>⟨q1,q2,q3.ofKeep O.keep,q4⟩,λi hi=>(P.hi i hi).frame λc hc=>O.keep.get c ((P.hi i hi).lt c hc),P.nk,P.d1,P.d2,P.d3,P.d4⟩
   exact ar.lt c (by simp[hc])
  have a7:∀c,c∈bk++(bb++(AZ v.items.length).flatMap bf)->aJ c=none:=λc hc=>by
   have h1:=ax c hc
   have h2:=ar.lt c hc
   rw[O.old c h2]
   cases hmc:M c with
   |none=>rfl
   |some x=>have:=ag.lt hmc;omega
  refine⟨_,_,yk,yi,rfl,⟨b,0,none⟩,⟨ha,by omega,by omega⟩,O.keep.get _ (by show ac.size<_;omega),?_⟩
  rw[z0q,AD,e1,Ad]
  have bu:=hb.ofKeep O.keep
  refine xr (vs:=zc _ _ yk yi) z6q bu (Xt _ _ _ _) z6r (by show k*4+4<=cs.size;omega) (ze9 _ _ _ _) λaS bC bZ ay=>?_
  have bj:TrRd aJ (Qh v.items[k] p w) (zc (Qh v.items[k] p w).kind (Qh v.items[k] p w).text yk yi):=by
   unfold RdV at af
   simp only[zcl,if_true]at af
   obtain⟨cs',e,bh⟩:=af
   have e:zc (Qh v.items[k] p w).kind (Qh v.items[k] p w).text yk yi=cs':=by injection e with e;exact congrArg CH e
   rw[e];exact bh
  obtain⟨g1,g2,g3⟩:=qb6 bE hk rfl bC ay O.ag a7 bj
  have bJ:h3.size<=b:=ax b (by rw[aM];simp)
  have bL:b<ac.size:=ot.lt b (by rw[aM];simp)
  refine⟨v.kind,v.text,ck,ci,((ak.ofKeep O.keep).keep (ay _ (by omega))).ld (cs:=zc v.kind v.text ck ci),?_⟩
  have bc:Blk aS h2.size (zc 0 ⟨#[]⟩ ⟨none,0,0⟩ ⟨none,0,0⟩).toArray:=(((b3.ofKeep ae).ofKeep ai).ofKeep O.keep).keep (ay _ (by omega))
  refine qa bc rfl _ _ _ _ λbS bB bT aT=>⟨v.kind,v.text,ck,ci,bB.ld (cs:=zc v.kind v.text ck ci),?_⟩
  rw[zgu e1 hk]at hR
  have aZ:∀c,c<h.size->MxL aJ aS (bk++(bb++(AZ v.items.length).flatMap bf)) c=M c:=λc hc=>by
   unfold MxL
   rw[if_neg (λhm=>by have:=ax c hm;omega)]
   exact O.old c (by omega)
  refine⟨_,_,⟨⟨by omega,λj hj=>?_⟩,O.le.trans g3,aZ,λc x e=>?_⟩,zax.2 g1,hR⟩
  ·rw[aT j (by omega),ay j (by omega),O.keep.get j (by omega)];exact aA.get j hj
  ·obtain⟨T,m,e2⟩:=g2 c x e
   refine⟨T,m,?_⟩
   rw[aT c ?_];exact e2
   intro hc
   subst hc
   unfold MxL at e
   rw[if_neg (λhm=>by have:=ax _ hm;omega),O.old _ (by omega)]at e
   have:=ag.lt e;omega
end
section
variable {gl:Fr} {v:Tr}
theorem z8f{l:List Tr}{k:Nat}(hk:k<=l.length)(hl:l.length<=1000000000){R:List Tr->Prop}(h:R (l.take k++v::l.drop k)):PC Tp gl 110 [Arg.mk (.row .tree) l,Arg.mk (.int .i64) (k:Int),Arg.mk .tree v] [.row .tree] R:=by
 apply zff
 simp only[qj,Ad,BV,AQ,AE,Av,AR,CR,Bg,AL]
 refine⟨⟨by omega,by omega,by omega⟩,by omega,by omega,⟨by omega,by omega,by omega⟩,by omega,?_⟩
 rw[AY];exact h
theorem zlt(hg:GL gl)(hv:Sm v)(ov:qm v=true){p:List Bt}(hp:SL p)(hr:qs p=true){y:Tr}(hf:qb v p=some y){R:Tr×Int->Prop}(hR:R (if p=[]then(zT,1)else(zgy v p,0))):
  PC Tp gl 70 [Arg.mk .tree v,Arg.mk (.row .str) p] [.tree,.int .i64] R:=by
 apply zat
 have an:=hp.n
 by_cases h0:p=[]
 ·subst h0
  rw[if_pos rfl]at hR
  refine⟨λ_=>hR,λhc=>?_⟩
  rw[show Aa .i64 (((Bm ([]:List Bt):Nat):Int)-1)=-1 by decide]at hc
  simp at hc
 rw[if_neg h0]at hR
 have al:0<p.length:=BB.2 h0
 have hl:p.length-1<p.length:=by omega
 have w1:Aa .i64 (((Bm p:Nat):Int)-1)=((p.length-1:Nat):Int):=by rw[w64 (by omega)];omega
 rw[w1]
 obtain⟨x,h1,k,h2,h3⟩:=zaj h0 hf
 obtain⟨hk,_⟩:=Ax.1 h3
 have aa:=Ya ov h1
 have ak:=hv.find h1
 have ai:=Y6 aa
 have am:=Zt x.items
 rw[jy]at ai
 have af:(B0 (0:Int).toNat (BJ (((p.length-1:Nat):Int)).toNat p))=Yp p:=by
  unfold Yp;simp
 have ah:qs (Yp p)=true:=by
  unfold qs Yp at *
  simp only[AI,decide_eq_true_eq,AU]at hr ⊢
  exact⟨by rw[AL];omega,λs hs=>hr.2 s (Bi hs)⟩
 have ae:SL (Yp p):=⟨by unfold Yp;rw[AL];omega,λs hs=>hp.s s (Bi hs)⟩
 have aj:Jx v (Yp p)=(x,true):=by unfold Jx;rw[ov,ah,h1];rfl
 refine⟨λhc=>(by simp at hc;omega),λ_=>⟨⟨by omega,by omega,by omega⟩,?_⟩⟩
 rw[af]
 simp only[qj]
 refine znh hg hv ae ?_
 rw[aj]
 refine⟨zgn p,⟨by omega,by rw[Ad,Aj hl,Xw hl]⟩,?_⟩
 refine znb ak (by rw[<-Xw hl];exact hp.s _ (Ao hl)) ?_
 rw[h2,yz hk (by omega)]
 simp only[Ad,BV,AQ,AE,Av,Bg,AL]
 refine⟨⟨by omega,by omega,by omega,trivial⟩,⟨by omega,by omega,by omega⟩,by omega,?_⟩
 intro K hK
 have ac:zgy v p=Qh v (Yp p) (zgx x k):=by
  unfold zgy
  rw[h1]
  simp only
  rw[h2,Ad]
 have Z:∀ks,zgx x k=.mk x.kind x.text ks (x.items.take k++x.items.drop (k+1))->K 0 ⟨#[]⟩ [] [] x.kind x.text ks (x.items.take k++x.items.drop (k+1)):=by
  intro ks he
  refine hK _ _ _ _ _ _ _ _ ⟨⟨by omega,by omega,by omega⟩,?_⟩
  rw[<-he]
  refine zjg hg (Yp p) v (Jz h1) hv (by have:=Y6 ov;omega) ae ?_
  rw[ac]at hR;exact hR
 refine⟨λh6=>?_,λh6=>?_⟩
 ·have O:x.kind=6:=by simpa using h6
  have ap:=xc (qz (xd aa)) O
  refine⟨⟨by omega,by omega,by omega,trivial⟩,⟨by omega,by omega,by omega⟩,by omega,Z _ ?_⟩
  unfold zgx;rw[if_pos O]
 ·have O:¬x.kind=6:=by simpa using h6
  refine Z _ ?_
  unfold zgx;rw[if_neg O]
end
section
variable {gl M M1:Fr} {h g g':zb} {sk si wk wi:Sl} {bv bw br:Nat}
theorem z0c(hg:GL gl){s:Bt}(hs:(lb s).length<=1048576)(hM:Fr.le gl M)(ag:AgM M h){K:Value->zb->Prop}
  (hK:∀h',Keep h.size h h'->K (.tuple #[.int .i64 (Ql (lb s)).1,.bool (Ql (lb s)).2]) h'):XC Tp 109 #[.string s] h K:=by
 have hp:PC Tp gl 109 [Arg.mk .str s] [.int .i64,.bool] (λr=>r=Ql (lb s)):=zpu hs rfl
 refine hp.go (vs:=[.string s]) hM ag (yo (rdStr _) ww) λw h' M' r L O hr=>?_
 have hr:r=Ql (lb s):=hr
 subst hr
 obtain⟨us,⟨x1,Z,rfl,r1,x2,rfl,r2⟩,rfl⟩:=O
 rw[zjj rfl]at r1 r2
 obtain rfl:x1=.int .i64 (Ql (lb s)).1:=by simpa[Rd]using r1
 obtain rfl:x2=.bool (Ql (lb s)).2:=by simpa[Rd]using r2
 exact hK h' L.keep
structure AddSt (h:zb) (M:Fr) (v w:Tr) (sk si wk wi:Sl) (bv bw br:Nat) (g:zb) (M':Fr):Prop where
 later:Later h M g M'
 no:M' br=none
 v:Blk g bv (zc v.kind v.text sk si).toArray
 w:Blk g bw (zc w.kind w.text wk wi).toArray
 r:Blk g br (zc 0 ⟨#[]⟩ ⟨none,0,0⟩ ⟨none,0,0⟩).toArray
 lt:h.size<=bv/\h.size<=bw/\h.size<=br/\bv<g.size/\bw<g.size/\br<g.size
 ne:bv≠br/\bw≠br
theorem AddSt.step{v w:Tr}{M1 M2:Fr}(A:AddSt h M v w sk si wk wi bv bw br g M1)(L:Later g M1 g' M2):AddSt h M v w sk si wk wi bv bw br g' M2:=by
 have hz:=L.keep.size
 obtain⟨l1,l2,l3,l4,l5,l6⟩:=A.lt
 exact⟨A.later.trans L,by rw[L.old _ l6];exact A.no,A.v.ofKeep L.keep,A.w.ofKeep L.keep,A.r.ofKeep L.keep,⟨l1,l2,l3,by omega,by omega,by omega⟩,A.ne⟩
theorem AddSt.poke{v w:Tr}(A:AddSt h M v w sk si wk wi bv bw br g M1){o:Nat}(hz:g'.size=g.size)(hf:∀j,j≠o->g'[j]?=g[j]?)(hM:M1 o=none)(ho:h.size<=o)(h1:o≠bv)(h2:o≠bw)(h3:o≠br):AddSt h M v w sk si wk wi bv bw br g' M1:=by
 obtain⟨l1,l2,l3,l4,l5,l6⟩:=A.lt
 refine⟨⟨⟨by have:=A.later.keep.size;omega,λj hj=>by rw[hf j (by omega)];exact A.later.keep.get j hj⟩,A.later.le,A.later.old,λc x hx=>?_⟩,A.no,A.v.keep (hf _ h1.symm),A.w.keep (hf _ h2.symm),A.r.keep (hf _ h3.symm),⟨l1,l2,l3,by omega,by omega,by omega⟩,A.ne⟩
 obtain⟨T,m,e2⟩:=A.later.ag c x hx
 exact⟨T,m,by rw[hf c (λhc=>by subst hc;rw[hM]at hx;cases hx)];exact e2⟩
theorem z0d{a b:Sl}(h:slV a=slV b):a=b:=by
 cases a;cases b
 simp only[slV,AJ]at h
 obtain⟨a1,a2,a3⟩:=h
 simp_all
theorem zr6(l:Bs)(h:(Ql l).2=true):0<=(Ql l).1/\(Ql l).1<=999999999:=by
 have:=zaf h
 omega
set_option maxHeartbeats 8000000 in
theorem zr7(hg:GL gl){v w:Tr}(hv:Sm v)(ov:qm v=true)(hw:Sm w)(sw:tsz w<=1000000){p:List Bt}(hp:SL p)(hr:qs p=true){R:Tr×Int->Prop}(hR:R (zd9 (zi9 v p w))):
  PC Tp gl 69 [Arg.mk .tree v,Arg.mk (.row .str) p,Arg.mk .tree w] [.tree,.int .i64] R:=by
 intro h M vs hM ag cu
 match vs,cu with
 |[u1,u2,u3],⟨bA,cz,bq,_⟩=>
 have bA:RdV M .tree v u1:=bA
 have cz:RdV M (.row .str) p u2:=cz
 have bq:RdV M .tree w u3:=bq
 have bP:=bA
 have dl:=bq
 obtain⟨sk,si,rfl,rk,ri⟩:=yp bA
 obtain⟨sp,rfl,rp⟩:=zdg cz
 obtain⟨wk,wi,rfl,e8,eU⟩:=yp bq
 obtain⟨lp,np,cp⟩:=rowLen rp
 have fl:=hp.n
 have eN:=Y6 ov
 apply PX.of
 apply zfk v.kind v.text sk si sp w.kind w.text wk wi
 intro h1 h2 h3
 have k1:Keep h.size h h1:=Keep.push _ _ (Ae _)
 have k2:Keep h1.size h1 h2:=Keep.push _ _ (Ae _)
 have k3:Keep h2.size h2 h3:=Keep.push _ _ (Ae _)
 have b1:Blk h1 h.size (zc v.kind v.text sk si).toArray:=Blk.new _ _ _
 have b2:Blk h2 h1.size (zc w.kind w.text wk wi).toArray:=Blk.new _ _ _
 have b3:Blk h3 h2.size (zc 0 ⟨#[]⟩ ⟨none,0,0⟩ ⟨none,0,0⟩).toArray:=Blk.new _ _ _
 have z1:h1.size=h.size+1:=Ai _
 have z2:h2.size=h1.size+1:=Ai _
 have z3:h3.size=h2.size+1:=Ai _
 clear_value h1 h2 h3
 have dN:Keep h.size h h3:=(k1.trans k2 (by omega)).trans k3 (by omega)
 have aQ:∀b,h.size<=b->M b=none:=λb hb=>by
  cases e:M b with
  |none=>rfl
  |some x=>have:=ag.lt e;omega
 have A3:AddSt h M v w sk si wk wi h.size h1.size h2.size h3 M:=⟨Later.same ag dN,aQ _ (by omega),(b1.ofKeep k2).ofKeep k3,b2.ofKeep k3,b3,⟨by omega,by omega,by omega,by omega,by omega,by omega⟩,⟨by omega,by omega⟩⟩
 have R':=R
 have aL:∀(g:zb) (M':Fr) (t:Tr) (tk ti:Sl) (e:Int),AddSt h M v w sk si wk wi h.size h1.size h2.size g M'->RdV M' .tree t (.agg #[.int .i64 t.kind,.string t.text,slV tk,slV ti])->R (t,e) ->
   XRunU Tp (Al 25 (.pointer (some ⟨h2.size,0,none⟩)) (.agg #[.int .i64 t.kind,.string t.text,.slice tk.a tk.len tk.cap,.slice ti.a ti.len ti.cap])) g (λg'=>∃bD:Int,∃bJ:Bt,∃af:Sl,∃ah:Sl,ze g' ⟨h2.size,0,none⟩ 0 [.int .i64 bD,.string bJ,.slice af.a af.len af.cap,.slice ah.a ah.len ah.cap] /\
    (∃M' r',Later h M g' M'/\zht M' [.tree,.int .i64] r' (.tuple #[.agg #[.int .i64 bD,.string bJ,.slice af.a af.len af.cap,.slice ah.a ah.len ah.cap],.int .i64 e])/\R r')):=by
  intro g M' t tk ti e A cm dH
  refine qa A.r rfl _ _ _ _ λg' b' z' f'=>⟨t.kind,t.text,tk,ti,b'.ld (cs:=zc t.kind t.text tk ti),?_⟩
  obtain⟨l1,l2,l3,l4,l5,l6⟩:=A.lt
  refine⟨M',(t,e),⟨⟨by have:=A.later.keep.size;omega,λj hj=>by rw[f' j (by omega)];exact A.later.keep.get j hj⟩,A.later.le,A.later.old,λc x hx=>?_⟩,⟨[_,_],⟨_,_,rfl,cm,_,rfl,zxu _ _⟩,rfl⟩,dH⟩
  obtain⟨T,m,e2⟩:=A.later.ag c x hx
  exact⟨T,m,by rw[f' c (λhc=>by subst hc;rw[A.no]at hx;cases hx)];exact e2⟩
 have bV:∀M':Fr,RdV M' .tree zT (.agg #[.int .i64 zT.kind,.string zT.text,slV ⟨none,0,0⟩,slV ⟨none,0,0⟩]):=λM'=>
  yd (v:=zT) ⟨_,rfl,none,0,rfl,⟨by simp[zT],by simp[zT]⟩,.inl rfl⟩ ⟨_,rfl,none,0,rfl,⟨by simp[zT],by simp[zT]⟩,.inl rfl⟩
 have cl:∀(g:zb) (M':Fr) (K:Value->zb->Prop),AddSt h M v w sk si wk wi h.size h1.size h2.size g M'->(∀(g':zb) (bs:List Nat) (ck ci:Sl),Keep g.size g g'->OT g' w bs (zf w ck ci)->(∀b∈bs,g.size<=b)->K (.agg #[.int .i64 w.kind,.string w.text,slV ck,slV ci]) g') ->
   XC Tp 12 #[.agg #[.int .i64 w.kind,.string w.text,slV wk,slV wi]] g K:=λg M' K A hK=>zjf (tsz w) w (Ae _) hw (by omega) A.later.ag (RdV.mono A.later.le dl) hK
 refine⟨λhc=>?_,λhc=>?_⟩
 ·have dS:p=[]:=Az (by rw[lp]at hc;simp at hc;simp[hc])
  refine⟨w.kind,w.text,wk,wi,A3.w.ld (cs:=zc w.kind w.text wk wi),?_⟩
  refine cl h3 M _ A3 λg' bs ck ci kg ot aa=>⟨w.kind,w.text,ck,ci,rfl,?_⟩
  have dO:=A3.later.ag
  have L:=MxL.later (M:=M) (h0:=h3) (h:=g') dO kg (bs:=bs) aa
  refine aL g' _ w ck ci 0 (A3.step L) ot.rdv ?_
  unfold zi9 at hR
  rw[if_pos dS]at hR;exact hR
 have du:p≠[]:=λe=>by rw[lp,e]at hc;simp at hc
 have ez:0<p.length:=BB.2 du
 have hl:p.length-1<p.length:=by omega
 have w1:Aa .i64 (((sp.len:Nat):Int)-1)=((p.length-1:Nat):Int):=by rw[lp,w64 (by omega)];omega
 have dy:=zzo (v:=v) (w:=w) du
 rw[dy]at hR
 have aY:=Xw hl
 have dF:qs (Yp p)=true:=by
  unfold qs Yp at *
  simp only[AI,decide_eq_true_eq,AU]at hr ⊢
  exact⟨by rw[AL];omega,λs hs=>hr.2 s (Bi hs)⟩
 have dt:SL (Yp p):=⟨by unfold Yp;rw[AL];omega,λs hs=>hp.s s (Bi hs)⟩
 have dE:(Jx v (Yp p)).2=false->qb v (Yp p)=none:=λhf=>by
  unfold Jx at hf
  rw[ov,dF]at hf
  cases e:qb v (Yp p)with
  |none=>rfl
  |some x=>rw[e]at hf;cases hf
 have bU:=zns rp (n:=p.length-1) (by omega)
 have df:p.take (p.length-1)=Yp p:=rfl
 rw[df]at bU
 generalize fa:zgn p=st at *
 have bS:(lb st).length<=1048576:=by rw[<-aY];exact hp.s _ (Ao hl)
 rw[w1]
 simp -zeta only[Ad,BV,BK,Z9]
 intro cJ bI
 have aS:∀(o:Nat) (g:zb),qb v (Yp p)=none->Keep h3.size h3 g->cJ ⟨o,0,none⟩ false g:=by
  intro o g hf kg
  have A:=A3.step (Later.same A3.later.ag kg)
  refine bI ⟨o,0,none⟩ false g ⟨0,(λhx=>by simp at hx),0,(λhx=>by simp at hx),λ_=>?_,λhx=>by simp at hx⟩
  rw[hf]at hR
  exact aL g M zT ⟨none,0,0⟩ ⟨none,0,0⟩ 8 A (bV M) hR
 have a7:∀(o:Nat) (g:zb) (x:Tr) (bx:List Nat) (xk xi:Sl),qb v (Yp p)=some x->Keep h3.size h3 g->h3.size<=o->Blk g o (zc x.kind x.text xk xi).toArray->OT g x bx (zf x xk xi)->(∀c∈bx,h3.size<=c)->o∉bx->cJ ⟨o,0,none⟩ true g:=by
  intro o g x bx xk xi hf kg ho bo ot O cG
  have A:=A3.step (Later.same A3.later.ag kg)
  rw[hf,BW]at hR
  have cL:=Ya ov hf
  have bF:=hv.find hf
  have cE:=Y6 cL
  have fg:x.items.length<=4096:=by have:=Zt x.items;rw[jy]at cE;omega
  have cY:x.keys.length<=1048576:=bF.keys
  have fe:=bo.lt
  have aO:zm g (Af ⟨o,0,none⟩ 0)=some (.int .i64 x.kind):=bo.cellAdd (by rfl)
  refine bI ⟨o,0,none⟩ true g ⟨x.kind,(λ_=>aO),x.kind,(λ_=>aO),λhx=>?_,λhx=>?_⟩
  ·have h5:¬x.kind=5:=by intro e;simp[e]at hx
   have h6:x.kind≠6:=by intro e;simp[e]at hx
   rw[if_neg h5,if_pos h6]at hR
   exact aL g M zT ⟨none,0,0⟩ ⟨none,0,0⟩ 8 A (bV M) hR
  have em:x.kind=5\/x.kind=6:=by
   by_cases e5:x.kind=5
   ·exact .inl e5
   ·right
    have ee:(x.kind != 5)=true:=by simpa using e5
    simpa[ee]using hx
  refine⟨x.kind,x.text,xk,xi,bo.ld (cs:=zc x.kind x.text xk xi),?_⟩
  refine zbo A.later.ag rp hl rfl rfl ?_
  rw[aY]
  have fo:=A.later.keep.size
  have ed:=Y7 A.later.ag bx
  refine zn0 bF bS (hM.trans ed) (MxL.ag A.later.ag bx) ot.rdv λg2 aZ=>⟨qd x st,rfl,?_⟩
  have fc:=aZ.size
  have A2:AddSt h M v w sk si wk wi h.size h1.size h2.size g2 M:=A.step (Later.same A.later.ag aZ)
  have bC:=bo.ofKeep aZ
  have bz:OT g2 x bx (zf x xk xi):=ot.frame λc hc=>aZ.get c (ot.lt c hc)
  have cT:Doc g2 o x bx:=⟨⟨_,bC,rfl,bz⟩,cG⟩
  intro cZ dx
  have bh:∀(g':zb) (M':Fr) (x':Tr) (ck ci:Sl),AddSt h M v w sk si wk wi h.size h1.size h2.size g' M'->Blk g' o (zc x'.kind x'.text ck ci).toArray->RdV M' .tree x' (.agg #[.int .i64 x'.kind,.string x'.text,slV ck,slV ci])->R (Qh v (Yp p) x',0)->cZ g':=by
   intro g' M' x' ck ci A' dQ cm cn
   refine dx g' ⟨v.kind,v.text,sk,si,A'.v.ld (cs:=zc v.kind v.text sk si),.inr ⟨_,rfl⟩,⟨by omega,by omega,by omega,by omega⟩,x'.kind,x'.text,ck,ci,dQ.ld (cs:=zc x'.kind x'.text ck ci),?_⟩
   have dU:PC Tp gl 71 [Arg.mk .tree v,Arg.mk (.row .str) (Yp p),Arg.mk .tree x'] [.tree] (λr=>r=Qh v (Yp p) x'):=zjg hg (Yp p) v (Jz hf) hv (by omega) dt rfl
   refine dU.go (vs:=[.agg #[.int .i64 v.kind,.string v.text,slV sk,slV si],_,.agg #[.int .i64 x'.kind,.string x'.text,slV ck,slV ci]]) (hM.trans A'.later.le) A'.later.ag (yo (RdV.mono A'.later.le bP) (yo (RdV.mono A'.later.le bU) (yo cm ww))) λy g3 M3 r L3 aC b9=>?_
   have b9:r=Qh v (Yp p) x':=b9
   subst b9
   have cb:=zax.1 aC
   obtain⟨yk,yi,rfl,e7,fv⟩:=yp cb
   exact⟨_,_,yk,yi,rfl,aL g3 M3 _ yk yi 0 (A'.step L3) (zax.1 aC) cn⟩
  have aM:∀(g':zb) (x':Tr) (D':List Nat),Keep h3.size h3 g'->Doc g' o x' D'->(∀c∈D',h3.size<=c)->R (Qh v (Yp p) x',0)->cZ g':=by
   intro g' x' D' ac hd cg cn
   obtain⟨⟨cs,bd,eP,cq⟩,e3⟩:=hd
   obtain⟨dk,di,dD⟩:=cq.cells
   have cO:cs=(zf x' dk di).toArray:=by apply Dr;rw[dD];rfl
   rw[dD]at cq
   subst cO
   have L:=MxL.later (M:=M) (h0:=h3) (h:=g') A3.later.ag ac (bs:=D') cg
   exact bh g' _ x' dk di (A3.step L) bd cq.rdv cn
  have ek:=kg.size
  have a8:Keep h3.size h3 g2:=kg.trans aZ ek
  have cd:∀(g':zb) (D' cj:List Nat),Turn g2 g' o bx cj D'->(∀c∈cj,h3.size<=c)->Keep h3.size h3 g'/\∀c∈D',h3.size<=c:=λg' D' cj tn cM=>by
   have:=tn.size
   refine⟨⟨by omega,λj hj=>by rw[tn.old j (by omega) (by omega) (λhm=>by have:=O j hm;omega)];exact a8.get j hj⟩,λc hc=>?_⟩
   rcases tn.own c hc with q|q|q
   ·exact O c q
   ·exact cM c q
   ·omega
  have aB:o<g2.size:=by omega
  refine⟨x.kind,bC.cellAdd (by rfl),λau=>?_,λau=>⟨x.kind,bC.cellAdd (by rfl),λbj=>?_,λbj=>?_⟩⟩
  ·-- a member written over
   have e6:x.kind=6:=by
    by_cases e:x.kind=6
    ·exact e
    ·have:(x.kind==6)=false:=by simpa using e
     rw[this]at au;simp at au
   have ec:0<=qd x st:=by
    rw[e6]at au
    simpa using au
   rw[if_neg (by rw[e6];decide),if_neg (by rw[e6];simp),if_pos ec]at hR
   obtain⟨j,ej,hj⟩:∃j:Nat,qd x st=j/\j<x.items.length:=by
    rcases Y5 (qz (xd cL)) st with e|h
    ·omega
    ·exact h
   rw[ej,Ad]at hR
   obtain⟨dr,a,c1,c2,c3,plc⟩:=cT.plc.step hj
   refine⟨dr,c1,w.kind,w.text,wk,wi,A2.w.ld (cs:=zc w.kind w.text wk wi),?_⟩
   refine cl g2 M _ A2 λg3 bs ck ci bp ow aa=>⟨w.kind,w.text,ck,ci,rfl,a,⟨c2,by omega,by omega⟩,bp.get _ aB,?_⟩
   have eT:=bp.size
   have cP:=Plc.keepK plc aB bp
   rw[ej,Ad]
   obtain⟨b,of,cs,e9,e,hb,cH,e4,eI,a1,eE,ev,dA,en⟩:=cP
   rw[e]
   refine xr (vs:=zf w ck ci) znv hb rfl znu (by show of+4<=_;omega) (Q9 w ck ci) λg4 b4 z4 f4=>?_
   have ep:∀c,c≠o->c∉bx->c≠b:=λc q1 q2 e=>by
    rcases a1 with h|h
    ·exact q1 (by rw[e,h])
    ·exact q2 (by rw[e];exact h)
   have aV:∀c∈bs,c≠o/\c∉bx:=λc hc=>by
    have:=aa c hc
    exact⟨by omega,λhm=>by have:=bz.lt c hm;omega⟩
   obtain⟨D',cg,dB⟩:=en g4 w (zf w ck ci) bs (λc n1 _ _=>f4 c n1) b4 (ow.frame λc hc=>f4 c (ep c (aV c hc).1 (aV c hc).2)) (λc hc=>.inr (aV c hc))
   have eu:h3.size<=b:=by
    rcases a1 with h|h
    ·omega
    ·exact O b h
   refine aM g4 (zrs x j w) D' ⟨by omega,λi hi=>by rw[f4 i (by omega),bp.get i (by omega)];exact a8.get i hi⟩ cg (λc hc=>?_) hR
   rcases dB c hc with q|q
   ·exact O c q
   ·have:=aa c q;omega
  ·-- a member more
   have e6:x.kind=6:=by simpa using bj
   have dA:¬0<=qd x st:=by
    rw[e6]at au
    simpa using au
   rw[if_neg (by rw[e6];decide),if_neg (by rw[e6];simp),if_neg dA]at hR
   obtain⟨pb,of,cs0,sk',dr,bk,bb,b,cs,bf,P⟩:=Plc.parts cT.plc
   have dh:=P.ad
   injection dh with q1 q2 _
   subst q1;subst q2
   have cH:=P.fit
   have da:zm g2 (Af ⟨o,0,none⟩ 2)=some (slV sk'):=by
    refine P.blk.cellAdd ?_
    have:(cut cs0 0 4)[2]?=some (slV sk'):=by rw[P.cell];rfl
    rw[zu,if_pos (by omega)]at this
    rw[<-AN];exact this
   refine⟨sk',da,?_⟩
   refine zbo A2.later.ag rp hl rfl rfl ?_
   rw[aY]
   intro bu
   have cA:Keep g2.size g2 bu:=Keep.push _ _ (Ae _)
   have dZ:Blk bu g2.size #[.string st]:=Blk.new _ _ _
   have eO:bu.size=g2.size+1:=Ai _
   clear_value bu
   refine⟨cA.get _ aB,?_⟩
   refine zzm (P.tr.keys.frame λc hc=>cA.get c (P.lt c (P.ik c hc))) dZ cY λdv eQ kb ok eb zz ff=>⟨dv,rfl,?_⟩
   refine z0b P aB (by omega) (λc hc hn=>(ff c (by omega) hn).trans (cA.get c hc)) ok (eb.imp id λh=>by omega) λaG d0 bG c8 eF eB=>?_
   obtain⟨ae,aI⟩:=cd aG d0 [] c8 (λc hc=>by cases hc)
   have cQ:=A3.step (Later.same A3.later.ag ae)
   have aP:=bG.lt o (.inl rfl)
   obtain⟨fp,fi,cV,ft,co,fj,dY,eS,eY,fh,P2⟩:=Plc.parts bG.plc
   have ca:=P2.ad
   injection ca with q1 q2 _
   subst q1;subst q2
   have ea:=P2.fit
   have cB:zm aG (Af ⟨o,0,none⟩ 3)=some (slV co):=by
    refine P2.blk.cellAdd ?_
    have:(cut cV 0 4)[3]?=some (slV co):=by rw[P2.cell];rfl
    rw[zu,if_pos (by omega)]at this
    rw[<-AN];exact this
   refine⟨co,cB,w.kind,w.text,wk,wi,cQ.w.ld (cs:=zc w.kind w.text wk wi),?_⟩
   refine cl aG M _ cQ λbB bs ck ci cc ow aa=>⟨w.kind,w.text,ck,ci,rfl,cc.get _ aP,?_⟩
   have eV:=cc.size
   intro ba
   have dw:Keep bB.size bB ba:=Keep.push _ _ (Ae _)
   have d6:Blk ba bB.size (zf w ck ci).toArray:=Blk.new _ _ _
   have eZ:ba.size=bB.size+1:=Ai _
   clear_value ba
   have ay:Keep aG.size aG ba:=cc.trans dw (by omega)
   refine⟨ay.get _ aP,?_⟩
   have aU:∀c∈dY,c<aG.size:=λc hc=>P2.lt c (P2.ib c hc)
   refine znt P2.tr (λc hc=>ay.get c (aU c hc)) d6 (by show x.items.length<=_;omega) λsi' dL b' cs' q1 q2 q3 q4 q5 q6 q7 q8 q9=>⟨si',rfl,?_⟩
   have dC:OT dL w bs (zf w ck ci):=ow.frame λc hc=>by
    have h1:=ow.lt c hc
    have h2:=aa c hc
    rw[q9 c (by omega) (λhm=>by have:=aU c hm;omega)]
    exact dw.get c h1
   refine zls P2 aP dC (λc hc=>by
    have h2:=aa c hc
    exact⟨λe=>by omega,λhm=>by have:=P2.lt c hm;omega⟩) (by show x.items.length<=_;omega) (by omega) (λc hc hn=>(q9 c (by omega) hn).trans (ay.get c hc)) q1 q2 q3 q4 q5 q6 (q7.imp id λh=>by omega) (λhm=>by
    have h1:=ow.lt b' hm
    have h2:=aa b' hm
    rcases q7 with⟨e,er⟩|h
    ·have:=aU b' (by rw[e];exact er);omega
    ·omega) λd8 dM dq aH ew eD=>?_
   have zt:=aH.size
   refine aM d8 (z7k x st w) dM ⟨by have:=ae.size;omega,λj hj=>by rw[aH.old j (by have:=ae.size;omega) (by omega) (λhm=>by have:=aI j hm;omega)];exact ae.get j hj⟩ dq (λc hc=>?_) hR
   rcases aH.own c hc with q|q|q
   ·exact aI c q
   ·have:=aa c q;have:=ae.size;omega
   ·have:=ae.size;omega
  ·-- an array
   have e6:¬x.kind=6:=by simpa using bj
   have e5:x.kind=5:=em.resolve_right e6
   rw[if_pos e5]at hR
   refine zbo A2.later.ag rp hl rfl rfl ?_
   rw[aY]
   have fq:=hM
   refine z0c hg bS hM A2.later.ag λZ aE=>⟨(Ql (lb st)).1,(Ql (lb st)).2,rfl,?_⟩
   have eL:=aE.size
   have aJ:Keep h3.size h3 Z:=a8.trans aE (by omega)
   have aD:=A3.step (Later.same A3.later.ag aJ)
   have aj:=bC.ofKeep aE
   have ax:OT Z x bx (zf x xk xi):=bz.frame λc hc=>aE.get c (bz.lt c hc)
   have cr:xi.len=x.items.length:=by
    have h0:=ax.rdv (M:=M)
    obtain⟨ak,ai,q,_,r2⟩:=yp h0
    have e2:slV xi=slV ai:=by
     injection q with q
     have:=congrArg CH q
     simp only[zf,Br,and_true,true_and]at this
     exact this.2
    rw[z0d e2];exact(rowLen r2).1
   intro bH bn
   have he:(st.toList==((⟨#[45]⟩:Bt):Bt).toList)=decide (lb st=[45]):=qak st #[45]
   have aT:∀k:Nat,ztz x st=some k->bH (k:Int) Z:=by
    intro k aF
    have dm:=z7j aF
    rw[aF]at hR
    refine bn (k:Int) Z ⟨(λhx=>by have:=of_decide_eq_true hx;omega),λ_=>⟨xi,aj.cellAdd (by rfl),w.kind,w.text,wk,wi,aD.w.ld (cs:=zc w.kind w.text wk wi),?_⟩⟩
    refine cl Z M _ aD λap bs ck ci am ow aa=>⟨w.kind,w.text,ck,ci,rfl,am.get _ (by show o<_;omega),?_⟩
    have eM:=am.size
    have bZ:Keep h3.size h3 ap:=aJ.trans am (by omega)
    have bY:OT ap x bx (zf x xk xi):=ax.frame λc hc=>am.get c (ax.lt c hc)
    have dd:=MxL.later (M:=M) (h0:=h3) (h:=ap) A3.later.ag bZ (bs:=bx++bs) (λc hc=>by
     rcases Am.1 hc with hc|hc
     ·exact O c hc
     ·have:=aa c hc;omega)
    have be:=A3.step dd
    have dT:RdV (MxL M ap (bx++bs)) .tree x (.agg (zf x xk xi).toArray):=by
     unfold RdV;simp only[zcl,if_true]
     exact⟨_,rfl,bY.rd λb hb cs e=>MxL.at (by simp[hb]) e⟩
    have eh:RdV (MxL M ap (bx++bs)) .tree w (.agg (zf w ck ci).toArray):=by
     unfold RdV;simp only[zcl,if_true]
     exact⟨_,rfl,ow.rd λb hb cs e=>MxL.at (by simp[hb]) e⟩
    obtain⟨ak,ai,q,dJ,dG⟩:=yp dT
    have e2:slV xk=slV ak/\slV xi=slV ai:=by
     injection q with q
     have:=congrArg CH q
     simp only[zf,Br,and_true,true_and]at this
     exact this
    have dV:=z0d e2.1
    have dP:=z0d e2.2
    subst dV;subst dP
    have de:PC Tp gl 110 [Arg.mk (.row .tree) x.items,Arg.mk (.int .i64) (k:Int),Arg.mk .tree w] [.row .tree] (λr=>r=x.items.take k++w::x.items.drop k):=z8f dm (by omega) rfl
    refine de.go (vs:=[slV xi,.int .i64 (k:Int),.agg (zf w ck ci).toArray]) (hM.trans be.later.le) be.later.ag (yo (by rw[zjj rfl];exact dG) (yo (zxu _ _) (yo eh ww))) λy eH bE r al aC hr=>?_
    have hr:r=_:=hr
    subst hr
    have dz:=be.step al
    obtain⟨s',rfl,d5⟩:=zdg (zax.1 aC)
    have eG:=al.keep.size
    have d7:bE o=none:=by
     rw[al.old o (by omega)]
     unfold MxL
     rw[if_neg (λhm=>by
      rcases Am.1 hm with hm|hm
      ·exact cG hm
      ·have:=aa o hm;omega)]
     exact aQ o (by omega)
    refine⟨s',rfl,?_⟩
    have cy:=(aj.ofKeep am).ofKeep al.keep
    rw[zo]
    refine xr (vs:=[slV s']) zlk cy rfl zll (by show 0+3+1<=4;omega) (by simp[Value.oneCell',slV]) λg' b' z' f'=>?_
    rw[zp5 (a:=.int .i64 x.kind) (b:=.string x.text) (c:=slV xk) (d:=slV xi) (by show 0+4<=4;omega) rfl]at b'
    have ei:Blk g' o (zc (zzh x k w).kind (zzh x k w).text xk s').toArray:=by
     rw[zru (by rfl)]at b';exact b'
    refine bh g' bE (zzh x k w) xk s' (dz.poke (by omega) f' d7 (by omega) (by omega) (by omega) (by omega)) ei (yd (v:=zzh x k w) (Rd.mono al.le dJ) d5) hR
   have b8:ztz x st=none->bH (-1) Z:=by
    intro aF
    rw[aF]at hR
    refine bn (-1) Z ⟨λ_=>aL Z M zT ⟨none,0,0⟩ ⟨none,0,0⟩ 8 aD (bV M) hR,λhx=>by simp at hx⟩
   refine zbo aD.later.ag rp hl rfl rfl ?_
   rw[aY,he]
   refine⟨xi,(λ_=>aj.cellAdd (by rfl)),λhc=>⟨xi,aj.cellAdd (by rfl),?_⟩,λhc=>?_⟩
   ·rw[cr]
    refine aT _ ?_
    unfold ztz
    by_cases az:lb st=[45]
    ·rw[if_pos az]
    ·rw[if_neg az]
     have aN:decide (lb st=[45])=false:=by simpa using az
     rw[aN,cond_false]at hc
     cases h2:(Ql (lb st)).2 with
     |false=>rw[h2]at hc;cases hc
     |true=>
      rw[h2,cr]at hc
      have:(Ql (lb st)).1=(x.items.length:Int):=by simpa using hc
      rw[if_pos ⟨rfl,by omega⟩,this,Ad]
   ·have az:¬lb st=[45]:=λe=>by
     have:decide (lb st=[45])=true:=by simpa using e
     rw[this]at hc;cases hc
    have aN:decide (lb st=[45])=false:=by simpa using az
    rw[aN,cond_false]at hc
    have bm:qd x st=if(Ql (lb st)).2=true/\(Ql (lb st)).1<x.items.length then(Ql (lb st)).1 else -1:=by
     unfold qd
     rw[if_neg e6,if_pos e5]
    by_cases hb:(Ql (lb st)).2=true/\(Ql (lb st)).1<x.items.length
    ·rw[bm,if_pos hb]
     have d9:=zr6 _ hb.1
     have:=aT (Ql (lb st)).1.toNat (by unfold ztz;rw[if_neg az,if_pos ⟨hb.1,by omega⟩])
     rw[De d9.1]at this
     exact this
    ·rw[bm,if_neg hb]
     refine b8 ?_
     unfold ztz
     rw[if_neg az,if_neg]
     rintro⟨c1,c2⟩
     rw[c1,cr]at hc
     have:(Ql (lb st)).1≠(x.items.length:Int):=by simpa using hc
     exact hb ⟨c1,by omega⟩
 have bc:∀(g:zb) (o:Nat) (K:Value->zb->Prop),Keep h3.size h3 g->(∀g',Keep g.size g g'->qb v (Yp p)=none->K (.tuple #[.agg #[.int .i64 0,.string (⟨#[]⟩:Bt),.slice none 0 0,.slice none 0 0],.bool false]) g') ->
   (∀(x:Tr) (g':zb) (bx:List Nat) (xk xi:Sl),qb v (Yp p)=some x->Keep g.size g g'->OT g' x bx (zf x xk xi)->(∀c∈bx,g.size<=c)->K (.tuple #[.agg #[.int .i64 x.kind,.string x.text,slV xk,slV xi],.bool true]) g') ->
   XC Tp 68 #[.agg #[.int .i64 v.kind,.string v.text,slV sk,slV si],.slice sp.a (p.length-1) sp.cap] g K:=by
  intro g o K kg eo dI
  have A:=A3.step (Later.same A3.later.ag kg)
  exact z3j hg hv dt hM A.later.ag bP bU (λhf g' k=>eo g' k (dE hf)) λx _ _ hf g' bx xk xi k ot O=>dI x g' bx xk xi hf k ot O
 refine⟨v.kind,v.text,sk,si,A3.v.ld (cs:=zc v.kind v.text sk si),.inr ⟨_,rfl⟩,⟨by omega,by omega,by omega,by omega⟩,?_,?_⟩
 ·refine bc h3 0 _ (Keep.refl _ _) (λg' ac hf=>⟨0,⟨#[]⟩,⟨none,0,0⟩,⟨none,0,0⟩,false,rfl,?_⟩) λx g' bx xk xi hf ac ot O=>⟨x.kind,x.text,xk,xi,true,rfl,?_⟩
  all_goals
   intro aA
   have bL:Keep g'.size g' aA:=Keep.push _ _ (Ae _)
   have c7:Blk aA g'.size (zc 0 ⟨#[]⟩ ⟨none,0,0⟩ ⟨none,0,0⟩).toArray:=Blk.new _ _ _
   have eC:aA.size=g'.size+1:=Ai _
   clear_value aA
   refine qa c7 rfl _ _ _ _ λbM cF eA bO=>?_
   have zz:=ac.size
   have k3:Keep h3.size h3 bM:=⟨by omega,λj hj=>by rw[bO j (by omega),bL.get j (by omega)];exact ac.get j hj⟩
  ·exact aS _ _ hf k3
  ·exact a7 g'.size bM x bx xk xi hf k3 (by omega) cF (ot.frame λc hc=>by have:=ot.lt c hc;rw[bO c (by omega)];exact bL.get c (ot.lt c hc)) O (λhm=>by have:=ot.lt _ hm;omega)
 ·intro ar
  have a6:Keep h3.size h3 ar:=Keep.push _ _ (Ae _)
  have db:Blk ar h3.size (zc 0 ⟨#[]⟩ ⟨none,0,0⟩ ⟨none,0,0⟩).toArray:=Blk.new _ _ _
  have eJ:ar.size=h3.size+1:=Ai _
  clear_value ar
  refine⟨a6.get _ (by show h.size<_;omega),?_⟩
  refine bc ar 0 _ a6 (λg' ac hf=>⟨0,⟨#[]⟩,⟨none,0,0⟩,⟨none,0,0⟩,false,rfl,?_⟩) λx g' bx xk xi hf ac ot O=>⟨x.kind,x.text,xk,xi,true,rfl,?_⟩
  all_goals
   have zz:=ac.size
   refine qa (db.ofKeep ac) rfl _ _ _ _ λbQ cC ey bT=>?_
   have k3:Keep h3.size h3 bQ:=⟨by omega,λj hj=>by rw[bT j (by omega),ac.get j (by omega)];exact a6.get j hj⟩
  ·exact aS _ _ hf k3
  ·exact a7 h3.size bQ x bx xk xi hf k3 (Ae _) cC (ot.frame λc hc=>bT c (by have:=O c hc;omega)) (λc hc=>by have:=O c hc;omega) (λhm=>by have:=O _ hm;omega)
end
end Go.X
end
section
namespace Go.X
section
variable {gl:Fr} {v:Tr}
set_option maxHeartbeats 2000000 in
theorem z8g(hg:GL gl)(hv:Sm v)(ax:qy v=true){o:OpT}(ho:OpS o){R:Tr×Int->Prop}(hR:R (wj v o)):PC Tp gl 35 [Arg.mk .tree v,Arg.mk Yt o] [.tree,.int .i64] R:=by
 have ov:=wb ax
 have aL:=Y6 ov
 apply zfe
 simp only[qj]
 refine zlr hg ho ⟨λhf=>?_,λht=>?_⟩
 ·have aD:ja o=false:=by simpa using hf
  unfold wj at hR
  rw[aD]at hR;exact hR
 have O:ja o=true:=by simpa using ht
 have al:wj v o=(if(doR v o).2=0 then(if qy (doR v o).1 then((doR v o).1,0)else(zT,1))else(zT,(doR v o).2)):=by unfold wj;rw[O,if_pos rfl]
 rw[al]at hR
 have aF:∀s∈o.2.1,s.size<=1048576:=λs hs=>by rw[<-Js];exact ho.p.s s hs
 have aM:=zjd O
 have aj:Sm (doR v o).1:=zzw hv ov ho.v (by omega) aF
 obtain⟨ah,ae,ap⟩:(qq (lb o.1)).2.2=true/\qs o.2.1=true/\qs o.2.2.1=true:=by
  unfold ja at O
  simp only[AI]at O
  exact⟨O.1,O.2.1,O.2.2.1⟩
 have ay:Jx v o.2.1=(match qb v o.2.1 with
   |some x=>(x,true)
   |none=>(zT,false)):=by unfold Jx;rw[ov,ae];rfl
 have aE:Jx v o.2.2.1=(match qb v o.2.2.1 with
   |some x=>(x,true)
   |none=>(zT,false)):=by unfold Jx;rw[ov,ap];rfl
 refine znh hg hv ho.p (znh hg hv ho.f ?_)
 rw[ay,aE]
 intro K hK
 have Z:∀(t:Tr) (e:Int),(doR v o).2=e->(e=0->(doR v o).1=t)->K e 0 ⟨#[]⟩ [] [] t.kind t.text t.keys t.items:=by
  intro t e he ht
  refine hK _ _ _ _ _ _ _ _ _ ⟨λak=>?_,λaG=>?_⟩
  ·have au:¬e=0:=by simpa using ak
   rw[he,if_neg au]at hR;exact hR
  ·have ai:e=0:=by simpa using aG
   have ar:=ht ai
   rw[he,if_pos ai,ar]at hR
   rw[ar]at aj
   rw[qj]
   refine zfi hg aj ⟨λhx=>?_,λhx=>?_⟩
   ·have aa:qy t=false:=by simpa using hx
    rw[aa]at hR;exact hR
   ·have aa:qy t=true:=by simpa using hx
    rw[aa,if_pos rfl]at hR
    exact Xu t aj hR
 have ac:(doR v o)=(zT,8)->R (zT,8):=λhe=>by rw[he]at hR;exact hR
 simp only[qak]
 refine⟨λc1=>?_,λc1=>⟨λc2=>?_,λc2=>⟨λc3=>?_,λc3=>⟨λc4=>?_,λc4=>⟨λc5=>?_,λc5=>⟨λc6=>?_,λc6=>?_⟩⟩⟩⟩⟩⟩
 ·-- add
  have e1:lb o.1=zvt:=of_decide_eq_true c1
  have hd:doR v o=zd9 (zi9 v o.2.1 o.2.2.2):=by
   unfold doR
   rw[e1,if_neg (by decide),if_neg (by decide),if_neg (by decide),if_neg (by decide),if_neg (by decide)]
  refine zr7 hg hv ov ho.v (by omega) ho.p ae ?_
  rw[<-hd]
  exact Z _ _ rfl λ_=>rfl
 ·-- remove
  have e2:lb o.1=Q4:=of_decide_eq_true c2
  have hd:doR v o=(match qb v o.2.1 with
   |none=>(zT,8)
   |some _=>if o.2.1=[]then(zT,1)else(zgy v o.2.1,0)):=by
   unfold doR;rw[if_pos e2]
   cases qb v o.2.1 <;> rfl
  cases hf:qb v o.2.1 with
  |none=>
   rw[hf]at hd
   exact⟨λ_=>ac hd,λhc=>by simp at hc⟩
  |some x=>
   rw[hf]at hd
   refine⟨λhc=>by simp at hc,λ_=>zlt hg hv ov ho.p ae hf ?_⟩
   simp only at hd
   rw[<-hd]
   exact Z _ _ rfl λ_=>rfl
 all_goals have n2:lb o.1≠Q4:=of_decide_eq_false c2
 ·-- replace
  have e3:lb o.1=xx:=of_decide_eq_true c3
  have hd:doR v o=(match qb v o.2.1 with
   |none=>(zT,8)
   |some _=>(Qh v o.2.1 o.2.2.2,0)):=by
   unfold doR;rw[if_neg n2,if_pos e3]
   cases qb v o.2.1 <;> rfl
  cases hf:qb v o.2.1 with
  |none=>
   rw[hf]at hd
   exact⟨λ_=>ac hd,λhc=>by simp at hc⟩
  |some x=>
   rw[hf]at hd
   refine⟨λhc=>by simp at hc,λ_=>zjg hg o.2.1 v (Jz hf) hv (by omega) ho.p ?_⟩
   exact Z _ 0 (by rw[hd]) λ_=>by rw[hd]
 all_goals have n3:lb o.1≠xx:=of_decide_eq_false c3
 ·-- test
  have e4:lb o.1=za4:=of_decide_eq_true c4
  have hd:doR v o=(match qb v o.2.1 with
   |none=>(zT,8)
   |some x=>if xa x o.2.2.2 then(v,0)else(zT,9)):=by
   unfold doR
   rw[e4,if_neg (by decide),if_neg (by decide),if_neg (by decide),if_neg (by decide),if_pos rfl]
   cases qb v o.2.1 <;> rfl
  cases hf:qb v o.2.1 with
  |none=>
   rw[hf]at hd
   exact⟨λ_=>ac hd,λhc=>by simp at hc⟩
  |some x=>
   rw[hf]at hd
   simp only at hd
   refine⟨λhc=>by simp at hc,λ_=>zz4 hg (hv.find hf) ho.v ?_⟩
   rw[Ya ov hf,Ws O (zeb (.inr (.inr e4)))]
   simp only[Bf]
   refine⟨λhx=>?_,λhx=>?_⟩
   ·have aa:xa x o.2.2.2=false:=by simpa using hx
    rw[aa]at hd
    rw[hd]at hR;exact hR
   ·have aa:xa x o.2.2.2=true:=by simpa using hx
    rw[aa]at hd
    exact Z v 0 (by rw[hd];rfl) λ_=>by rw[hd];rfl
 all_goals have n4:lb o.1≠za4:=of_decide_eq_false c4
 ·-- move
  have e5:lb o.1=zd7:=of_decide_eq_true c5
  have hd:doR v o=(match qb v o.2.2.1 with
   |none=>(zT,8)
   |some y=>if o.2.2.1=o.2.1.take o.2.2.1.length/\o.2.2.1.length<=o.2.1.length then(if o.2.2.1.length<o.2.1.length then(zT,1)else(v,0))else zd9 (zi9 (zgy v o.2.2.1) o.2.1 y)):=by
   unfold doR
   rw[e5,if_neg (by decide),if_neg (by decide),if_pos rfl]
   cases qb v o.2.2.1 <;> rfl
  cases hf:qb v o.2.2.1 with
  |none=>
   rw[hf]at hd
   exact⟨λ_=>ac hd,λhc=>by simp at hc⟩
  |some y=>
   rw[hf]at hd
   simp only at hd
   have aH:=ho.p.n
   have aJ:=ho.f.n
   refine⟨λhc=>by simp at hc,λ_=>⟨λhc=>⟨by omega,by omega,by simp at hc;omega⟩,λr=>r=true↔o.2.1.take o.2.2.1.length=o.2.2.1,λhc=>?_,λr hr=>?_⟩⟩
   ·simp only[Ad,BV,AQ]
    exact ztr (by rw[AL];omega) λr hr=>hr
   ·have hb:(bif (decide (((Bm o.2.1:Nat):Int)>((Bm o.2.2.1:Nat):Int)))then r else false)=decide (o.2.2.1.length<o.2.1.length/\o.2.2.1=o.2.1.take o.2.2.1.length):=by
     rw[AB]
     simp only[Ba,AI,decide_eq_true_eq]
     constructor
     ·rintro⟨h1,h2⟩
      exact⟨by omega,((hr (by simpa using h1)).1 h2).symm⟩
     ·rintro⟨h1,h2⟩
      exact⟨by omega,(hr (by simp;omega)).2 h2.symm⟩
    rw[hb]
    refine⟨λhc=>?_,λhc=>?_⟩
    ·obtain⟨aB,az⟩:=of_decide_eq_true hc
     rw[if_pos ⟨az,by omega⟩,if_pos aB]at hd
     rw[hd]at hR;exact hR
    ·have aC:=of_decide_eq_false hc
     refine ztr (by omega) λr2 am=>⟨λh2=>?_,λh2=>?_⟩
     ·have ak:¬o.2.1=o.2.2.1:=λe=>by rw[am.2 e]at h2;cases h2
      have af:¬(o.2.2.1=o.2.1.take o.2.2.1.length/\o.2.2.1.length<=o.2.1.length):=by
       rintro⟨q1,q2⟩
       rcases AX o.2.2.1.length o.2.1.length with q3|q3
       ·exact aC ⟨q3,q1⟩
       ·exact ak (by rw[q1,AM q3])
      have an:o.2.2.1≠[]:=λe=>af (by rw[e];simp)
      rw[if_neg af]at hd
      refine zlt hg hv ov ho.f ap hf ?_
      rw[if_neg an]
      refine⟨λhx=>by simp at hx,λ_=>?_⟩
      have h3:=zfh v o.2.2.1
      have aA:qm (zgy v o.2.2.1)=true:=by
       unfold qm Zi
       simp only[AI,decide_eq_true_eq]
       refine⟨⟨by omega,?_⟩,znw (xd ov) an hf⟩
       have aI:tdp v<=32:=by
        unfold qm Zi at ov
        simp only[AI,decide_eq_true_eq]at ov
        exact ov.1.2
       have:=z8a v o.2.2.1
       omega
      refine zr7 hg ⟨by have:=hv.sz;omega,znr hv.tx _⟩ aA (hv.find hf) (by have:=(jh hf).1;omega) ho.p ae ?_
      rw[<-hd]
      exact Z _ _ rfl λ_=>rfl
     ·have he:o.2.1=o.2.2.1:=am.1 (by simpa using h2)
      rw[if_pos ⟨by rw[he,AE],by rw[he];exact Ae _⟩,if_neg (by rw[he];omega)]at hd
      exact Z v 0 (by rw[hd]) λ_=>by rw[hd]
 all_goals have n5:lb o.1≠zd7:=of_decide_eq_false c5
 ·-- copy
  have e6:lb o.1=zd8:=of_decide_eq_true c6
  have hd:doR v o=(match qb v o.2.2.1 with
   |none=>(zT,8)
   |some y=>zd9 (zi9 v o.2.1 y)):=by
   unfold doR
   rw[e6,if_neg (by decide),if_neg (by decide),if_neg (by decide),if_pos rfl]
   cases qb v o.2.2.1 <;> rfl
  cases hf:qb v o.2.2.1 with
  |none=>
   rw[hf]at hd
   exact⟨λ_=>ac hd,λhc=>by simp at hc⟩
  |some y=>
   rw[hf]at hd
   simp only at hd
   refine⟨λhc=>by simp at hc,λ_=>zr7 hg hv ov (hv.find hf) (by have:=(jh hf).1;omega) ho.p ae ?_⟩
   rw[<-hd]
   exact Z _ _ rfl λ_=>rfl
 ·exfalso
  have n6:lb o.1≠zd8:=of_decide_eq_false c6
  exact of_decide_eq_false c1 (zt3 ah n2 n3 n5 n6 n4)
theorem z0e(hg:GL gl){l:List OpT}(hv:Sm v)(hl:∀o∈l,OpS o)(hn:l.length<=1000000){R:Tr×Int×Int->Prop}(hR:R (qi v l)):
  PC Tp gl 14 [Arg.mk .tree v,Arg.mk (.row Yt) l] [.tree,.int .i64,.int .i64] R:=by
 apply zcb
 simp only[qj]
 refine zfi hg hv ⟨λhf=>?_,λht=>?_⟩
 ·have al:qy v=false:=by simpa using hf
  unfold qi at hR
  rw[al]at hR;exact hR
 have ak:qy v=true:=by simpa using ht
 have af:qi v l=Zj v l 0:=by unfold qi;rw[ak];rfl
 rw[af]at hR
 refine Xu v hv ?_
 refine⟨λi k s ks xs _ _ _ _=>∃(n:Nat),i=(n:Int)/\n<=l.length/\qy (.mk k s ks xs)=true/\Sm (.mk k s ks xs)/\R (Zj (.mk k s ks xs) (l.drop n) n),λi _ _ _ _ _ _ _ _=>l.length-i.toNat,⟨0,rfl,BP _,by rw[qj];exact ak,by rw[qj];exact hv,by rw[qj,AQ];exact hR⟩,?_⟩
 rintro i k s ks xs _ _ _ _ ⟨n,rfl,hk,aj,ah,Z⟩
 refine⟨λhc=>?_,λhc=>?_⟩
 ·have O:n<l.length:=by simp at hc;omega
  refine⟨l[n],⟨by omega,by rw[Ad,Aj O]⟩,?_⟩
  have ae:=hl l[n] (Ao O)
  have aa:R (if(wj (.mk k s ks xs) l[n]).2=0 then Zj (wj (.mk k s ks xs) l[n]).1 (l.drop (n+1)) (n+1)else(zT,(n:Int),(wj (.mk k s ks xs) l[n]).2)):=by
   rw[AC O,Zj]at Z
   exact Z
  refine z8g hg ah aj ae ⟨λan=>?_,λam=>?_⟩
  ·have ai:¬(wj (.mk k s ks xs) l[n]).2=0:=by simpa using an
   rw[if_neg ai]at aa;exact aa
  ·have ac:(wj (.mk k s ks xs) l[n]).2=0:=by simpa using am
   rw[if_pos ac]at aa
   rw[yz O (by omega)]
   refine⟨⟨n+1,rfl,O,by rw[qj];exact Wt ac,by rw[qj];exact zg0 ah aj ae,by rw[qj];exact aa⟩,by simp only[Ad];omega⟩
 ·have O:n=l.length:=by simp at hc;omega
  subst O
  rw[BC,Zj]at Z
  exact Z
end
end Go.X
end
section
namespace Go.X
section
variable {b:Bs} {gl:Fr} {R:Bool -> Prop}
theorem qcn:Yl (yb (Lib.itoa 9)).1=[57]:=by kernel_rfl
def o1:OpT:=(⟨#[97,100,100]⟩,[⟨#[97]⟩,⟨#[49]⟩],[],.mk 3 (bl [57]) [] [])
def o2:OpT:=(⟨#[114,101,109,111,118,101]⟩,[⟨#[97]⟩,⟨#[48]⟩],[],.mk 0 ⟨#[]⟩ [] [])
def o3:OpT:=(⟨#[109,111,118,101]⟩,[⟨#[48]⟩],[⟨#[48]⟩,⟨#[48]⟩],.mk 0 ⟨#[]⟩ [] [])
def o4:OpT:=(⟨#[116,101,115,116]⟩,[⟨#[48]⟩],[],.mk 3 (bl [50]) [] [])
def smR:Tr:=.mk 5 ⟨#[]⟩ [] [.mk 3 (bl [49]) [] []]
def smU:Tr:=.mk 6 ⟨#[]⟩ [⟨#[97]⟩] [.mk 5 ⟨#[]⟩ [] [.mk 3 (bl [57]) [] [],.mk 3 (bl [50]) [] []]]
theorem qco:qi smT [o1,o2]=(smU,2,0):=by kernel_rfl
theorem qcp:qi smR [o3]=(zT,0,8):=by kernel_rfl
theorem qcq:qi smR [o4]=(zT,0,9):=by kernel_rfl
theorem qcr:Jx smU [⟨#[97]⟩,⟨#[48]⟩]=(.mk 3 (bl [57]) [] [],true):=by kernel_rfl
theorem zn1(hb:b.length<=2048):txS (.mk 3 (bl b) [] []):=by
 rw[txS,zjk];exact⟨⟨by rw[zv];exact hb,by simp⟩,trivial⟩
theorem z0f(hb:b.length<=2048):Sm (.mk 3 (bl b) [] []):=Sm.few (by rw[tks,zlf];simp) (zn1 hb)
theorem z4o:Sm smR:=by
 refine Sm.few ?_ ?_
 ·have:tks smR=2:=by kernel_rfl
  omega
 ·unfold smR
  rw[txS,zjk,zjk]
  exact⟨⟨by decide,by simp⟩,zn1 (by decide),trivial⟩
theorem qal:Sm smU:=by
 refine Sm.few ?_ ?_
 ·have:tks smU=5:=by kernel_rfl
  omega
 ·unfold smU
  rw[txS,zjk,zjk,txS,zjk,zjk,zjk]
  exact⟨⟨by decide,by decide⟩,⟨⟨by decide,by simp⟩,zn1 (by decide),zn1 (by decide),trivial⟩,trivial⟩
theorem z0g:SL []:=⟨by decide,by simp⟩
theorem zvy(hg:GL gl)(hR:R true):PC Tp gl 9 [] [.bool] R:=by
 apply zca
 refine ztp hg (by decide) (by decide) ?_
 refine ztp hg (by decide) (by decide) ?_
 rw[qck,qcd]
 refine zy4 ?_
 refine z99 ?_
 refine ztp hg (by decide) (by decide) ?_
 rw[qcn]
 refine zg1 hg (v:=smT) (l:=[o1,o2]) qai (λo ho=>?_) (by decide) ?_
 ·rcases Ag.1 ho with rfl|ho
  ·exact⟨zak (by decide) (by decide),z0g,z0f (by decide)⟩
  ·rcases Ag.1 ho with rfl|ho
   ·exact⟨zak (by decide) (by decide),z0g,zau⟩
   ·cases ho
 rw[qco]
 refine zy4 ?_
 refine zg1 hg (v:=smR) (l:=[o3]) z4o (λo ho=>?_) (by decide) ?_
 ·rcases Ag.1 ho with rfl|ho
  ·exact⟨zak (by decide) (by decide),zak (by decide) (by decide),zau⟩
  ·cases ho
 rw[qcp]
 refine zy4 ?_
 refine ztp hg (by decide) (by decide) ?_
 rw[qcd]
 refine zg1 hg (v:=smR) (l:=[o4]) z4o (λo ho=>?_) (by decide) ?_
 ·rcases Ag.1 ho with rfl|ho
  ·exact⟨zak (by decide) (by decide),z0g,z0f (by decide)⟩
  ·cases ho
 rw[qcq]
 refine z7c hg (v:=smU) qal (zak (by decide) (by decide)) ?_
 rw[qcr]
 have key:∀b,b=true->R b:=λb hb=>hb ▸ hR
 exact key _ (by kernel_rfl)
structure OpF (o:OpT):Prop where
 p:PS o.2.1
 f:PS o.2.2.1
 v:Sm o.2.2.2
 t:tks o.2.2.2<=200
 d:o.1.size<=100
theorem OpF.s{o:OpT}(h:OpF o):OpS o:=⟨PS.sl h.p,PS.sl h.f,h.v⟩
theorem z3k{l:List OpT}(h:∀b,(b=true->l.length<=30/\∀o∈l,OpF o)->R b):PC Tp gl 11 [Arg.mk (.row Yt) l] [.bool] R:=by
 refine PC.bd λac=>?_
 have hb:l.length<=140737488355328:=ac ⟨.row Yt,l⟩ (by simp)
 apply zfd
 refine⟨λi=>∃k:Nat,i=k/\k<=l.length/\k<=40/\∀o∈l.take k,OpF o,λi=>l.length-i.toNat,⟨0,rfl,by omega,by omega,by simp⟩,?_⟩
 rintro i ⟨k,rfl,hk,ah,h1⟩
 refine⟨λhc=>?_,λhc=>?_⟩
 ·have ai:(k:Int)<l.length/\(k:Int)<40:=by simpa using hc
  have O:k<l.length:=by omega
  have hy:l[(k:Int).toNat]?=some l[k]:=by rw[Ad];exact Aj O
  refine⟨l[k],⟨by omega,hy⟩,zto λb1 Z=>⟨l[k],λ_=>⟨by omega,hy⟩,λb=>b=true->PS l[k].2.2.1,λ_=>zto λb hb=>hb,λb2 aa=>⟨l[k],λ_=>⟨by omega,hy⟩,λb=>b=true->tks l[k].2.2.2<=200/\Sm l[k].2.2.2,λ_=>?_,λb3 af=>⟨l[k],λ_=>⟨by omega,hy⟩,λhx=>?_,λhx=>?_⟩⟩⟩⟩
  ·rw[qj];exact z4j (by omega) λb hb e=>⟨by have:=(hb e).1;omega,(hb e).2⟩
  ·exact h false (λe=>by cases e)
  ·have hs:b1=true/\b2=true/\b3=true/\l[k].1.size<=100:=by
    cases b1 <;> cases b2 <;> cases b3 <;> simp at hx
    exact⟨rfl,rfl,rfl,by omega⟩
   obtain⟨e1,e2,e3,hd⟩:=hs
   have h3:=af (by rw[e1,e2];rfl) e3
   have hO:OpF l[k]:=⟨Z e1,aa e1 e2,h3.2,h3.1,hd⟩
   rw[w64 (by omega)]
   refine⟨⟨k+1,by omega,by omega,by omega,λo ho=>?_⟩,by simp only[Ad];omega⟩
   rw[An O]at ho
   rcases Am.1 ho with ho|ho
   ·exact h1 o ho
   ·rw[Cn.1 ho];exact hO
 ·refine h _ λe=>?_
  have e':(l.length:Int)<=30:=by simpa using e
  have ae:k=l.length:=by
   have:¬((k:Int)<l.length/\(k:Int)<40):=by simpa using hc
   omega
  subst ae
  rw[AE]at h1
  exact⟨by omega,h1⟩
end
section
theorem zqe:∀{l:List OpT} {v:Tr} {i:Nat},Sm v->qy v=true->(∀o∈l,OpS o)->Sm (Zj v l i).1
 |[],v,i,hv,hr,hl=>by simpa[Zj]using hv
 |o::l,v,i,hv,hr,hl=>by
  rw[Zj]
  split
  ·rename_i h1
   exact zqe (zg0 hv hr (hl o (by simp))) (Wt h1) λx hx=>hl x (by simp[hx])
  ·exact zau
theorem z0h{l:List OpT}{v:Tr}(hv:Sm v)(hl:∀o∈l,OpS o):Sm (qi v l).1:=by
 unfold qi
 split
 ·rename_i h;exact zqe hv h hl
 ·exact zau
end
section
def z8p(v:Tr)(key:Bt):Tr×Bool:=if qm v&&(decide (v.kind=6)&&decide (0<=Lib.idxOfS v.keys key))then(v.items.getD (Lib.idxOfS v.keys key).toNat zT,true)else(zT,false)
end
section
variable {M M':Fr} {h g g':zb} {b:Nat} {v:Tr} {sk si:Sl} {o:OpT}
def kOp:Bt:=⟨#[111,112]⟩
def z3l:Bt:=⟨#[112,97,116,104]⟩
def z3m:Bt:=⟨#[102,114,111,109]⟩
def zqf:Bt:=⟨#[118,97,108,117,101]⟩
structure Bx (h:zb) (M:Fr) (b:Nat) (o:OpT):Prop where
 rd:∃sp sf sk si:Sl,Blk h b (qg o.1 sp sf o.2.2.2 sk si).toArray/\RdV M (.row .str) o.2.1 (slV sp)/\RdV M (.row .str) o.2.2.1 (slV sf)/\RdV M .tree o.2.2.2 (.agg (zf o.2.2.2 sk si).toArray)
 no:M b=none
theorem AgM.but{h h':zb}(ag:AgM M h)(hb:M b=Option.none)(f:∀j,j≠b->h'[j]?=h[j]?):AgM M h':=λc cs e=>by
 obtain⟨T,m,e2⟩:=ag c cs e
 exact⟨T,m,by rw[f c (λe'=>by rw[e',hb]at e;cases e)];exact e2⟩
structure Rin (h:zb) (M:Fr) (v:Tr) (sk si:Sl) (b:Nat) (g:zb) (M':Fr) (o:OpT):Prop where
 la:Later h M g M'
 hb:Blk g h.size (zc v.kind v.text sk si).toArray
 bx:Bx g M' b o
 lt:h.size<b
 bg:b<g.size
theorem Rin.call{M' M'':Fr}(I:Rin h M v sk si b g M' o)(L:Later g M' g' M''):Rin h M v sk si b g' M'' o:=by
 have:=L.keep.size
 have:=I.la.keep.size
 obtain⟨sp,sf,ck,ci,e1,e2,e3,e4⟩:=I.bx.rd
 exact⟨I.la.trans L,I.hb.ofKeep L.keep,⟨⟨sp,sf,ck,ci,e1.ofKeep L.keep,RdV.mono L.le e2,RdV.mono L.le e3,RdV.mono L.le e4⟩,by rw[L.old b I.bg];exact I.bx.no⟩,I.lt,by have:=I.bg;omega⟩
theorem Rin.put{o o':OpT}(I:Rin h M v sk si b g M' o)(f:∀j,j≠b->g'[j]?=g[j]?)(z:g'.size=g.size)
  (hb:∃sp sf sk si:Sl,Blk g' b (qg o'.1 sp sf o'.2.2.2 sk si).toArray/\RdV M' (.row .str) o'.2.1 (slV sp)/\RdV M' (.row .str) o'.2.2.1 (slV sf)/\RdV M' .tree o'.2.2.2 (.agg (zf o'.2.2.2 sk si).toArray)):Rin h M v sk si b g' M' o':=by
 have h1:=I.lt
 have h2:=I.la.keep.size
 refine⟨⟨⟨by omega,λj hj=>by rw[f j (by omega)];exact I.la.keep.get j hj⟩,I.la.le,I.la.old,AgM.but I.la.ag I.bx.no f⟩,?_,⟨hb,I.bx.no⟩,h1,by have:=I.bg;omega⟩
 have:=I.hb
 unfold Blk at this ⊢
 rw[f h.size (by omega)];exact this
theorem qce:ji Tp 22=true:=by kernel_rfl
theorem qcf:je Tp 22=1:=by kernel_rfl
section
variable {h : zb} {M : Fr} {v : Tr} {sk si : Sl} {b : Nat} {g : zb} {M' : Fr} {o : OpT} {K : zb -> Prop}
theorem Rin.put1(I:Rin h M v sk si b g M' o)(p:List Bt){s:Sl}(hp:RdV M' (.row .str) p (slV s))(hK:∀g',Rin h M v sk si b g' M' (o.1,p,o.2.2)->(∀j,j≠b->g'[j]?=g[j]?)->K g'):XRunU Tp (Al 22 (.pointer (some ⟨b,1,none⟩)) (slV s)) g K:=by
 obtain⟨sp,sf,ck,ci,e1,e2,e3,e4⟩:=I.bx.rd
 refine zwr qce qcf e1 (by show 1<7;omega) rfl λg' q1 q2 q3=>hK g' (I.put q3 q2 ⟨s,sf,ck,ci,?_,hp,e3,e4⟩) q3
 exact q1
theorem Rin.get(I:Rin h M v sk si b g M' o):∃sp sf ck ci:Sl,ze g ⟨b,0,none⟩ 0 (qg o.1 sp sf o.2.2.2 ck ci)/\Blk g b (qg o.1 sp sf o.2.2.2 ck ci).toArray/\RdV M' Yt o (.agg (qg o.1 sp sf o.2.2.2 ck ci).toArray):=by
 obtain⟨sp,sf,ck,ci,e1,e2,e3,e4⟩:=I.bx.rd
 exact⟨sp,sf,ck,ci,e1.ld (cs:=qg o.1 sp sf o.2.2.2 ck ci),e1,zz8 e2 e3 e4⟩
end
end
section
variable {c b:Nat} {h g g':zb} {M M':Fr} {v:Tr} {sk si:Sl} {o:OpT}
structure Rim (c:Nat) (h:zb) (M:Fr) (v:Tr) (sk si:Sl) (b:Nat) (g:zb) (M':Fr) (o:OpT):Prop where
 r:Rin h M v sk si b g M' o
 z:∃cs:Array Value,Blk g c cs/\cs.size=7
 zl:h.size<c/\c<b
 zn:M' c=none
theorem Rim.call{M' M'':Fr}(I:Rim c h M v sk si b g M' o)(L:Later g M' g' M''):Rim c h M v sk si b g' M'' o:=by
 obtain⟨cs,e1,e2⟩:=I.z
 exact⟨I.r.call L,⟨cs,e1.ofKeep L.keep,e2⟩,I.zl,by rw[L.old c (by have:=I.r.bg;have:=I.zl;omega)];exact I.zn⟩
theorem Rim.next{o o':OpT}(I:Rim c h M v sk si b g M' o)(J:Rin h M v sk si b g' M' o')(f:∀j,j≠b->g'[j]?=g[j]?):Rim c h M v sk si b g' M' o':=by
 obtain⟨cs,e1,e2⟩:=I.z
 refine⟨J,⟨cs,?_,e2⟩,I.zl,I.zn⟩
 unfold Blk at e1 ⊢
 rw[f c (by have:=I.zl;omega)];exact e1
end
section
variable {lo:Nat} {h h':zb} {M M':Fr} {T:Ty} {bs:List Nat}
def ORow(lo:Nat)(h:zb)(M:Fr)(T:Ty)(xs:List (El T))(s:Sl)(bs:List Nat):Prop:=
 (xs=[]/\s.len=0/\s.cap=0/\bs=[])\/∃(b:Nat) (cs:Array Value),bs=[b]/\s.a=some ⟨b,0,none⟩/\s.len=xs.length/\s.len<=s.cap/\Blk h b cs/\s.cap*sz T<=cs.size/\lo<=b/\M b=none/\∀i (hi:i<xs.length),Rd M T xs[i] (cut cs (i*sz T) (sz T))
theorem ORow.nil:ORow lo h M T [] ⟨none,0,0⟩ []:=.inl ⟨rfl,rfl,rfl,rfl⟩
theorem ORow.len{xs:List (El T)}{s:Sl}(H:ORow lo h M T xs s bs):s.len=xs.length:=by
 rcases H with⟨rfl,h1,_⟩|⟨b,cs,_,_,h1,_⟩
 ·exact h1
 ·exact h1
theorem ORow.own{xs:List (El T)}{s:Sl}(H:ORow lo h M T xs s bs):∀c∈bs,lo<=c/\c<h.size/\M c=none:=by
 rcases H with⟨_,_,_,rfl⟩|⟨b,cs,rfl,_,_,_,e,_,h1,h2,_⟩
 ·intro c hc;cases hc
 ·intro c hc
  rw[Cn.1 hc]
  exact⟨h1,e.lt,h2⟩
theorem ORow.frame{xs:List (El T)}{s:Sl}(H:ORow lo h M T xs s bs)(f:∀c∈bs,h'[c]?=h[c]?)(le:Fr.le M M')(no:∀c∈bs,M' c=none):ORow lo h' M' T xs s bs:=by
 rcases H with H|⟨b,cs,rfl,h1,h2,h3,h4,h5,h6,h7,h8⟩
 ·exact .inl H
 ·refine .inr ⟨b,cs,rfl,h1,h2,h3,?_,h5,h6,no b (by simp),λi hi=>Rd.mono le (h8 i hi)⟩
  unfold Blk at h4 ⊢
  rw[f b (by simp)];exact h4
theorem ORow.call{xs:List (El T)}{s:Sl}(H:ORow lo h M T xs s bs)(L:Later h M h' M'):ORow lo h' M' T xs s bs:=by
 refine H.frame (λc hc=>L.keep.get c (H.own c hc).2.1) L.le λc hc=>?_
 rw[L.old c (H.own c hc).2.1];exact(H.own c hc).2.2
theorem ORow.rd{xs:List (El T)}{s:Sl}{bs all:List Nat}(H:ORow lo h M T xs s bs)(ag:AgM M h)(ha:∀c∈bs,c∈all)(hn:xs.length<=1000000):Rd (MxL M h all) (.row T) xs [slV s]:=by
 rcases H with⟨rfl,h1,h2,rfl⟩|⟨b,cs,rfl,h1,h2,h3,h4,h5,h6,h7,h8⟩
 ·refine⟨_,rfl,s.a,s.cap,?_,⟨by simp,by simp⟩,.inl rfl⟩
  show slV s=_
  unfold slV;rw[h1];rfl
 ·refine⟨_,rfl,s.a,s.cap,?_,⟨by omega,by omega⟩,?_⟩
  ·unfold slV;rw[h2]
  ·by_cases he:xs=[]
   ·exact .inl he
   ·refine .inr ⟨b,0,cs,h1,MxL.at (ha b (by simp)) h4,λi hi=>?_⟩
    rw[AD]
    exact Rd.mono (Y7 ag all) (h8 i hi)
theorem ORow.app{t e:TypeId}{z:Value}{bytes:Nat}(E:ElemT Tp t e z (sz T) bytes)(ak:bytes<=1000){ty:TypeId}{xs:List (El T)}{s:Sl}(ag:AgM M h)(H:ORow lo h M T xs s bs)(au:lo<=h.size){bv cv:Nat}{vs:List Value}{x:El T}(hv:Blk h bv vs.toArray)(hx:Rd M T x vs)(hn:xs.length<=1000000){K:Value->zb->Prop}
  (hK:∀(s':Sl) (h':zb) (ah:List Nat),ORow lo h' M T (xs++[x]) s' ah->h.size<=h'.size->(∀c∈ah,c∈bs\/h.size<=c)->(∀j,j<h.size->j∉bs->h'[j]?=h[j]?)->K (.slice s'.a s'.len s'.cap) h'):
  XRun Tp (Au #[t,t] ty #[.slice s.a s.len s.cap,.slice (some ⟨bv,0,none⟩) 1 cv]) h K:=by
 have am:vs.length=sz T:=Rd.len hx
 have h1:∀u∈vs,u.oneCell'=true:=Rd.one hx
 have aa:=H.len
 have al:∀c,h.size<=c->M c=none:=by
  intro c hc
  cases e:M c with
  |none=>rfl
  |some cs=>have:=ag.lt e;omega
 obtain⟨b,cs,O,hb,an⟩:∃b cs,RowO h s b cs (sz T)/\((bs=[b]/\lo<=b/\M b=none)\/(b=h.size/\bs=[]))/\∀i (hi:i<xs.length),i*sz T+sz T<=cs.size/\Rd M T xs[i] (cut cs (i*sz T) (sz T)):=by
  rcases H with⟨rfl,e1,e2,rfl⟩|⟨b,cs,rfl,e1,e2,e3,e4,e5,e6,e7,e8⟩
  ·exact⟨h.size,#[],⟨by omega,.inl ⟨e1,e2⟩⟩,.inr ⟨rfl,rfl⟩,λi hi=>by simp at hi⟩
  ·refine⟨b,cs,⟨e3,.inr ⟨e1,e4,e5⟩⟩,.inl ⟨rfl,e6,e7⟩,λi hi=>⟨?_,e8 i hi⟩⟩
   have:(i+1)*sz T<=s.cap*sz T:=AO _ (by omega)
   rw[Dp]at this;omega
 have ac:(s.len+1)*bytes<=140737488355328:=by
  have:(s.len+1)*bytes<=1000001*1000:=Nat.mul_le_mul (by omega) ak
  omega
 refine zno E O hv am h1 ac (by omega) λs' h' b' cs' N=>?_
 have Z:(b'∈bs/\lo<=b'/\M b'=none)\/h.size<=b':=by
  rcases N.new with e|e
  ·rcases hb with⟨q1,q2,q3⟩|⟨q1,_⟩
   ·subst e;exact .inl ⟨by rw[q1];simp,q2,q3⟩
   ·exact .inr (by omega)
  ·exact .inr e
 refine hK s' h' [b'] (.inr ⟨b',cs',rfl,N.a,by rw[N.len,Av,aa];rfl,by rw[N.len];exact N.cap,N.blk,N.size,?_,?_,λi hi=>?_⟩) N.grow (λc hc=>?_) λj hj hn=>N.old j hj λe=>?_
 ·rcases Z with q|q
  ·exact q.2.1
  ·omega
 ·rcases Z with q|q
  ·exact q.2.2
  ·exact al b' q
 ·have af:=N.cut
  have ay:i<xs.length+1:=by simpa using hi
  have hm:(i+1)*sz T<=(s.len+1)*sz T:=AO _ (by omega)
  have ax:(i+1)*sz T=i*sz T+sz T:=Dp _ _
  have ar:(s.len+1)*sz T=s.len*sz T+sz T:=Dp _ _
  have key:∀q,q<sz T->(cut cs' (i*sz T) (sz T))[q]?=(cut cs 0 (s.len*sz T)++vs)[i*sz T+q]?:=by
   intro q hq
   rw[zu,if_pos hq,<-af,zu,if_pos (by omega),AD]
  by_cases ae:i<xs.length
  ·rw[CG ae]
   obtain⟨g1,g2⟩:=an i ae
   have az:(i+1)*sz T<=s.len*sz T:=AO _ (by omega)
   have e:cut cs' (i*sz T) (sz T)=cut cs (i*sz T) (sz T):=by
    apply Bb
    intro q
    by_cases hq:q<sz T
    ·rw[key q hq,BA ?_,zu,zu,if_pos hq,if_pos (by omega),AD]
     have ap:s.len*sz T<=cs.size:=by
      rcases O.at_ with⟨q1,q2⟩|⟨_,_,q3⟩
      ·omega
      ·have:s.len*sz T<=s.cap*sz T:=AO _ O.le
       omega
     rw[w9 (by omega)];omega
    ·rw[zu,zu,if_neg hq,if_neg hq]
   rw[e];exact g2
  ·have ai:i=xs.length:=by omega
   subst ai
   rw[Cd (Ae _)]
   have aj:(cut cs 0 (s.len*sz T)).length=xs.length*sz T:=by
    rcases O.at_ with⟨q1,q2⟩|⟨_,_,q3⟩
    ·have:xs.length=0:=by omega
     rw[q1,this];unfold cut;simp
    ·have:s.len*sz T<=s.cap*sz T:=AO _ O.le
     rw[w9 (by omega),aa]
   have e:cut cs' (xs.length*sz T) (sz T)=vs:=by
    apply Bb
    intro q
    by_cases hq:q<sz T
    ·rw[key q hq,Bl (by omega),aj]
     congr 1;omega
    ·rw[zu,if_neg hq,Bu (by omega)]
   rw[e]
   simpa using hx
 ·rw[Cn.1 hc]
  rcases Z with q|q
  ·exact .inl q.1
  ·exact .inr q
 ·rcases Z with q|q
  ·exact hn (by rw[e];exact q.1)
  ·omega
end
section
variable {M:Fr} {h h':zb} {b:Nat} {ks:List Bt} {xs:List Tr} {sk si:Sl} {bk bi:List Nat}
theorem AgM.app{bs:List Nat}(ag:AgM M h)(f:∀j,j<h.size->j∉bs->h'[j]?=h[j]?)(no:∀c∈bs,M c=Option.none):AgM M h':=λc cs e=>by
 obtain⟨T,m,e2⟩:=ag c cs e
 have hm:c∉bs:=λhc=>by rw[no c hc]at e;cases e
 exact⟨T,m,by rw[f c (ag.lt e) hm];exact e2⟩
structure Obj (lo:Nat) (h:zb) (M:Fr) (b:Nat) (ks:List Bt) (xs:List Tr) (sk si:Sl) (bk bi:List Nat):Prop where
 ag:AgM M h
 box:Blk h b (zc 6 ⟨#[]⟩ sk si).toArray
 keys:ORow lo h M .str ks sk bk
 items:ORow lo h M .tree xs si bi
 nk:b∉bk
 ni:b∉bi
 dj:∀c∈bk,c∉bi
 no:M b=none
 lo:lo<=b
theorem Obj.call{lo:Nat}{M M':Fr}(O:Obj lo h M b ks xs sk si bk bi)(L:Later h M h' M'):Obj lo h' M' b ks xs sk si bk bi:=
 ⟨L.ag,O.box.ofKeep L.keep,O.keys.call L,O.items.call L,O.nk,O.ni,O.dj,by rw[L.old b O.box.lt];exact O.no,O.lo⟩
theorem qcs:ji Tp 23=true:=by kernel_rfl
theorem qct:je Tp 23=1:=by kernel_rfl
structure ObK (lo:Nat) (h:zb) (M:Fr) (b:Nat) (ks:List Bt) (xs:List Tr) (sk si s1:Sl) (bk bi bk1:List Nat) (g:zb):Prop where
 ag:AgM M g
 box:Blk g b (zc 6 ⟨#[]⟩ sk si).toArray
 keys:ORow lo g M .str ks s1 bk1
 items:ORow lo g M .tree xs si bi
 nk:b∉bk1
 dj:∀c∈bk1,c∉bi
 kp:Keep lo h g
 grow:h.size<=g.size
theorem ObK.keep{lo:Nat}{sk si s1:Sl}{bk bi bk1:List Nat}{g g':zb}(H:ObK lo h M b ks xs sk si s1 bk bi bk1 g)(O:lo<=h.size)(k:Keep g.size g g'):ObK lo h M b ks xs sk si s1 bk bi bk1 g':=by
 have L:=Later.same H.ag k
 have:=H.grow
 exact⟨L.ag,H.box.ofKeep k,H.keys.call L,H.items.call L,H.nk,H.dj,⟨by have:=H.kp.size;have:=k.size;omega,λj hj=>by rw[k.get j (by omega)];exact H.kp.get j hj⟩,by have:=k.size;omega⟩
set_option maxHeartbeats 4000000 in
theorem z0i{lo:Nat}(O:Obj lo h M b ks xs sk si bk bi)(hn:ks.length<=1000/\xs.length<=1000){key:Bt}{x:Tr}{ck ci:Sl}(hx:RdV M .tree x (.agg (zf x ck ci).toArray)){K:Value->zb->Prop}
  (hK:∀(h':zb) (sk' si':Sl) (bk' a7:List Nat),Obj lo h' M b (ks++[key]) (xs++[x]) sk' si' bk' a7->Keep lo h h'->K (.tuple #[]) h'):
  XC Tp 87 #[.pointer (some ⟨b,0,none⟩),.string key,.agg #[.int .i64 x.kind,.string x.text,slV ck,slV ci]] h K:=by
 have bh:=O.box.lt
 have bp:=O.lo
 have aO:Rd M .tree x (zf x ck ci):=by
  unfold RdV at hx
  simp only[zcl,if_true]at hx
  obtain⟨cs,e,hr⟩:=hx
  have:zf x ck ci=cs:=by injection e with e;simpa using congrArg CH e
  rw[this];exact hr
 have aC:Rd M .str key [.string key]:=rfl
 apply zje (some ⟨b,0,none⟩) key x.kind x.text ck ci
 intro h1
 have z1:h1.size=h.size+1:=Ai _
 have k1:Keep h.size h h1:=Keep.push _ _ (Ae _)
 have b1:Blk h1 h.size (zf x ck ci).toArray:=Blk.new _ _ _
 clear_value h1
 have aH:=O.box.ofKeep k1
 have ah:∀(g:zb) (kb:Nat),Keep h.size h g->Blk g kb [A5 key].toArray->∀(K:Value->zb->Prop),(∀(s1:Sl) (g2:zb) (bk1:List Nat),ObK lo h M b (ks++[key]) xs sk si s1 bk bi bk1 g2->(∀j,j<g.size->j∉bk->g2[j]?=g[j]?)->g.size<=g2.size->K (.slice s1.a s1.len s1.cap) g2) ->
   XRun Tp (Au #[22,22] 22 #[.slice sk.a sk.len sk.cap,.slice (some ⟨kb,0,none⟩) 1 1]) g K:=by
  intro g kb kg aZ K hK
  have L:=Later.same O.ag kg
  have zg:=kg.size
  have Og:=O.call L
  refine ORow.app elemStr (by omega) L.ag Og.keys (by omega) aZ aC (by omega) λs1 g2 bk1 r1 r2 r3 r4=>hK s1 g2 bk1 ?_ r4 r2
  have aV:AgM M g2:=AgM.app L.ag r4 λc hc=>(Og.keys.own c hc).2.2
  refine⟨aV,?_,r1,?_,?_,?_,⟨by omega,λj hj=>?_⟩,by omega⟩
  ·have:=Og.box
   unfold Blk at this ⊢
   rw[r4 b (by omega) O.nk];exact this
  ·refine Og.items.frame (λc hc=>r4 c (Og.items.own c hc).2.1 λhk=>O.dj c hk hc) (Fr.le.refl _) λc hc=>(Og.items.own c hc).2.2
  ·intro hc
   rcases r3 b hc with q|q
   ·exact O.nk q
   ·omega
  ·intro c hc hi
   rcases r3 c hc with q|q
   ·exact O.dj c q hi
   ·have:=(Og.items.own c hi).2.1;omega
  ·rw[r4 j (by omega) λhk=>by have:=(Og.keys.own j hk).1;omega]
   exact kg.get j (by omega)
 have aA:∀(s1 s2:Sl) (g3 g4:zb) (bk1 Z:List Nat),ObK lo h M b (ks++[key]) xs sk si s1 bk bi bk1 g3->ORow lo g4 M .tree (xs++[x]) s2 Z->g3.size<=g4.size->(∀c∈Z,c∈bi\/g3.size<=c)->(∀j,j<g3.size->j∉bi->g4[j]?=g3[j]?) ->
   ∃a:Addr,some (⟨b,0,none⟩:Addr)=some a/\XRunU Tp (Al 22 (.pointer (some (Af a 2))) (.slice s1.a s1.len s1.cap)) g4 (λg5=>∃a:Addr,some (⟨b,0,none⟩:Addr)=some a/\XRunU Tp (Al 23 (.pointer (some (Af a 3))) (.slice s2.a s2.len s2.cap)) g5 (λg6=>K (.tuple #[]) g6)):=by
  intro s1 s2 g3 g4 bk1 Z A r1 r2 r3 r4
  have a8:=A.box.lt
  have bj:=A.grow
  have aG:Blk g4 b (zc 6 ⟨#[]⟩ sk si).toArray:=by
   have:=A.box
   unfold Blk at this ⊢
   rw[r4 b a8 O.ni];exact this
  have aB:b∉Z:=λhc=>by
   rcases r3 b hc with q|q
   ·exact O.ni q
   ·omega
  have an:ORow lo g4 M .str (ks++[key]) s1 bk1:=A.keys.frame (λc hc=>r4 c (A.keys.own c hc).2.1 (A.dj c hc)) (Fr.le.refl _) λc hc=>(A.keys.own c hc).2.2
  have aS:AgM M g4:=AgM.app A.ag r4 λc hc=>(A.items.own c hc).2.2
  refine⟨_,rfl,?_⟩
  refine zwr qce qcf (o:=2) aG (by show 2<4;omega) rfl λg5 q1 q2 q3=>⟨_,rfl,?_⟩
  have q1:Blk g5 b (zc 6 ⟨#[]⟩ s1 si).toArray:=q1
  refine zwr qcs qct (o:=3) q1 (by show 3<4;omega) rfl λg6 p1 p2 p3=>?_
  have p1:Blk g6 b (zc 6 ⟨#[]⟩ s1 s2).toArray:=p1
  have f6:∀j,j≠b->g6[j]?=g4[j]?:=λj hj=>(p3 j hj).trans (q3 j hj)
  refine hK g6 s1 s2 bk1 Z ⟨AgM.but aS O.no f6,p1,?_,?_,A.nk,aB,?_,O.no,O.lo⟩ ⟨by have:=A.kp.size;omega,λj hj=>?_⟩
  ·exact an.frame (λc hc=>f6 c λe=>A.nk (e ▸ hc)) (Fr.le.refl _) λc hc=>(an.own c hc).2.2
  ·exact r1.frame (λc hc=>f6 c λe=>aB (e ▸ hc)) (Fr.le.refl _) λc hc=>(r1.own c hc).2.2
  ·intro c hc hi
   rcases r3 c hi with q|q
   ·exact A.dj c hc q
   ·have:=(A.keys.own c hc).2.1;omega
  ·rw[f6 j (by omega),r4 j (by omega) λhi=>by have:=(O.items.own j hi).1;omega]
   exact A.kp.get j hj
 have af:∀(s1:Sl) (g3:zb) (bk1:List Nat) (xb:Nat),ObK lo h M b (ks++[key]) xs sk si s1 bk bi bk1 g3->Blk g3 xb (zf x ck ci).toArray->∀(K2:Value->zb->Prop),(∀(s2:Sl) (g4:zb) (Z:List Nat),ORow lo g4 M .tree (xs++[x]) s2 Z->g3.size<=g4.size->(∀c∈Z,c∈bi\/g3.size<=c)->(∀j,j<g3.size->j∉bi->g4[j]?=g3[j]?)->K2 (.slice s2.a s2.len s2.cap) g4) ->
   XRun Tp (Au #[23,23] 23 #[.slice si.a si.len si.cap,.slice (some ⟨xb,0,none⟩) 1 1]) g3 K2:=by
  intro s1 g3 bk1 xb A aT K2 aU
  have:=A.grow
  exact ORow.app elemTree (by omega) A.ag A.items (by omega) aT aO (by omega) λs2 g4 Z r1 r2 r3 r4=>aU s2 g4 Z r1 r2 r3 r4
 refine⟨_,rfl,sk,aH.cellAdd (by rfl),_,rfl,si,aH.cellAdd (by rfl),x.kind,x.text,ck,ci,b1.ld (cs:=zf x ck ci),?_,?_⟩
 ·intro aa
  have bq:aa.size=h1.size+1:=Ai _
  have ae:Keep h1.size h1 aa:=Keep.push _ _ (Ae _)
  have aJ:Blk aa h1.size [A5 key].toArray:=Blk.new _ _ _
  clear_value aa
  have au:Keep h.size h aa:=k1.trans ae (by omega)
  refine⟨ae.get _ (show h.size<h1.size by omega),ae.get _ (show b<h1.size by omega),ae.get _ (show b<h1.size by omega),?_,?_⟩
  ·refine ah aa h1.size au aJ _ λs1 am bk1 A az be=>⟨s1,rfl,?_,?_,?_⟩
   ·refine(az h.size (by omega) λhc=>?_).trans (ae.get _ (by omega))
    have:=(O.keys.own _ hc).2.1;omega
   ·exact(az b (by omega) O.nk).trans (ae.get _ (by omega))
   ·intro aj
    have bn:aj.size=am.size+1:=Ai _
    have aL:Keep am.size am aj:=Keep.push _ _ (Ae _)
    have aY:Blk aj am.size (zf x ck ci).toArray:=Blk.new _ _ _
    clear_value aj
    refine⟨(aL.get _ (show b<am.size by omega)).trans ((az b (by omega) O.nk).trans (ae.get _ (by omega))),?_⟩
    have aI:=A.keep (by omega) aL
    exact af s1 aj bk1 am.size aI aY _ λs2 g4 Z r1 r2 r3 r4=>⟨s2,rfl,aA s1 s2 aj g4 bk1 Z aI r1 r2 r3 r4⟩
  ·intro ai
   have bu:ai.size=aa.size+1:=Ai _
   have ar:Keep aa.size aa ai:=Keep.push _ _ (Ae _)
   have aQ:Blk ai aa.size (zf x ck ci).toArray:=Blk.new _ _ _
   clear_value ai
   have aE:Keep h.size h ai:=au.trans ar (by omega)
   refine⟨(ar.get _ (show b<aa.size by omega)).trans (ae.get _ (by omega)),(ar.get _ (show b<aa.size by omega)).trans (ae.get _ (by omega)),?_⟩
   refine ah ai h1.size aE (aJ.ofKeep ar) _ λs1 ay bk1 A aM bo=>⟨s1,rfl,?_,?_⟩
   ·exact(aM b (by omega) O.nk).trans ((ar.get _ (by omega)).trans (ae.get _ (by omega)))
   ·have aN:Blk ay aa.size (zf x ck ci).toArray:=by
     have:=aQ
     unfold Blk at this ⊢
     rw[aM aa.size (by omega) λhc=>by have:=(O.keys.own _ hc).2.1;omega];exact this
    exact af s1 ay bk1 aa.size A aN _ λs2 g4 Z r1 r2 r3 r4=>⟨s2,rfl,aA s1 s2 ay g4 bk1 Z A r1 r2 r3 r4⟩
 ·intro ac
  have ba:ac.size=h1.size+1:=Ai _
  have ak:Keep h1.size h1 ac:=Keep.push _ _ (Ae _)
  have a1:Blk ac h1.size (zf x ck ci).toArray:=Blk.new _ _ _
  clear_value ac
  refine⟨ak.get _ (show b<h1.size by omega),ak.get _ (show b<h1.size by omega),?_⟩
  intro al
  have bc:al.size=ac.size+1:=Ai _
  have ap:Keep ac.size ac al:=Keep.push _ _ (Ae _)
  have a6:Blk al ac.size [A5 key].toArray:=Blk.new _ _ _
  clear_value al
  have aD:Keep h.size h al:=(k1.trans ak (by omega)).trans ap (by omega)
  refine⟨(ap.get _ (show b<ac.size by omega)).trans (ak.get _ (by omega)),(ap.get _ (show b<ac.size by omega)).trans (ak.get _ (by omega)),?_⟩
  refine ah al ac.size aD a6 _ λs1 ax bk1 A aF bm=>⟨s1,rfl,?_,?_⟩
  ·exact(aF b (by omega) O.nk).trans ((ap.get _ (by omega)).trans (ak.get _ (by omega)))
  ·have aP:Blk ax h1.size (zf x ck ci).toArray:=by
    have:=a1.ofKeep ap
    unfold Blk at this ⊢
    rw[aF h1.size (by omega) λhc=>by have:=(O.keys.own _ hc).2.1;omega];exact this
   exact af s1 ax bk1 h1.size A aP _ λs2 g4 Z r1 r2 r3 r4=>⟨s2,rfl,aA s1 s2 ax g4 bk1 Z A r1 r2 r3 r4⟩
end
section
variable {h g:zb} {M M':Fr} {b:Nat} {ks:List Bt} {xs:List Tr}
def z3n(s:Bt):Tr:=.mk 4 s [] []
def z0t(p:List Bt):Bt:=bl (z2f (p.map lb))
def qcu(o:OpT):List Bt:=([kOp]++[z3l])++((if(qq (lb o.1)).2.1=true then [z3m]else [])++(if(qq (lb o.1)).1=true then [zqf]else []))
def qcv(o:OpT):List Tr:=([z3n o.1]++[z3n (z0t o.2.1)])++((if(qq (lb o.1)).2.1=true then [z3n (z0t o.2.2.1)]else [])++(if(qq (lb o.1)).1=true then [o.2.2.2]else []))
def z8h(o:OpT):Tr:=.mk 6 ⟨#[]⟩ (qcu o) (qcv o)
theorem Later.own{bs:List Nat}(L:Later h M g M')(hb:∀c∈bs,h.size<=c):Later h M g (MxL M' g bs):=by
 refine⟨L.keep,L.le.trans (Y7 L.ag bs),λc hc=>?_,MxL.ag L.ag bs⟩
 have hn:c∉bs:=λhm=>by have:=hb c hm;omega
 rw[<-L.old c hc]
 unfold MxL
 rw[if_neg hn]
theorem Obj.rd{lo:Nat}{sk si:Sl}{bk bi:List Nat}(O:Obj lo h M b ks xs sk si bk bi)(hn:ks.length<=1000000/\xs.length<=1000000):RdV (MxL M h (bk++bi)) .tree (.mk 6 ⟨#[]⟩ ks xs) (.agg (zc 6 ⟨#[]⟩ sk si).toArray):=by
 refine yd (v:=.mk 6 ⟨#[]⟩ ks xs) ?_ ?_
 ·exact O.keys.rd O.ag (λc hc=>Ap _ hc) hn.1
 ·exact O.items.rd O.ag (λc hc=>Ay _ hc) hn.2
structure Mk (h:zb) (M:Fr) (ab:List Value) (b:Nat) (g:zb) (M':Fr) (ks:List Bt) (xs:List Tr):Prop where
 la:Later h M g M'
 ab:Blk g h.size ab.toArray
 rb:∃cs:Array Value,Blk g (h.size+1) cs/\cs.size=4
 no:M' (h.size+1)=none
 lt:h.size+1<b
 ob:∃sk si bk bi,Obj b g M' b ks xs sk si bk bi
theorem Mk.call{ab:List Value}{g g':zb}{M' M'':Fr}(I:Mk h M ab b g M' ks xs)(L:Later g M' g' M''):Mk h M ab b g' M'' ks xs:=by
 obtain⟨cs,e1,e2⟩:=I.rb
 obtain⟨sk,si,bk,bi,O⟩:=I.ob
 exact⟨I.la.trans L,I.ab.ofKeep L.keep,⟨cs,e1.ofKeep L.keep,e2⟩,by rw[L.old _ e1.lt];exact I.no,I.lt,⟨sk,si,bk,bi,O.call L⟩⟩
theorem Mk.more{ab:List Value}(I:Mk h M ab b g M' ks xs)(hn:ks.length<=1000/\xs.length<=1000){key:Bt}{x:Tr}{ck ci:Sl}(hx:RdV M' .tree x (.agg (zf x ck ci).toArray)){K:Value->zb->Prop}
  (hK:∀g',Mk h M ab b g' M' (ks++[key]) (xs++[x])->K (.tuple #[]) g'):
  XC Tp 87 #[.pointer (some ⟨b,0,none⟩),.string key,.agg #[.int .i64 x.kind,.string x.text,slV ck,slV ci]] g K:=by
 obtain⟨sk,si,bk,bi,O⟩:=I.ob
 have hl:=I.lt
 refine z0i O hn hx λg' sk' si' bk' Z O' kp=>hK g' ?_
 have z:=I.la.keep.size
 have kk:Keep h.size h g':=⟨by have:=kp.size;have:=O.box.lt;omega,λj hj=>by rw[kp.get j (by omega)];exact I.la.keep.get j hj⟩
 obtain⟨cs,e1,e2⟩:=I.rb
 refine⟨⟨kk,I.la.le,I.la.old,O'.ag⟩,?_,⟨cs,?_,e2⟩,I.no,hl,⟨sk',si',bk',Z,O'⟩⟩
 ·have:=I.ab
  unfold Blk at this ⊢
  rw[kp.get _ (by omega)];exact this
 ·unfold Blk at e1 ⊢
  rw[kp.get _ (by omega)];exact e1
end
section
variable {h g g':zb} {M M' M'':Fr} {ob lo b:Nat} {xs ys:List Tr} {si:Sl} {bi:List Nat} {ks:List Bt}
structure Out (h:zb) (M:Fr) (ob:Nat) (g:zb) (M':Fr) (xs:List Tr) (si:Sl) (bi:List Nat):Prop where
 la:Later h M g M'
 rb:∃cs:Array Value,Blk g h.size cs/\cs.size=4
 n0:M' h.size=none
 box:Blk g ob (zc 5 ⟨#[]⟩ ⟨none,0,0⟩ si).toArray
 nb:M' ob=none
 row:ORow (ob+1) g M' .tree xs si bi
 lt:h.size<ob
theorem Out.call(O:Out h M ob g M' xs si bi)(L:Later g M' g' M''):Out h M ob g' M'' xs si bi:=by
 obtain⟨cs,e1,e2⟩:=O.rb
 exact⟨O.la.trans L,⟨cs,e1.ofKeep L.keep,e2⟩,by rw[L.old _ e1.lt];exact O.n0,O.box.ofKeep L.keep,by rw[L.old _ O.box.lt];exact O.nb,O.row.call L,O.lt⟩
theorem Out.kp(O:Out h M ob g M' xs si bi)(hl:ob<lo/\∀c∈bi,c<lo)(k:Keep lo g g')(ag:AgM M' g')(hz:g.size<=g'.size):Out h M ob g' M' xs si bi:=by
 have h1:=O.lt
 have h2:=O.la.keep.size
 obtain⟨cs,e1,e2⟩:=O.rb
 refine⟨⟨⟨by omega,λj hj=>by rw[k.get j (by omega)];exact O.la.keep.get j hj⟩,O.la.le,O.la.old,ag⟩,⟨cs,?_,e2⟩,O.n0,?_,O.nb,?_,O.lt⟩
 ·unfold Blk at e1 ⊢;rw[k.get _ (by omega)];exact e1
 ·have:=O.box
  unfold Blk at this ⊢;rw[k.get _ (by omega)];exact this
 ·exact O.row.frame (λc hc=>k.get c (hl.2 c hc)) (Fr.le.refl _) λc hc=>(O.row.own c hc).2.2
theorem Out.frz{bi bs:List Nat}(O:Out h M ob g M' xs si bi)(hl:ob<lo/\∀c∈bi,c<lo)(hb:∀c∈bs,lo<=c):Out h M ob g (MxL M' g bs) xs si bi:=by
 have h1:=O.lt
 have key:∀c,c<lo->M' c=none->MxL M' g bs c=none:=λc hc e=>by
  unfold MxL
  rw[if_neg (λhm=>by have:=hb c hm;omega)];exact e
 refine⟨Later.own O.la λc hc=>by have:=hb c hc;omega,O.rb,key _ (by omega) O.n0,O.box,key _ hl.1 O.nb,?_,O.lt⟩
 exact O.row.frame (λ_ _=>rfl) (Y7 O.la.ag bs) λc hc=>key c (hl.2 c hc) (O.row.own c hc).2.2
structure Wk (h:zb) (M:Fr) (ob:Nat) (xs:List Tr) (si:Sl) (bi:List Nat) (lo b:Nat) (g:zb) (M':Fr) (ks:List Bt) (ys:List Tr):Prop where
 out:Out h M ob g M' xs si bi
 up:ob<lo/\∀c∈bi,c<lo
 obj:∃sk si bk bi,Obj lo g M' b ks ys sk si bk bi
theorem Wk.call(W:Wk h M ob xs si bi lo b g M' ks ys)(L:Later g M' g' M''):Wk h M ob xs si bi lo b g' M'' ks ys:=by
 obtain⟨sk,s2,bk,b2,O⟩:=W.obj
 exact⟨W.out.call L,W.up,⟨sk,s2,bk,b2,O.call L⟩⟩
theorem Wk.kp{ks ks':List Bt}{ys Z:List Tr}(W:Wk h M ob xs si bi lo b g M' ks ys)(k:Keep lo g g')(hz:g.size<=g'.size){sk' si':Sl}{bk' aa:List Nat}(O:Obj lo g' M' b ks' Z sk' si' bk' aa):Wk h M ob xs si bi lo b g' M' ks' Z:=
 ⟨W.out.kp W.up k O.ag hz,W.up,⟨sk',si',bk',aa,O⟩⟩
end
section
variable {M:Fr}
theorem qb7{xs:List OpT}{s:Sl}(H:Rd M (.row Yt) xs [slV s]){k:Nat}(hk:k<xs.length):∃(a:Addr) (sp sf sk si:Sl),s.a=some a/\(∀{h':zb} {M':Fr},AgM M' h'->Fr.le M M'->ze h' (a.add (((k:Nat):Int).toNat*7)) 0 (qg xs[k].1 sp sf xs[k].2.2.2 sk si)) /\
  RdV M (.row .str) xs[k].2.1 (slV sp)/\RdV M (.row .str) xs[k].2.2.1 (slV sf)/\RdV M .tree xs[k].2.2.2 (.agg (zf xs[k].2.2.2 sk si).toArray):=by
 obtain⟨b,o,cs,e1,e2,e3⟩:=Go.X.rowAt H hk
 have e4:RdV M Yt xs[k] (.agg (cut cs (o+k*sz Yt) (sz Yt)).toArray):=by
  unfold RdV;simp only[zcl,if_true];exact⟨_,rfl,e3⟩
 obtain⟨sp,sf,sk,si,q,r1,r2,r3⟩:=z2x e4
 have:(cut cs (o+k*sz Yt) (sz Yt))=qg xs[k].1 sp sf xs[k].2.2.2 sk si:=by
  injection q with q
  exact congrArg CH q
 refine⟨_,sp,sf,sk,si,e1,λag le=>?_,r1,r2,r3⟩
 rw[Ad,z0q]
 exact zxv ag (le _ _ e2) (i:=0) this
theorem qb8{h:zb}(ag:AgM M h){b:Nat}(hb:h.size<=b):M b=none:=by
 cases e:M b with
 |none=>rfl
 |some cs=>have:=ag.lt e;omega
end
section
structure OpX (o:OpT):Prop where
 s:OpS o
 d:o.1.size<=1048576
 p:(z0t o.2.1).size<=1048576
 f:(z0t o.2.2.1).size<=1048576
def kk(f w:Bool):List Bt:=([kOp]++[z3l])++((if f=true then [z3m]else [])++(if w=true then [zqf]else []))
theorem ix1(f w:Bool):Lib.idxOfS (kk f w) kOp=((0:Nat):Int):=by cases f <;> cases w <;> kernel_rfl
theorem ix2(f w:Bool):Lib.idxOfS (kk f w) z3l=((1:Nat):Int):=by cases f <;> cases w <;> kernel_rfl
theorem ix3(w:Bool):Lib.idxOfS (kk true w) z3m=((2:Nat):Int):=by cases w <;> kernel_rfl
theorem ix4:Lib.idxOfS (kk true true) zqf=((3:Nat):Int):=by kernel_rfl
theorem ix5:Lib.idxOfS (kk false true) zqf=((2:Nat):Int):=by kernel_rfl
theorem zjh{v x:Tr}{key:Bt}{k:Nat}(ho:qm v=true)(h6:v.kind=6)(hi:Lib.idxOfS v.keys key=(k:Int))(hx:v.items[k]?=some x):z8p v key=(x,true):=by
 unfold z8p
 rw[ho,hi,decide_eq_true h6,decide_eq_true (by omega:(0:Int)<=(k:Int)),Ad]
 simp[hx]
theorem getObj{o:OpT}(ho:qm (z8h o)=true):z8p (z8h o) kOp=(z3n o.1,true)/\z8p (z8h o) z3l=(z3n (z0t o.2.1),true)/\((qq (lb o.1)).2.1=true->z8p (z8h o) z3m=(z3n (z0t o.2.2.1),true))/\((qq (lb o.1)).1=true->z8p (z8h o) zqf=(o.2.2.2,true)):=by
 have hk:(z8h o).keys=kk (qq (lb o.1)).2.1 (qq (lb o.1)).1:=rfl
 have hi:(z8h o).items=z3n o.1::z3n (z0t o.2.1)::((if(qq (lb o.1)).2.1=true then [z3n (z0t o.2.2.1)]else [])++(if(qq (lb o.1)).1=true then [o.2.2.2]else [])):=rfl
 refine⟨zjh (k:=0) ho rfl (by rw[hk,ix1]) (by rw[hi];rfl),zjh (k:=1) ho rfl (by rw[hk,ix2]) (by rw[hi];rfl),λhc=>zjh (k:=2) ho rfl (by rw[hk,hc,ix3]) (by rw[hi,if_pos hc];rfl),λhc=>?_⟩
 by_cases hf:(qq (lb o.1)).2.1=true
 ·exact zjh (k:=3) ho rfl (by rw[hk,hf,hc,ix4]) (by rw[hi,if_pos hf,if_pos hc];rfl)
 ·have O:(qq (lb o.1)).2.1=false:=by simpa using hf
  exact zjh (k:=2) ho rfl (by rw[hk,O,hc,ix5]) (by rw[hi,if_neg hf,if_pos hc];rfl)
theorem z0j{m:Nat}:∀{p:List Bs},(∀x∈p,x.length<=m)->(z2f p).length<=p.length*(2*m+1)
 |[],_=>by simp[z2f]
 |x::p,h=>by
  rw[show x::p=[x]++p from rfl,zrp,z2g,Av,AR]
  have h1:=z0j (p:=p) λy hy=>h y (by simp[hy])
  have h2:=z6j x
  have h3:=h x (by simp)
  simp only[Av,List.length_singleton,Bz,Dk]
  omega
theorem OpF.x{o:OpT}(h:OpF o):OpX o:=by
 have key:∀p:List Bt,PS p->(z0t p).size<=1048576:=by
  intro p hp
  unfold z0t
  rw[zv]
  have h1:=z0j (m:=1024) (p:=p.map lb) λx hx=>by
   obtain⟨y,hy,rfl⟩:=BR.1 hx
   exact hp.s y hy
  rw[Dw]at h1
  have h2:=hp.n
  have:p.length*(2*1024+1)<=200*2049:=Nat.mul_le_mul h2 (by omega)
  omega
 exact⟨h.s,by have:=h.d;omega,key _ h.p,key _ h.f⟩
end
end Go.X
end
