/- A part of the proof: nothing is stated here for its own sake. -/
import Derived.Test.YtjohlemfgcmaoaaGreatDoorPoE
open _root_.Go.Addr renaming add->Al
open _root_.Array renaming getD_eq_getD_getElem?->A7,getElem?_append_left->Ck,getElem?_eq_getElem->AI,getElem?_eq_some_iff->Ac,getElem?_push->BV,getElem?_setIfInBounds_ne->AN,getElem?_setIfInBounds_self_of_lt->Cj,getElem?_toList->Bw,push->CO,replicate->Ba,size->AM,size_push->Ak,size_setIfInBounds->AU
open _root_.Bool renaming and_eq_false_iff->CJ,and_eq_true->AY,and_true->C7,eq_iff_iff->AH,false_eq_true->A3,false_or->Dx,not_eq_true'->CZ,or_eq_false_iff->BZ,or_eq_true->BN,true_and->Cd
open _root_.Go.Builtin renaming append_->AB
open _root_.ByteArray renaming empty->DZ
open _root_.Go.Code renaming region->CW
open _root_.Go.Deferred renaming ofValue->Df
open _root_.Go.Instr renaming storeAt->An
open _root_.Int renaming toNat_natCast->Ah
open _root_.Go.IntKind renaming wrap->Ab
open _root_.List renaming all_append->D4,all_cons->C6,all_eq_true->AX,append_assoc->AQ,append_nil->AW,cons_append->AO,drop_drop->BR,drop_eq_getElem_cons->AF,drop_take->C9,drop_zero->BQ,eq_nil_iff_forall_not_mem->CL,eq_nil_of_length_eq_zero->AJ,exists_cons_of_ne_nil->A6,getD_eq_getElem?_getD->Cz,getElem?_append_left->Bq,getElem?_append_right->A5,getElem?_drop->AE,getElem?_eq_getElem->Ai,getElem?_eq_none->BH,getElem?_eq_some_iff->Av,getElem?_map->BS,getElem?_take->Az,getElem_append_left->CQ,getElem_mem->AL,getElem_of_mem->BD,length->Dd,length_append->Ap,length_cons->Aw,length_drop->AC,length_eq_zero_iff->A8,length_erase_of_mem->CP,length_map->A0,length_nil->BE,length_pos_iff->Bn,length_range->DC,length_take->A1,map_append->Cr,map_cons->A4,map_nil->CU,mem_append->As,mem_append_left->Am,mem_append_right->Au,mem_cons->Af,mem_cons_of_mem->Ae,mem_cons_self->Aj,mem_filter->Dv,mem_map->En,mem_of_getElem?->Bh,mem_range->BL,mem_singleton->Bf,nil_append->Bc,nodup_append->Bl,nodup_cons->C4,nodup_nil->DI,nodup_range->Dh,range->Bv,singleton_append->Dz,take_append_drop->Cf,take_left->DJ,take_length->Bb,take_succ_cons->Be,take_take->CX,take_zero->Dg
open _root_.List.cons renaming injEq->Bu
open _root_.Nat renaming add_assoc->Eg,add_sub_cancel_left->C3,add_zero->Cu,eq_or_lt_of_le->Dm,le_of_ble_eq_true->BG,le_refl->Ad,le_trans->D6,lt_or_ge->AR,min_eq_left->CF,mul_one->Dc,pow_succ->DV,strongRecOn->Du,sub_self->Ed,sub_zero->Dn,zero_add->Ay,zero_le->CV
open _root_.Option renaming map_some->Dw
open _root_.Option.some renaming inj->Aq,injEq->Aa
open _root_.Prod.mk renaming injEq->A9
open _root_.Go.Region renaming wanted->Bo
open _root_.UInt8 renaming ofNat->BX
open _root_.Go.Value renaming int->Ep
set_option linter.unusedVariables false
set_option maxRecDepth 100000
namespace Go.X
end Go.X
namespace Go.Proofs
end Go.Proofs
open Go Go.X Go.Proofs
section
namespace Go.X
open Go Go.X Go.Proofs Go.RowKit
section
variable {s:Bs}
theorem zq0(h:(ym s).2.2=0):s.length<=65536/\(ym s).1.length<=s.length:=by
 unfold ym at h ⊢
 split at h
 ·simp at h
 ·rename_i hh
  rw[if_neg hh]
  have:=zol s.length s 0 []
  rw[BE,Ay]at this
  exact⟨by omega,this⟩
set_option maxRecDepth 100000 in
set_option maxHeartbeats 4000000 in
theorem zhb{gl:Fr}(hg:GL gl){R:(Bt×List Nd)×Int×Int->Prop}(hR:R ((bl (ju s).1.1,(ju s).1.2),(ju s).2.1,(ju s).2.2)):
  PC Tp gl 19 [Arg.mk .str (bl s)] [.pair .str (.row tNd),.int .i64,.int .i64] R:=by
 intro h M vs hM ag ha
 match vs,ha with
 |[u1],⟨a1,_⟩=>
  obtain rfl:=Xq (s:=bl s) a1
  apply PX.of
  apply zlj
  intro h1
  have k1:Keep h.size h h1:=Keep.push _ _ (Ad _)
  have z1:h1.size=h.size+1:=Ak _
  have B1:Blk h1 h.size #[.string ⟨#[]⟩,.slice none 0 0]:=Blk.new _ _ _
  clear_value h1
  have bM:AgM M h1:=ag.keep k1
  refine z2d hg hM bM λh3 M1 t L1 rt=>⟨t,_,_,rfl,?_⟩
  have B3:=B1.keep (L1.keep.get h.size (by omega))
  have z3:=L1.keep.size
  have k3:Keep h.size h h3:=k1.trans (c:=h3) (m:=h.size) ⟨z3,λj hj=>L1.keep.get j (by omega)⟩ (Ad _)
  have bq:∀b,b<h.size->M1 b=M b:=λb hb=>L1.old b (by omega)
  have bo:M h.size=none:=by
   cases e:M h.size with
   |none=>rfl
   |some x=>have:=ag.lt e;omega
  have aO:M1 h.size=none:=by rw[L1.old _ (by omega)];exact bo
  refine⟨λhx=>?_,λhx=>?_⟩
  ·have hx:¬(ym s).2.2=0:=by simpa using hx
   have eD:ju s=(([],[]),((ym s).2.1:Int),(ym s).2.2):=by unfold ju;rw[if_neg hx]
   rw[eD]at hR
   refine zcq (u:=⟨#[]⟩) (v:=⟨none,0,0⟩) B3 λh7 f7 z7 B7=>⟨_,_,B7.ld (cs:=[.string ⟨#[]⟩,slV ⟨none,0,0⟩]),?_⟩
   exact⟨M,_,Later.same ag ⟨by omega,λj hj=>by rw[f7 j (by omega)];exact k3.get j hj⟩,zy4 (x:=[]) (l:=[]) _ _ qbj,hR⟩
  have hx:(ym s).2.2=0:=by simpa using hx
  obtain⟨hs,bi⟩:=zq0 hx
  have eD:ju s=match Y3 s 32 (0,0) ⟨qc (ym s).1,0,[]⟩with
   |.inl st=>if st.rest=[]then((s,st.nodes),(s.length:Int),0)else(([],[]),st.here s.length,2)
   |.inr e=>(([],[]),e.1,e.2):=by unfold ju;rw[if_pos hx];rfl
  have aS:=zuk (z1e s)
  generalize (ym s).1=tl at rt bi eD aS
  have rl:=(rowLen rt).1
  intro ax
  have bB:Keep h3.size h3 ax:=Keep.push _ _ (Ad _)
  have bZ:ax.size=h3.size+1:=Ak _
  have bL:Blk ax h3.size (ppC s ⟨none,0,0⟩ 0 0 ⟨none,0,0⟩ 0 0).toArray:=Blk.new _ _ _
  clear_value ax
  have aT:∀c,h3.size<=c->M1 c=none:=λc hc=>by
   cases e:M1 c with
   |none=>rfl
   |some x=>have:=L1.ag.lt e;omega
  refine⟨λk g=>∃(n:Nat) (rs:Sl) (bs:List Nat),k=(n:Int)/\n<=tl.length/\ORow (h3.size+1) g M1 tTk (qc (tl.take n)) rs bs/\Blk g h3.size (ppC s rs 0 0 ⟨none,0,0⟩ 0 0).toArray/\Keep h3.size h3 g,λk _=>tl.length-k.toNat,⟨0,⟨none,0,0⟩,[],rfl,by omega,.nil,bL,bB⟩,?_⟩
  rintro k g ⟨n,rs,bs,rfl,hn,ro,Bp,kg⟩
  have agg:AgM M1 g:=L1.ag.keep kg
  have zg:h3.size+1<=g.size:=by have:=Bp.lt;omega
  refine⟨λap=>?_,λbJ=>?_⟩
  ·have ap:n<tl.length:=by have:=of_decide_eq_true ap;omega
   obtain⟨tb,o,e1,e2,e3,e4⟩:=z8v agg rt ap
   have ay:=zom ap
   refine⟨_,⟨e1,by omega,by omega⟩,tl[n].1,tl[n].2.1,tl[n].2.2,?_,?_⟩
   ·rw[qn,Ah]
    exact⟨by rw[qn];exact e2,by rw[qn];exact e3,by rw[qn];exact e4,trivial⟩
   intro az
   have br:Keep g.size g az:=Keep.push _ _ (Ad _)
   have cd:az.size=g.size+1:=Ak _
   have ba:Blk az g.size (zod 0 0 0).toArray:=Blk.new _ _ _
   clear_value az
   refine z7s ba λaa q1 q2 q3=>⟨tl[n].1,by rw[qn];exact q3.cell rfl,?_⟩
   have aJ:Keep g.size g aa:=⟨by omega,λj hj=>(q1 j (by omega)).trans (br.get j hj)⟩
   have ae:=ro.frame (λc hc=>aJ.get c (ro.own c hc).2.1) (Fr.le.refl M1) λc hc=>(ro.own c hc).2.2
   have an:=Bp.keep (aJ.get _ (by omega))
   have aB:Keep h3.size h3 aa:=kg.trans (c:=aa) (m:=h3.size) ⟨by omega,λj hj=>aJ.get j (by omega)⟩ (Ad _)
   have aG:Ab .i64 ((n:Int)+1)=((n+1:Nat):Int):=by rw[w64 (by omega)];omega
   rw[aG]
   refine⟨λhb=>⟨_,rfl,rs,by rw[qn];exact an.cell rfl,tl[n].1,tl[n].2.1,tl[n].2.2,q3.ld,?_⟩,λhb=>?_⟩
   ·have hb:tl[n].1≠1:=by simpa using hb
    rw[if_pos hb]at ay
    intro ah
    have au:Keep aa.size aa ah:=Keep.push _ _ (Ad _)
    have cg:ah.size=aa.size+1:=Ak _
    have bQ:Blk ah aa.size (zod tl[n].1 tl[n].2.1 tl[n].2.2).toArray:=Blk.new _ _ _
    clear_value ah
    refine⟨by rw[qn];exact au.get h3.size (by omega),?_⟩
    have aU:=ae.frame (λc hc=>au.get c (ae.own c hc).2.1) (Fr.le.refl M1) λc hc=>(ae.own c hc).2.2
    have aV:=an.keep (au.get _ (by omega))
    have aA:Keep h3.size h3 ah:=aB.trans (c:=ah) (m:=h3.size) ⟨by omega,λj hj=>au.get j (by omega)⟩ (Ad _)
    have a8:(qc (tl.take n)).length<=n:=by
     have:(qc (tl.take n)).length<=(tl.take n).length:=List.length_filter_le _ _
     rw[A1]at this;omega
    refine ORow.app z3x (by omega) (L1.ag.keep aA) aU (by omega) bQ (z3y _ _ _) (by omega) λs' cc bH aE bV c29 a6=>⟨s',rfl,_,rfl,?_⟩
    rw[qn]
    have bS:h3.size∉bs:=λhm=>by have:=(ro.own _ hm).1;omega
    refine xh qbe qbf (aV.keep (a6 _ (by omega) bS)) (by show 1<7;omega) rfl λbI u1 u2 u3=>⟨⟨n+1,s',bH,rfl,by omega,?_,u1,?_⟩,?_⟩
    ·rw[ay]
     exact aE.frame (λc hc=>u3 c λe=>by have:=(aE.own c hc).1;omega) (Fr.le.refl M1) λc hc=>(aE.own c hc).2.2
    ·refine aA.trans (c:=bI) (m:=h3.size) ⟨by omega,λj hj=>?_⟩ (Ad _)
     rw[u3 j (by omega),a6 j (by omega) λhm=>by have:=(ro.own j hm).1;omega]
    ·show tl.length-((n+1:Nat):Int).toNat<tl.length-(n:Int).toNat
     omega
   ·have hb:¬tl[n].1≠1:=by simpa using hb
    rw[if_neg hb,AW]at ay
    refine⟨⟨n+1,rs,bs,rfl,by omega,by rw[ay];exact ae,an,aB⟩,?_⟩
    show tl.length-((n+1:Nat):Int).toNat<tl.length-(n:Int).toNat
    omega
  ·have bE:n=tl.length:=by have:=of_decide_eq_false bJ;omega
   subst bE
   rw[Bb]at ro
   have a8:(qc tl).length<=tl.length:=List.length_filter_le _ _
   have bm:=ro.rd agg (all:=bs) (λc hc=>hc) (by omega)
   have bC:AgM (MxL M1 g bs) g:=MxL.ag agg bs
   have aM:∀c∈bs,h3.size+1<=c:=λc hc=>(ro.own c hc).1
   have aI:∀c,c∉bs->MxL M1 g bs c=M1 c:=λc hc=>by unfold MxL;rw[if_neg hc]
   have bD:Fr.le gl (MxL M1 g bs):=hM.trans (L1.le.trans (zsl agg bs))
   have P:PaS h3.size g (MxL M1 g bs) h3.size s ⟨qc tl,0,[]⟩ 0 0 (ppO h3.size [] ⟨none,0,0⟩ 0):=by
    refine⟨rs,0,[],⟨none,0,0⟩,0,#[],⟨Bp,bm,.nil,bC,⟨Ad _,?_⟩,?_⟩,rfl,rfl⟩
    ·rw[aI _ λhm=>by have:=aM _ hm;omega];exact aT _ (Ad _)
    ·rintro(⟨h1,_⟩|⟨p,hp,_⟩)
     ·exact h1 rfl
     ·cases hp
   have hT:(⟨qc tl,0,[]⟩:PSt).T<=200000:=by unfold PSt.T;simp;omega
   have bA:=z2a (lo:=h3.size) (M:=MxL M1 g bs) (bp:=h3.size) (s:=s) hg bD hs 32 (Ad _) (0,0) g _ 0 0 _ P (by simp) hT aS
   refine bA _ λb bF st' a' e' O' P' S' n' A'=>⟨b,rfl,?_⟩
   intro bO aP
   have aQ:∀(ok:Bool) (af:za) (ab:PSt) (a1 e1:Int) (O1:Nat->Prop),PaS h3.size af (MxL M1 g bs) h3.size s ab a1 e1 O1->Stp g (ppO h3.size [] ⟨none,0,0⟩ 0) af O1->(ok=false->ju s=(([],[]),a1,e1))->(ok=true->ju s=((s,ab.nodes),(s.length:Int),0)/\ab.nodes.length<=4096/\ab.T<=200000)->bO ok af:=by
    intro ok af ab a1 e1 O1 P1 S1 hf ht
    refine aP ok af ?_
    have bG:∀c,c<h3.size->¬ppO h3.size [] ⟨none,0,0⟩ 0 c:=λc hc=>by
     rintro(h1|⟨h1,_⟩|⟨p,hp,_⟩)
     ·omega
     ·exact h1 rfl
     ·cases hp
    have aH:∀j,j<h3.size->af[j]?=h3[j]?:=λj hj=>(S1.fr j (by omega) (bG j hj)).trans (kg.get j hj)
    have ca:=S1.le
    have Bd:=B3.keep (aH h.size (by omega))
    have bz:=P1
    obtain⟨aF,bg,ai,am,b1,a7,W1,Z,bj⟩:=bz
    have b9:=W1.blk.lt
    refine⟨λho=>⟨_,rfl,a1,by rw[qn];exact W1.blk.cell rfl,_,rfl,e1,by rw[qn];exact W1.blk.cell rfl,rfl,rfl,?_⟩,λho=>⟨_,rfl,am,by rw[qn];exact W1.blk.cell rfl,?_⟩⟩
    ·have ho:ok=false:=by simpa using ho
     refine zcq (u:=⟨#[]⟩) (v:=⟨none,0,0⟩) Bd λcj aZ bY bn=>?_
     have ak:=aZ h3.size (by omega)
     refine⟨by rw[qn];exact ak,by rw[qn];exact ak,by rw[qn];exact ak,_,_,bn.ld (cs:=[.string ⟨#[]⟩,slV ⟨none,0,0⟩]),?_⟩
     rw[hf ho]at hR
     exact⟨M,_,Later.same ag ⟨by omega,λj hj=>by rw[aZ j (by omega),aH j (by omega)];exact k3.get j hj⟩,zy4 (x:=[]) (l:=[]) _ _ qbj,hR⟩
    ·have ho:ok=true:=by simpa using ho
     obtain⟨be,bT,ck⟩:=ht ho
     refine zcq (u:=bl s) (v:=am) Bd λar aC cb bh=>⟨_,_,bh.ld (cs:=[.string (bl s),slV am]),?_⟩
     rw[be]at hR
     rw[zj]
     have bu:MxL M1 g bs h.size=none:=by rw[aI _ λhm=>by have:=aM _ hm;omega];exact aO
     have aY:NS h3.size ar (MxL M1 g bs) ai am b1 a7:=W1.ns.frame (by omega) λc hc=>aC c λe=>by have:=(W1.ns.own hc).1;omega
     have aj:AgM (MxL M1 g bs) ar:=zoj W1.ag λj hj hm=>aC j λe=>hm (e ▸ bu)
     have bU:ai.length=ab.nodes.length:=by rw[<-Z,A0]
     have aN:=aY.rd aj (by omega) λp hp=>by
      have:p.1∈ab.nodes:=by rw[<-Z];exact List.mem_map_of_mem hp
      have:=z6u this;omega
     rw[Z]at aN
     refine⟨MxL (MxL M1 g bs) ar (zz0 ai b1),_,⟨⟨by omega,λj hj=>by rw[aC j (by omega),aH j (by omega)];exact k3.get j hj⟩,?_,λc hc=>?_,MxL.ag aj _⟩,zy4 _ _ aN,hR⟩
     ·exact L1.le.trans ((zsl agg bs).trans (zsl aj _))
     ·have h1:c∉zz0 ai b1:=λhm=>by have:=z2e aY hm;omega
      have e1:MxL (MxL M1 g bs) ar (zz0 ai b1) c=MxL M1 g bs c:=by unfold MxL;rw[if_neg h1]
      rw[e1,aI c λhm=>by have:=aM c hm;omega]
      exact bq c hc
   have bP:=P'
   obtain⟨aF,bg,ai,am,b1,a7,W1,Z,bj⟩:=bP
   have b8:=(rowLen W1.rd).1
   refine⟨_,λ_=>rfl,aF,λ_=>by rw[qn];exact W1.blk.cell rfl,λhc=>?_,λhc=>?_⟩
   ·have hb:b=true/\0<st'.rest.length:=by
     cases b with
     |false=>simp at hc
     |true=>simp at hc;exact⟨rfl,by omega⟩
    refine Jz P' λg' P2 S2=>⟨false,rfl,aQ false g' st' _ _ O' P2 (S'.trans S2) (λ_=>?_) (λh=>(by cases h))⟩
    rw[eD]
    cases hr:Y3 s 32 (0,0) ⟨qc tl,0,[]⟩with
    |inl x=>
     rw[hr]at A'
     rw[A'.2]at hb ⊢
     dsimp only
     rw[if_neg λe=>by rw[e]at hb;simp at hb]
    |inr x=>rw[hr]at A';rw[A'.1]at hb;exact absurd hb.1 (by simp)
   ·refine aQ b bF st' a' e' O' P' S' (λhb=>?_) (λhb=>?_)
    ·rw[eD]
     cases hr:Y3 s 32 (0,0) ⟨qc tl,0,[]⟩with
     |inl x=>rw[hr]at A';rw[A'.1]at hb;cases hb
     |inr x=>rw[hr]at A';rw[A'.2]
    ·subst hb
     have hz:st'.rest=[]:=by
      have:¬0<aF.len:=by simpa using hc
      exact A8.1 (by omega)
     cases hr:Y3 s 32 (0,0) ⟨qc tl,0,[]⟩with
     |inl x=>
      rw[hr]at A' eD
      have aL:=znz s 32 _ _ _ hr
      rw[<-A'.2]at aL eD
      dsimp only at eD
      rw[if_pos hz]at eD
      exact⟨eD,aL.m (by simp),by have:=aL.t;omega⟩
     |inr x=>rw[hr]at A';exact absurd A'.1 (by simp)
end
end Go.X
end
section
namespace Go.X
section
theorem zon(s0:Bt)(h:za)(R:Value->za->Prop)
  (H:let b:=h.push (.cells #[.int .i64 0,.string (⟨#[]⟩:Bt),.slice none 0 0,.slice none 0 0] 26);XC Tp 19 #[.string s0] b (λc d=>∃e f g i,c=.tuple #[.agg #[.string e,slV f],.int .i64 g,.int .i64 i]/\let j:=d.push (.cells #[.string (⟨#[]⟩:Bt),.slice none 0 0] 36);XRunU Tp (An 36 (.pointer (some ⟨d.size,0,none⟩)) (.agg #[.string e,slV f])) j (λk=>((i != 0)=true->XRunU Tp (An 26 (.pointer (some ⟨h.size,0,none⟩)) (.agg #[.int .i64 0,.string (⟨#[]⟩:Bt),.slice none 0 0,.slice none 0 0])) k (λl=>∃m n o p,ze l ⟨h.size,0,none⟩ 0 [.int .i64 m,.string n,slV o,slV p]/\R (.tuple #[.agg #[.int .i64 m,.string n,slV o,slV p],.int .i64 g,.int .i64 i]) l))/\((i != 0)=false->∃q r,ze k ⟨d.size,0,none⟩ 0 [.string q,slV r]/\XC Tp 59 #[.agg #[.string q,slV r],.int .i64 0,.int .i64 1] k (λs t=>∃u v w x,s=.agg #[.int .i64 u,.string v,slV w,slV x]/\XRunU Tp (An 26 (.pointer (some ⟨h.size,0,none⟩)) (.agg #[.int .i64 u,.string v,slV w,slV x])) t (λy=>∃z A B C,ze y ⟨h.size,0,none⟩ 0 [.int .i64 z,.string A,slV B,slV C]/\R (.tuple #[.agg #[.int .i64 z,.string A,slV B,slV C],.int .i64 g,.int .i64 0]) y)))))):
  XC Tp 15 #[.string s0] h R:=
 XF ⟨[],[],[]⟩ [.cell 2 26,.tmp 3,.tmp 4] 22 Tryz.func15 H
end
end Go.X
end
section
namespace Go.X
open Go Go.X Go.Proofs Go.RowKit
section
variable {s:Bs} {M:Fr}
theorem zoo(h:(ju s).2.2=0):(ym s).2.2=0:=by
 unfold ju at h
 split at h
 ·assumption
 ·exact h
theorem qbk{x:Bs×List Nd}{i j:Int}{v:Value}(h:zcu M [.pair .str (.row tNd),.int .i64,.int .i64] ((bl x.1,x.2),i,j) v):∃sl:Sl,v=.tuple #[.agg #[.string (bl x.1),slV sl],.int .i64 i,.int .i64 j]/\Rd M (.row tNd) x.2 [slV sl]:=by
 obtain⟨vs,⟨v1,rest,rfl,hx,v2,Z,rfl,hy,v3,rfl,hz⟩,rfl⟩:=h
 rw[yo hy,yo hz]
 obtain⟨cs,rfl,c1,c2,rfl,e1,e2⟩:=hx
 have e1:c1=[.string (bl x.1)]:=e1
 subst e1
 obtain⟨sl,rfl⟩:∃sl:Sl,c2=[slV sl]:=by
  obtain⟨w,e,a,c,q,_⟩:=e2
  exact⟨⟨a,_,c⟩,by rw[e,q];rfl⟩
 exact⟨sl,rfl,e2⟩
set_option maxRecDepth 100000 in
set_option maxHeartbeats 2000000 in
theorem qbl{gl:Fr}(hg:GL gl){h:za}(hM:Fr.le gl M)(ag:AgM M h){K:Value->za->Prop}
  (hK:∀(h':za) (bs:List Nat) (sk si:Sl),Keep h.size h h'->OT h' (Qq s).1 bs (xj (Qq s).1 sk si)->(∀b∈bs,h.size<=b)->K (.tuple #[.agg #[.int .i64 (Qq s).1.kind,.string (Qq s).1.text,slV sk,slV si],.int .i64 (Qq s).2.1,.int .i64 (Qq s).2.2]) h'):
  XC Tp 15 #[.string (bl s)] h K:=by
 apply zon
 intro h1
 have k1:Keep h.size h h1:=Keep.push _ _ (Ad _)
 have z1:h1.size=h.size+1:=Ak _
 have R1:Blk h1 h.size #[.int .i64 0,.string ⟨#[]⟩,.slice none 0 0,.slice none 0 0]:=Blk.new _ _ _
 clear_value h1
 refine(zhb hg (s:=s) (R:=λr=>r=((bl (ju s).1.1,(ju s).1.2),(ju s).2.1,(ju s).2.2)) rfl).go hM (ag.keep k1) (jc (a:=Arg.mk .str _) (rdStr _) xb) λv h3 M' r L hv hr=>?_
 subst hr
 obtain⟨sl,rfl,rd⟩:=qbk hv
 refine⟨_,sl,_,_,rfl,?_⟩
 have k3:=L.keep
 have z3:=k3.size
 have ab:Keep h.size h h3:=k1.trans (c:=h3) (m:=h.size) ⟨z3,λj hj=>k3.get j (by omega)⟩ (Ad _)
 have R3:=R1.keep (k3.get h.size (by omega))
 intro h8
 have k8:Keep h3.size h3 h8:=Keep.push _ _ (Ad _)
 have z8:h8.size=h3.size+1:=Ak _
 have D8:Blk h8 h3.size #[.string ⟨#[]⟩,.slice none 0 0]:=Blk.new _ _ _
 clear_value h8
 refine zcq (u:=bl (ju s).1.1) (v:=sl) D8 λh9 f9 z9 D9=>?_
 have k9:Keep h3.size h3 h9:=⟨by omega,λj hj=>(f9 j (by omega)).trans (k8.get j hj)⟩
 have aa:Keep h.size h h9:=ab.trans (c:=h9) (m:=h.size) ⟨k9.size,λj hj=>k9.get j (by omega)⟩ (Ad _)
 have R9:=R3.keep (k9.get h.size (by omega))
 refine⟨λhx=>?_,λhx=>?_⟩
 ·have hx:¬(ju s).2.2=0:=by simpa using hx
  have eR:Qq s=(.mk 0 (bl []) [] [],(ju s).2.1,(ju s).2.2):=by unfold Qq;rw[if_neg hx]
  rw[eR]at hK
  refine zdx (k:=0) (s:=⟨#[]⟩) (sk:=⟨none,0,0⟩) (si:=⟨none,0,0⟩) R9 λg f z B=>⟨_,_,_,_,B.ld (cs:=[.int .i64 0,.string ⟨#[]⟩,slV ⟨none,0,0⟩,slV ⟨none,0,0⟩]),?_⟩
  obtain⟨bs,ot,af⟩:=(Own.new (lo:=h.size) (hi:=g.size) (b0:=h.size) (k:=0) (s:=bl []) B (Ad _) (Ad _)).ot
  exact hK g bs ⟨none,0,0⟩ ⟨none,0,0⟩ (aa.trans (c:=g) (m:=h.size) ⟨by omega,λj hj=>f j (by omega)⟩ (Ad _)) ot (λb hb=>(af b hb).1)
 ·have hx:(ju s).2.2=0:=by simpa using hx
  obtain⟨lvs,G,e1,e2,e3,e4⟩:=zck hx
  obtain⟨hs,ah⟩:=zq0 (zoo hx)
  have eR:Qq s=(qw s (ju s).1.2 33 0,(s.length:Int),0):=by unfold Qq;rw[if_pos hx]
  rw[eR]at hK
  rw[e1]at D9
  rw[e2]
  refine⟨_,sl,D9.ld (cs:=[.string (bl s),slV sl]),?_⟩
  have ae:AgM M' h9:=L.ag.keep k9
  refine zy1 hg hs G (λx hx=>by have:=e4 x hx;unfold ndW at this;omega) 33 0 1 1 rfl (by omega) (by omega) (by omega) h9 M' sl (hM.trans L.le) ae rd _ λai bs sk si Z ot hb=>⟨_,_,sk,si,rfl,?_⟩
  have aj:=Z.size
  refine zdx (R9.keep (Z.get h.size (by omega))) λg f z B=>⟨_,_,sk,si,B.ld (cs:=[_,_,slV sk,slV si]),?_⟩
  exact hK g bs sk si (aa.trans (c:=g) (m:=h.size) ⟨by omega,λj hj=>by rw[f j (by omega)];exact Z.get j (by omega)⟩ (Ad _)) (ot.frame λc hc=>f c (by have:=hb c hc;omega)) (λc hc=>by have:=hb c hc;omega)
end
section
theorem qdu{M:Fr}{t:Bs}{nodes:List Nd}{u:Value}(h:RdV M zqt (bl t,nodes) u):∃sl:Sl,u=.agg #[.string (bl t),slV sl]/\Rd M (.row tNd) nodes [slV sl]:=by
 obtain⟨cs,rfl,c1,c2,rfl,e1,e2⟩:=h
 have e1:c1=[.string (bl t)]:=e1
 subst e1
 obtain⟨sl,rfl⟩:∃sl:Sl,c2=[slV sl]:=by
  obtain⟨w,e,a,c,q,_⟩:=e2
  exact⟨⟨a,_,c⟩,by rw[e,q];rfl⟩
 exact⟨sl,rfl,e2⟩
section
variable {t : Bs} {nodes : List Nd} {lvs : List Nat} {gl : Fr}
theorem zy5(hg:GL gl)(ht:t.length<=65536)(G:GoodN lvs nodes)(Z:∀x∈nodes,x.2.2.2.1.length<=200000){k l:Nat}{L:Int}(hl:lvs[k]?=some l)(h1:1<=L)(h2:L<=(l:Int)){R:Tr->Prop}(hR:R (qw t nodes 33 k)):PC Tp gl 59 [Arg.mk zqt (bl t,nodes),Arg.mk (.int .i64) (k:Int),Arg.mk (.int .i64) L] [.tree] R:=by
 intro h M vs hM ag ha
 match vs,ha with
 |[u1,u2,u3],⟨a1,a2,a3,_⟩=>
  obtain⟨sl,rfl,rd⟩:=qdu a1
  obtain rfl:=yo (i:=(k:Int)) a2
  obtain rfl:=yo (i:=L) a3
  apply PX.of
  exact zy1 hg ht G Z 33 k l L hl (by omega) h1 h2 h M sl hM ag rd _ λh' bs sk si k' ot hb=>⟨MxL M h' bs,_,MxL.later ag k' hb,zjd.2 ot.rdv,hR⟩
def zy6(t:Bs)(nodes:List Nd)(k:Int):Tr×Bool:=if 0<=k/\k<(nodes.length:Int)then(qw t nodes 33 k.toNat,true)else(.mk 0 (bl []) [] [],false)
theorem zy7(hg:GL gl)(ht:t.length<=65536)(G:GoodN lvs nodes)(Z:∀x∈nodes,x.2.2.2.1.length<=200000){k:Int}{R:Tr×Bool->Prop}(hR:R (zy6 t nodes k)):PC Tp gl 21 [Arg.mk zqt (bl t,nodes),Arg.mk (.int .i64) k] [.tree,.bool] R:=by
 apply zn3
 unfold zy6 at hR
 have e:(bif (decide ((k:Int)<0))then true else(decide ((k:Int)>=((Dd nodes:Nat):Int))))=decide (¬(0<=k/\k<(nodes.length:Int))):=by
  rw[AH]
  simp only[Bool.cond_eq_ite,Bool.if_true_left,BN,decide_eq_true_eq]
  omega
 dsimp only
 rw[e]
 refine⟨λhx=>?_,λhx=>?_⟩
 ·rw[if_neg (of_decide_eq_true hx)]at hR;exact hR
 ·have hx:0<=k/\k<(nodes.length:Int):=Decidable.not_not.1 (of_decide_eq_false hx)
  rw[if_pos hx]at hR
  obtain⟨j,rfl⟩:∃j:Nat,k=(j:Int):=⟨k.toNat,by omega⟩
  rw[Ah]at hR
  have hj:j<lvs.length:=by rw[G.len];omega
  have aa:=G.lv j _ (Ai hj)
  refine zy5 hg ht G Z (Ai hj) (by omega) (by omega) ?_
  have et:Tr.mk (qw t nodes 33 j).kind (qw t nodes 33 j).text (qw t nodes 33 j).keys (qw t nodes 33 j).items=qw t nodes 33 j:=by cases qw t nodes 33 j;rfl
  rw[et];exact hR
theorem zq1(hg:GL gl){s:Bs}{R:Tr×Int×Int->Prop}(hR:R (Qq s)):PC Tp gl 15 [Arg.mk .str (bl s)] [.tree,.int .i64,.int .i64] R:=by
 intro h M vs hM ag ha
 match vs,ha with
 |[u1],⟨a1,_⟩=>
  obtain rfl:=Xq (s:=bl s) a1
  apply PX.of
  exact qbl hg hM ag λh' bs sk si k' ot hb=>⟨MxL M h' bs,_,MxL.later ag k' hb,⟨[_,_,_],⟨_,_,rfl,ot.rdv,_,_,rfl,Xv _ _,_,rfl,Xv _ _⟩,rfl⟩,hR⟩
end
end
end Go.X
end
section
namespace Go.X
open Go Go.Lib
section
variable {v:Tr} {s:Bt} {k:Nat}
theorem zl0(x:Bt):∀(l:List Bt) (i:Nat),(idxFromS l x i=-1/\x∉l)\/∃k:Nat,idxFromS l x i=((i+k:Nat):Int)/\k<l.length/\l[k]?=some x
 |[],i=>.inl ⟨rfl,by simp⟩
 |z::l,i=>by
  unfold idxFromS
  by_cases h:z=x
  ·rw[if_pos h];exact .inr ⟨0,rfl,by simp,by simp[h]⟩
  ·rw[if_neg h]
   rcases zl0 x l (i+1)with⟨h1,h2⟩|⟨k,h1,h2,h3⟩
   ·exact .inl ⟨h1,by simp[h2];exact λe=>h e.symm⟩
   ·exact .inr ⟨k+1,by rw[h1];congr 1;omega,by simp;omega,by simpa using h3⟩
def xf(v:Tr)(s:Bt):Int:=if v.kind=6 then idxOfS v.keys s else if v.kind=5 then(if(zh9 (lb s)).2=true/\(zh9 (lb s)).1<v.items.length then(zh9 (lb s)).1 else -1)else -1
theorem zsx(hv:Zr v=true)(s:Bt):xf v s=-1\/∃k:Nat,xf v s=k/\k<v.items.length:=by
 unfold xf
 by_cases h6:v.kind=6
 ·rw[if_pos h6]
  have hl:v.keys.length=v.items.length:=by
   unfold Zr at hv
   simp[h6]at hv
   exact hv.1.2
  rcases zl0 s v.keys 0 with⟨h1,_⟩|⟨k,h1,h2,_⟩
  ·exact .inl h1
  ·exact .inr ⟨k,by unfold idxOfS;rw[h1];simp,by omega⟩
 ·rw[if_neg h6]
  by_cases h5:v.kind=5
  ·rw[if_pos h5]
   by_cases hc:(zh9 (lb s)).2=true/\(zh9 (lb s)).1<v.items.length
   ·rw[if_pos hc]
    have:=zdu hc.1
    exact .inr ⟨(zh9 (lb s)).1.toNat,by omega,by omega⟩
   ·rw[if_neg hc];exact .inl rfl
  ·rw[if_neg h5];exact .inl rfl
def yz:Tr->List Bt->List (Nat×Tr)
 |_,[]=>[]
 |v,s::p=>if 0<=xf v s then(match v.items[(xf v s).toNat]? with
  |some x=>((xf v s).toNat,x)::yz x p
  |none=>[])else []
def lastT(v:Tr)(l:List (Nat×Tr)):Tr:=(l.getLast?.map (·.2)).getD v
theorem zju(v:Tr)(q:Nat×Tr)(l:List (Nat×Tr)):lastT v (q::l)=lastT q.2 l:=by
 unfold lastT
 cases l with
 |nil=>rfl
 |cons x l=>rw[List.getLast?_cons_cons];cases h:(x::l).getLast? with
  |none=>simp at h
  |some y=>rfl
theorem zjv:∀(v:Tr) (p:List Bt),(yz v p).length<=p.length
 |_,[]=>by simp[yz]
 |v,s::p=>by
  unfold yz
  split
  ·split
   ·rename_i x _
    have:=zjv x p
    simp;omega
   ·simp
  ·simp
theorem zhc{p:List Bt}(h:xf v s<0):yz v (s::p)=[]:=by
 unfold yz;rw[if_neg (by omega)]
theorem zdy{p:List Bt}(h:xf v s=k)(hk:k<v.items.length):yz v (s::p)=(k,v.items[k])::yz v.items[k] p:=by
 rw[yz,if_pos (by omega),h,Ah,Ai hk]
def ze2(v:Tr)(p:List Bt):Option Tr:=if(yz v p).length=p.length then some (lastT v (yz v p))else none
theorem zy8(v:Tr):ze2 v []=some v:=rfl
theorem z2f{p:List Bt}(h:xf v s<0):ze2 v (s::p)=none:=by
 unfold ze2;rw[zhc h];simp
theorem zy9{p:List Bt}(h:xf v s=k)(hk:k<v.items.length):ze2 v (s::p)=ze2 v.items[k] p:=by
 unfold ze2
 rw[zdy h hk,zju]
 simp
theorem zop{q:Tr->Bool}{v x:Tr}(h:zh1 q v=true)(hx:x∈v.items):zh1 q x=true:=by
 rw[zdp,AY,zg1,AX]at h
 exact h.2 x hx
theorem zoq{q:Tr->Bool}(h:zh1 q v=true):q v=true:=by
 rw[zdp,AY]at h;exact h.1
end
section
variable {t:Bs} {k:Nat}
def z2g(t:Bs)(nodes:List Nd)(k:Nat)(s:Bt):Int:=match nodes[k]? with
 |none=>-1
 |some x=>if 0<=xf (qw t nodes 33 k) s then x.2.2.2.1.getD (xf (qw t nodes 33 k) s).toNat (-1)else -1
def atP(t:Bs)(nodes:List Nd):Nat->List Bt->Option Nat
 |k,[]=>some k
 |k,s::p=>if 0<=z2g t nodes k s then atP t nodes (z2g t nodes k s).toNat p else none
def atR(t:Bs)(nodes:List Nd)(p:List Bt):Int×Bool:=if nodes.length=0\/zab p=false then(0,false)else match atP t nodes 0 p with
 |some k=>((k:Int),true)
 |none=>(0,false)
theorem Z5{nodes:List Nd}{k f:Nat}{x:Nd}(h:nodes[k]?=some x):qw t nodes (f+1) k=.mk x.1 (bl (Jx x.1 (qq t x.2.1))) (if x.1=6 then x.2.2.2.1.map λc=>bl (zg3 t nodes c)else []) (x.2.2.2.1.map λc=>qw t nodes f c.toNat):=by
 rw[qw,h]
theorem z8b{nodes:List Nd}{x:Nd}(h:nodes[k]?=some x)(s:Bt):xf (qw t nodes 33 k) s=-1\/∃j:Nat,xf (qw t nodes 33 k) s=(j:Int)/\j<x.2.2.2.1.length:=by
 rw[Z5 h]
 unfold xf
 by_cases h6:x.1=6
 ·simp only[Tr.kind,Tr.keys,h6,if_true]
  rcases zl0 s (x.2.2.2.1.map λc=>bl (zg3 t nodes c)) 0 with⟨h1,_⟩|⟨j,h1,h2,_⟩
  ·exact .inl h1
  ·exact .inr ⟨j,by unfold idxOfS;rw[h1];simp,by simpa using h2⟩
 ·simp only[Tr.kind,if_neg h6]
  by_cases h5:x.1=5
  ·rw[if_pos h5]
   split
   ·rename_i hc
    have:=zdu hc.1
    simp only[Tr.items,A0]at hc
    exact .inr ⟨(zh9 (lb s)).1.toNat,by omega,by omega⟩
   ·exact .inl rfl
  ·rw[if_neg h5];exact .inl rfl
theorem zza{nodes:List Nd}{lvs:List Nat}(G:GoodN lvs nodes){k l:Nat}(hl:lvs[k]?=some l)(s:Bt):z2g t nodes k s=-1\/∃j:Nat,z2g t nodes k s=(j:Int)/\j<nodes.length/\lvs[j]?=some (l+1):=by
 unfold z2g
 cases hx:nodes[k]? with
 |none=>exact .inl rfl
 |some x=>
  dsimp only
  rcases z8b (t:=t) hx s with e|⟨j,e,hj⟩
  ·rw[e];exact .inl rfl
  ·rw[e,if_pos (by omega),Ah]
   have hd:x.2.2.2.1.getD j (-1)=x.2.2.2.1[j]:=by simp[List.getD,hj]
   rw[hd]
   obtain⟨i,e1,_,e2⟩:=G.kid k l x hx hl _ (AL hj)
   have:=(Av.1 e2).1
   rw[G.len]at this
   exact .inr ⟨i,e1,this,e2⟩
end
end Go.X
end
section
namespace Go.X
section
theorem z8c{gl:Fr}(hg:GL gl){v:Tr}{s:Bt}(hs:(lb s).length<=1048576){R:Int->Prop}(h:R (xf v s)):PC Tp gl 230 [Arg.mk .tree v,Arg.mk .str s] [.int .i64] R:=by
 apply zgo
 unfold xf at h
 refine⟨λh6=>?_,λh6=>⟨λh5=>?_,λh5=>?_⟩⟩
 ·have Z:v.kind=6:=by simpa using h6
  rw[if_pos Z]at h
  exact zhz h
 ·have Z:v.kind≠6:=by simpa using h6
  have aa:v.kind=5:=by simpa using h5
  rw[if_neg Z,if_pos aa]at h
  have hi:=zn9 hg (l:=lb s) hs (R:=λr=>r=zh9 (lb s)) rfl
  rw[zhs]at hi
  refine hi.mono λr hr=>?_
  subst hr
  refine⟨λhx=>?_,λhx=>?_⟩
  ·rw[if_pos (by simpa using hx)]at h;exact h
  ·rw[if_neg (by simpa using hx)]at h;exact h
 ·have Z:v.kind≠6:=by simpa using h6
  have aa:v.kind≠5:=by simpa using h5
  rw[if_neg Z,if_neg aa]at h;exact h
end
end Go.X
end
section
namespace Go.X
open Go Go.X Go.Proofs Go.RowKit
section
variable {k:Nat}
theorem zsy{gl:Fr}{t:Bs}{nodes:List Nd}{k:Int}{R:Bool->Prop}(hR:R (decide (0<=k/\k<(nodes.length:Int)))):PC Tp gl 72 [Arg.mk zqt (bl t,nodes),Arg.mk (.int .i64) k] [.bool] R:=by
 apply zln
 have e:(bif (decide ((k:Int)>=0))then(decide ((k:Int)<((Dd nodes:Nat):Int)))else false)=decide (0<=k/\k<(nodes.length:Int)):=by
  rw[AH]
  simp only[Bool.cond_eq_ite,decide_eq_true_eq]
  split <;> simp <;> omega
 dsimp only
 rw[e];exact hR
theorem z2h{l:List Int}(h:k<l.length):l[((k:Int)).toNat]?=some l[k]:=by rw[Ah,Ai h]
section
variable {t : Bs} {nodes : List Nd} {lvs : List Nat} {gl : Fr}
theorem qbm(hg:GL gl)(ht:t.length<=65536)(G:GoodN lvs nodes)(ap:∀x∈nodes,x.2.2.2.1.length<=200000){k l:Nat}(hl:lvs[k]?=some l){s:Bt}(hs:(lb s).length<=1048576){R:Int->Prop}(hR:R (z2g t nodes k s)):PC Tp gl 71 [Arg.mk zqt (bl t,nodes),Arg.mk (.int .i64) (k:Int),Arg.mk .str s] [.int .i64] R:=by
 have af:k<nodes.length:=by have:=(Av.1 hl).1;rw[G.len]at this;exact this
 have hx:nodes[k]?=some nodes[k]:=Ai af
 have aj:=ap _ (AL af)
 apply zqh
 unfold z2g at hR
 rw[hx]at hR
 dsimp only at hR
 have aa:=z8b (t:=t) hx s
 rw[Z5 hx]at hR aa
 generalize nodes[k]=x at hx aj hR aa
 refine⟨x,⟨by omega,by rw[Ah];exact hx⟩,x,⟨by omega,by rw[Ah];exact hx⟩,λh5=>?_,λh5=>⟨λh6=>?_,λh6=>?_⟩⟩
 ·have h5:x.1=5:=by simpa using h5
  have h6:¬x.1=6:=by omega
  have hi:=zn9 hg (l:=lb s) hs (R:=λr=>r=zh9 (lb s)) rfl
  rw[zhs]at hi
  refine hi.mono λr hr=>?_
  subst hr
  unfold xf at hR
  simp only[Tr.kind,Tr.keys,Tr.items,h5,if_true,A0]at hR
  rw[if_neg (show¬((5:Int)=6)by decide)]at hR
  refine⟨λhc=>?_,λhc=>?_⟩
  ·have Z:(zh9 (lb s)).2=true/\(zh9 (lb s)).1<(x.2.2.2.1.length:Int):=by
    simp only[Bool.cond_eq_ite]at hc
    split at hc
    ·rename_i h1;exact⟨h1,of_decide_eq_true hc⟩
    ·cases hc
   have hr:=zdu Z.1
   obtain⟨j,hj⟩:∃j:Nat,(zh9 (lb s)).1=(j:Int):=⟨(zh9 (lb s)).1.toNat,by omega⟩
   rw[if_pos Z,if_pos hr.1]at hR
   rw[hj]at hR Z ⊢
   have ai:j<x.2.2.2.1.length:=by omega
   refine⟨x.2.2.2.1[j],⟨by omega,z2h ai⟩,?_⟩
   rw[Ah]at hR
   have hd:x.2.2.2.1.getD j (-1)=x.2.2.2.1[j]:=by simp[List.getD,ai]
   rw[hd]at hR;exact hR
  ·have Z:¬((zh9 (lb s)).2=true/\(zh9 (lb s)).1<(x.2.2.2.1.length:Int)):=λh1=>by
    rw[h1.1,cond_true,decide_eq_true h1.2]at hc;cases hc
   rw[if_neg Z,if_neg (by decide)]at hR;exact hR
 ·have h6:x.1=6:=by simpa using h6
  unfold xf at hR aa
  simp only[Tr.kind,Tr.keys,Tr.items,h6,if_true]at hR aa
  generalize ak:(x.2.2.2.1.map λc=>bl (zg3 t nodes c))=ks at hR aa
  have ar:ks.length=x.2.2.2.1.length:=by rw[<-ak,A0]
  refine⟨λi=>∃n:Nat,i=(n:Int)/\n<=x.2.2.2.1.length/\∀j,j<n->ks.getD j DZ≠s,λi=>x.2.2.2.1.length-i.toNat,⟨0,rfl,by omega,λj hj=>by omega⟩,?_⟩
  rintro i ⟨n,rfl,hn,ab⟩
  refine⟨λhc=>?_,λhc=>?_⟩
  ·have Z:n<x.2.2.2.1.length:=by have:=of_decide_eq_true hc;omega
   refine⟨x.2.2.2.1[n],⟨by omega,z2h Z⟩,?_⟩
   obtain⟨j,e1,_,e2⟩:=G.kid k l x hx hl _ (AL Z)
   have hj:=(Av.1 e2).1
   rw[G.len]at hj
   refine zsy ⟨x.2.2.2.1[n],λ_=>⟨by omega,z2h Z⟩,?_⟩
   have am:decide (0<=x.2.2.2.1[n]/\x.2.2.2.1[n]<(nodes.length:Int))=true:=decide_eq_true ⟨by omega,by omega⟩
   rw[am]
   have ae:nodes[j]?=some nodes[j]:=Ai hj
   refine⟨λr=>r=bl (zu5 t nodes[j]),λ_=>?_,λr hr=>?_⟩
   ·rw[e1];exact zyr hg ht ae rfl
   ·have hr:=hr rfl
    subst hr
    have ah:ks.getD n DZ=bl (zu5 t nodes[j]):=by
     rw[<-ak]
     simp only[List.getD,BS,Ai Z,Dw,Option.getD_some]
     rw[e1];unfold zg3;rw[Ah,ae]
    refine⟨λhq=>?_,λhq=>?_⟩
    ·rw[cond_true]at hq
     have hq:bl (zu5 t nodes[j])=s:=by rw[Yu,Yu]at hq;exact znh.1 (eq_of_beq hq)
     have:=Lib.idxOfS_hit ks ks.length n s (by omega) (Ad _) (by rw[ah,hq]) ab
     rw[Bb]at this
     rw[this,if_pos (by omega),Ah]at hR
     have hd:x.2.2.2.1.getD n (-1)=x.2.2.2.1[n]:=by simp[List.getD,Z]
     rw[hd]at hR
     exact⟨x.2.2.2.1[n],⟨by omega,z2h Z⟩,hR⟩
    ·rw[cond_true]at hq
     have hq:bl (zu5 t nodes[j])≠s:=by intro e;rw[e]at hq;simp at hq
     have hw:=Xy Z (by omega)
     rw[hw]
     refine⟨⟨n+1,rfl,by omega,λi hi=>?_⟩,by simp only[Ah];omega⟩
     by_cases an:i=n
     ·subst an;rw[ah];exact hq
     ·exact ab i (by omega)
  ·have Z:n=ks.length:=by have:=of_decide_eq_false hc;omega
   subst Z
   have:=Lib.idxOfS_miss ks ks.length s ab
   rw[Bb]at this
   rw[this,if_neg (by decide)]at hR
   exact hR
 ·have h5:¬x.1=5:=by simpa using h5
  have h6:¬x.1=6:=by simpa using h6
  unfold xf at hR
  simp only[Tr.kind,if_neg h5,if_neg h6]at hR
  rw[if_neg (by decide)]at hR;exact hR
theorem qbn(hg:GL gl)(ht:t.length<=65536)(G:GoodN lvs nodes)(h0:nodes.length≠0->lvs[0]?=some 1)(ae:∀x∈nodes,x.2.2.2.1.length<=200000){p:List Bt}(hp:SL p){R:Int×Bool->Prop}(hR:R (atR t nodes p)):PC Tp gl 23 [Arg.mk zqt (bl t,nodes),Arg.mk (.row .str) p] [.int .i64,.bool] R:=by
 have ai:=hp.n
 apply zur
 unfold atR at hR
 dsimp only
 refine⟨λr=>r=zab p,λ_=>zso hg hp rfl,λr hr=>⟨λhc=>?_,λhc=>?_⟩⟩
 ·rw[if_pos ?_]at hR
  ·exact hR
  ·cases hn:(((Dd nodes:Nat):Int)==0)with
   |true=>exact .inl (by have:=eq_of_beq hn;omega)
   |false=>
    rw[hn]at hr hc
    have:=hr rfl
    subst this
    rw[cond_false]at hc
    exact .inr (by simpa using hc)
 ·have hn:(((Dd nodes:Nat):Int)==0)=false:=by
   cases hn:(((Dd nodes:Nat):Int)==0)with
   |true=>rw[hn]at hc;cases hc
   |false=>rfl
  rw[hn]at hr hc
  have:=hr rfl
  subst this
  rw[cond_false]at hc
  have hn:nodes.length≠0:=λe=>by rw[e]at hn;exact absurd hn (by decide)
  rw[if_neg (by rintro(h|h);exact hn h;rw[h]at hc;cases hc)]at hR
  refine⟨λkk i=>∃n c l:Nat,i=(n:Int)/\kk=(c:Int)/\n<=p.length/\lvs[c]?=some l/\atP t nodes 0 p=atP t nodes c (p.drop n),λkk i=>p.length-i.toNat,⟨0,0,1,rfl,rfl,by omega,h0 hn,rfl⟩,?_⟩
  rintro kk i ⟨n,c,l,rfl,rfl,ah,hl,Z⟩
  refine⟨λhc=>?_,λhc=>?_⟩
  ·have aa:n<p.length:=by have:=of_decide_eq_true hc;omega
   have ab:p.drop n=p[n]::p.drop (n+1):=AF aa
   refine⟨p[n],⟨by omega,z1l aa⟩,?_⟩
   refine qbm hg ht G ae hl (by have:=hp.s _ (AL aa);omega) (zsy ?_)
   rw[ab,atP]at Z
   rcases zza (t:=t) G hl p[n]with e|⟨j,e,hj,af⟩
   ·rw[e]at Z ⊢
    rw[if_neg (by decide)]at Z
    rw[Z]at hR
    exact⟨λ_=>hR,λhx=>by simp at hx⟩
   ·rw[e]at Z ⊢
    rw[if_pos (by omega),Ah]at Z
    have hw:=Xy aa (by omega)
    rw[hw]
    have hd:decide (0<=(j:Int)/\(j:Int)<(nodes.length:Int))=true:=decide_eq_true ⟨by omega,by omega⟩
    rw[hd]
    exact⟨λhx=>(by cases hx),λ_=>⟨⟨n+1,j,l+1,rfl,rfl,by omega,af,Z⟩,by simp only[Ah];omega⟩⟩
  ·have aa:n=p.length:=by have:=of_decide_eq_false hc;omega
   subst aa
   rw[List.drop_length,atP]at Z
   rw[Z]at hR
   exact hR
end
end
end Go.X
end
section
namespace Go.X
open Go Go.Lib
section
def zT:Tr:=.mk 0 ⟨#[]⟩ [] []
def zzb(v:Tr)(p:List Bt):Tr×Bool:=if Xz v&&zab p then(match ze2 v p with
 |some x=>(x,true)
 |none=>(zT,false))else(zT,false)
end
end Go.X
end
section
namespace Go.X.U
section
variable {o:Oper} {ρ:Operand -> Value} {h h':za} {a b:Act} {P:Program} {ops:Array Oper} {listed:Array Bool} {i n:Nat}
def X5(o:Oper):Option Bool:=match o.op with
 |.fieldAddr _ _ _=>some true
 |.indexAddr _ _ _=>some true
 |.move _=>some true
 |.assign _=>some true
 |.load _ _=>some false
 |.binOp _ _ _ _ _=>some true
 |.call c=>match c.callee with
  |.builtin .len=>some true
  |_=>none
 |_=>none
def zc(o:Oper):Bool:=match X5 o with
 |some _=>true
 |none=>false
def zh(o:Oper):Bool:=match X5 o with
 |some b=>!b
 |none=>false
def heavyL:Nat->List Oper->List Nat
 |_,[]=>[]
 |k,o::l=>bif zc o then heavyL (k+1) l else k::heavyL (k+1) l
def Yd(ops:Array Oper):List Nat->Bool
 |[]=>true
 |[_]=>true
 |i::j::l=>bif Region.waitsFor .any ops j i then Yd ops (j::l)else false
def jg(ops:Array Oper)(i:Nat):List Nat->Bool
 |[]=>false
 |j::l=>bif Region.waitsFor .any ops j i then true else jg ops i l
def zfr(ops:Array Oper)(T:List Nat):Nat->Bool
 |0=>false
 |k+1=>bif (match ops[k]? with
  |some o=>bif zh o then !(jg ops k T)else false
  |none=>false)then true else zfr ops T k
def j4(l:List Oper):Bool:=l.all λo=>match o.guard with
 |none=>jb o.op
 |some _=>false
def Ye(ops:Array Oper):Nat->Bool
 |0=>true
 |k+1=>bif (match ops[k]? with
  |some o=>bif yw ops k (tmpsOf o.op.operands.toList) ops.size then(bif zc o then(heavyL 0 ops.toList).all λj=>!(Region.waitsFor .any ops k j)||(match yf ops j with
   |some t=>!(memN (tmpsOf o.op.operands.toList) t)
   |none=>true)else true)else false
  |none=>true)then Ye ops k else false
def mixB(ops:Array Oper):Bool:=bif j4 ops.toList then(bif qa ops ops.size then(bif jj ops ops.size then(bif Yd ops (heavyL 0 ops.toList)then Ye ops ops.size else false)else false)else false)else false
def zuw(o:Oper)(ρ:Operand->Value)(h h':za):Prop:=match o.op with
 |.load _ x=>∀c,ρ x=.pointer (some c)->h'[c.block]?=h[c.block]?
 |_=>True
theorem zzc(o:Oper)(ρ:Operand->Value)(h:za):zuw o ρ h h:=by
 unfold zuw;split
 ·exact λ_ _=>rfl
 ·trivial
theorem zdz{ρ ρ':Operand->Value}(e:∀x∈o.op.operands.toList,ρ x=ρ' x)(H:zuw o ρ h h'):zuw o ρ' h h':=by
 unfold zuw at H ⊢
 split
 ·rename_i t x ho
  rw[ho]at H e
  exact λc hc=>H c (by rw[e x (by simp[Op.operands]),hc])
 ·trivial
def qS(P:Program)(o:Oper)(ρ:Operand->Value)(h:za)(K:Value->Prop):Prop:=match o.op with
 |.call _=>zcw P (execOp ρ o) K
 |_=>w9 P o ρ none h K
def zor(ops:Array Oper)(T:List Nat)(e:Env)(h0 h':za):Nat->Prop
 |0=>True
 |k+1=>match ops[k]? with
  |some o=>bif zh o then(bif jg ops k T then zor ops T e h0 h' k else(match o.op with
   |.load _ x=>(match Y4 e [] x with
    |some (.pointer (some c))=>h'[c.block]?=h0[c.block]?/\zor ops T e h0 h' k
    |_=>False)
   |_=>False))else zor ops T e h0 h' k
  |none=>zor ops T e h0 h' k
theorem zjw{ops:Array Oper}{T:List Nat}{e:Env}{h0 h':za}:∀{m:Nat},zor ops T e h0 h' m->∀k ok,k<m->ops[k]?=some ok->zh ok=true->jg ops k T=false->∃t x c,ok.op=.load t x/\Y4 e [] x=some (.pointer (some c))/\h'[c.block]?=h0[c.block]?
 |0,_,k,_,hk,_,_,_=>by omega
 |m+1,H,k,ok,hk,ho,hl,ha=>by
  unfold zor at H
  rcases AR k m with h1|h1
  ·have H':zor ops T e h0 h' m:=by
    split at H
    ·rename_i o _
     cases hlo:zh o with
     |false=>rw[hlo]at H;exact H
     |true=>
      rw[hlo]at H
      simp only[cond_true]at H
      cases haw:jg ops m T with
      |true=>rw[haw]at H;exact H
      |false=>
       rw[haw]at H
       simp only[cond_false]at H
       split at H
       ·split at H
        ·exact H.2
        ·exact H.elim
       ·exact H.elim
    ·exact H
   exact zjw H' k ok h1 ho hl ha
  ·have:k=m:=by omega
   subst this
   rw[ho]at H
   simp only[hl,ha,cond_true,cond_false]at H
   split at H
   ·rename_i t x Z
    split at H
    ·rename_i c hc
     exact⟨t,x,c,Z,hc,H.1⟩
    ·exact H.elim
   ·exact H.elim
def wU(P:Program)(n:Nat)(h:za)(K:Env->Prop):List Oper->Env->Prop
 |[],e=>K e
 |o::l,e=>bif zc o then(bif qi n [] o.dst then(bif jb o.op then(bif known e [] o.op.operands.toList then qS P o (rho e []) h λv=>wU P n h K l (putO e o.dst [] v)else False)else False)else False)else wU P n h K l e
def wT(P:Program)(n:Nat)(ops:Array Oper)(h0:za)(K:Env->za->Prop):List Nat->List Nat->Env->za->Prop
 |_,[],e,h=>K (clean e) h
 |T,j::l,e,h=>match ops[j]? with
  |some o=>bif qi n [] o.dst then opW P o e [] h λv h'=>(bif zfr ops (j::T) ops.size then zor ops (j::T) (putO e o.dst [] v) h0 h' ops.size/\wT P n ops h0 K (j::T) l (putO e o.dst [] v) h' else wT P n ops h0 K (j::T) l (putO e o.dst [] v) h')else False
  |none=>False
def qe:Nat->List Oper->(Nat->Value)->Act->Act
 |_,[],_,a=>a
 |k,o::l,f,a=>qe (k+1) l f (bif zc o then a.put o.dst (f k)else a)
theorem yg{a b:Act}:∀{l:List Operand},(∀t∈tmpsOf l,zl a t=zl b t)->∀x∈l,a.eval x=b.eval x
 |[],_,x,hx=>by cases hx
 |y::l,h,x,hx=>by
  rcases Af.1 hx with rfl|hx
  ·cases x with
   |tmp t=>exact h t (by simp[tmpsOf])
   |const v=>rfl
   |global g=>rfl
   |func f=>rfl
  ·refine yg (l:=l) (λt ht=>h t ?_) x hx
   cases y <;> simp[tmpsOf,ht]
theorem yh(hs:jb o.op=true)(h:∀t∈tmpsOf o.op.operands.toList,zl a t=zl b t):execOp a.eval o=execOp b.eval o:=
 execOp_congr o (λcs b hb=>by rw[hb]at hs;cases hs) λx hx=>yg h x (by simpa using hx)
theorem zos{q:Addr}(e:h'[q.block]?=h[q.block]?):zd h' q=zd h q:=by unfold zd;rw[e]
theorem z8d(q:Addr)(i:Nat):(q.add i).block=q.block:=by unfold Al;split <;> rfl
theorem zjx{h h':za}{q:Addr}(e:h'[q.block]?=h[q.block]?):∀{vs:List Value} {i:Nat},ze h q i vs->ze h' q i vs
 |[],_,_=>trivial
 |_::_,i,⟨h1,h2⟩=>⟨(zos (q:=q.add i) (by rw[z8d];exact e)).trans h1,zjx e h2⟩
theorem Xj(hq:zc o=true){K:Value->Prop}(H:qS P o ρ h K):
  ∃v,K v/\∀h',(zh o=false\/zuw o ρ h h')->QExec P (execOp ρ o) h' (.value v):=by
 unfold qS at H
 cases ho:o.op with
 |load t x=>
  rw[ho]at H
  simp only at H
  unfold w9 at H
  rw[ho]at H
  simp only at H
  unfold zj4 at H
  split at H
  ·rename_i q b hp hv
   obtain⟨y,h1,h2⟩:=H
   refine⟨_,h2,λh' hk=>?_⟩
   have hb:h'[q.block]?=h[q.block]?:=by
    rcases hk with hk|hk
    ·unfold zh X5 at hk;rw[ho]at hk;cases hk
    ·unfold zuw at hk;rw[ho]at hk;exact hk q hp
   simp only[execOp,ho,hp]
   exact(zbn hv (by rw[zos hb];exact h1.out trivial)).val
  ·rename_i q l hp hv
   obtain⟨vs,h0,⟨h1,h2⟩,_⟩:=Z0 H (je l)
   refine⟨_,h2,λh' hk=>?_⟩
   have hb:h'[q.block]?=h[q.block]?:=by
    rcases hk with hk|hk
    ·unfold zh X5 at hk;rw[ho]at hk;cases hk
    ·unfold zuw at hk;rw[ho]at hk;exact hk q hp
   simp only[execOp,ho,hp]
   exact(zbo hv h0 (zjx hb (h1.out trivial))).val
  ·exact H.elim
 |fieldAddr t x i=>
  rw[ho]at H
  simp only at H
  unfold w9 at H;rw[ho]at H
  obtain⟨v,h1,h2⟩:=zm H none
  exact⟨v,h1,λh' _=>h2 trivial h'⟩
 |indexAddr t x i=>
  rw[ho]at H
  simp only at H
  unfold w9 at H;rw[ho]at H
  simp only at H
  cases he:Wm P t with
  |false=>rw[he]at H;exact H.elim
  |true=>
   rw[he]at H
   obtain⟨v,h1,h2⟩:=we (j8 he) H
   refine⟨v,h1,λh' _=>?_⟩
   simp only[execOp,ho]
   exact(h2 trivial h').val
 |move x=>
  rw[ho]at H
  simp only at H
  unfold w9 at H;rw[ho]at H
  obtain⟨v,h1,h2⟩:=zm H none
  exact⟨v,h1,λh' _=>h2 trivial h'⟩
 |assign x=>
  rw[ho]at H
  simp only at H
  unfold w9 at H;rw[ho]at H
  obtain⟨v,h1,h2⟩:=zm H none
  exact⟨v,h1,λh' _=>h2 trivial h'⟩
 |binOp op t x y t'=>
  rw[ho]at H
  simp only at H
  unfold w9 at H;rw[ho]at H
  simp only at H
  obtain⟨v,h1,h2⟩:=zj5 ho H
  exact⟨v,h1,λh' _=>h2 trivial h'⟩
 |call c=>
  rw[ho]at H
  simp only at H
  obtain⟨v,h1,h2⟩:=zm H none
  exact⟨v,h1,λh' _=>h2 trivial h'⟩
 |_=>unfold zc X5 at hq;rw[ho]at hq;cases hq
theorem qf(σ:Nat->Value):valid σ []:=by unfold valid;trivial
theorem Z1:∀{l:List Oper} {k:Nat} {f:Nat->Value} {a:Act},(qe k l f a).tmps.size=a.tmps.size/\(qe k l f a).defers=a.defers
 |[],_,_,_=>⟨rfl,rfl⟩
 |o::l,k,f,a=>by
  unfold qe
  have:=Z1 (l:=l) (k:=k+1) (f:=f) (a:=bif zc o then a.put o.dst (f k)else a)
  rw[this.1,this.2]
  cases zc o with
  |true=>exact⟨size_put _ _ _,zu _ _ _⟩
  |false=>exact⟨rfl,rfl⟩
theorem zi{d:Option Nat}{u:Value}{s:Nat}(h:d≠some s):zl (a.put d u) s=zl a s:=by
 cases d with
 |none=>rfl
 |some t=>exact qb λe=>h (by rw[e])
theorem qz{s:Nat}:∀{l:List Oper} {k:Nat} {f:Nat->Value} {a:Act},(∀o∈l,zc o=true->o.dst≠some s)->zl (qe k l f a) s=zl a s
 |[],_,_,_,_=>rfl
 |o::l,k,f,a,h=>by
  unfold qe
  rw[qz λo' Z=>h o' (Ae _ Z)]
  cases hq:zc o with
  |true=>exact zi (h o Aj hq)
  |false=>rfl
theorem Qv{P:Program}{n:Nat}{h:za}{K:Env->Prop}:∀{l:List Oper} {k:Nat} {e:Env} {a:Act},wU P n h K l e->Sat n e a->∃(f:Nat->Value) (e':Env),K e'/\Sat n e' (qe k l f a) /\
  ∀i o,l[i]?=some o->zc o=true->jb o.op=true/\qi n [] o.dst=true/\∀h',(zh o=false\/zuw o (qe k (l.take i) f a).eval h h')->QExec P (execOp (qe k (l.take i) f a).eval o) h' (.value (f (k+i)))
 |[],k,e,a,H,hs=>⟨λ_=>undef,e,H,hs,λi o h=>by simp at h⟩
 |o::l,k,e,a,H,hs=>by
  unfold wU at H
  cases hq:zc o with
  |false=>
   rw[hq]at H
   obtain⟨f,e',h1,h2,h3⟩:=Qv (k:=k+1) H hs
   refine⟨f,e',h1,by unfold qe;rw[hq];exact h2,λi o' hi Z=>?_⟩
   cases i with
   |zero=>simp at hi;subst hi;rw[hq]at Z;cases Z
   |succ i=>
    have:=h3 i o' (by simpa using hi) Z
    rw[Be]
    unfold qe
    rw[hq,show k+(i+1)=k+1+i by omega];exact this
  |true=>
   rw[hq]at H
   simp only[cond_true]at H
   cases hd:qi n [] o.dst with
   |false=>rw[hd]at H;exact H.elim
   |true=>
    rw[hd]at H
    simp only[cond_true]at H
    cases hns:jb o.op with
    |false=>rw[hns]at H;exact H.elim
    |true=>
     rw[hns]at H
     simp only[cond_true]at H
     cases hk:known e [] o.op.operands.toList with
     |false=>rw[hk]at H;exact H.elim
     |true=>
      rw[hk]at H
      simp only[cond_true]at H
      obtain⟨v,H1,H2⟩:=Xj hq H
      obtain⟨f,e',h1,h2,h3⟩:=Qv (k:=k+1) (a:=a.put o.dst v) H1 (hs.putO hd (λ_=>rfl) λhv=>absurd (qf _) hv)
      have hf:∀(m:List Oper) (j:Nat) (b:Act),qe (k+1+j) m (λx=>if x=k then v else f x) b=qe (k+1+j) m f b:=by
       intro m
       induction m with
       |nil=>intro j b;rfl
       |cons o' m ih=>
        intro j b
        unfold qe
        dsimp only
        rw[if_neg (show¬k+1+j=k by omega),show k+1+j+1=k+1+(j+1)by omega,ih]
      refine⟨λx=>if x=k then v else f x,e',h1,?_,λi o' hi Z=>?_⟩
      ·unfold qe
       rw[hq,cond_true]
       dsimp only
       rw[if_pos rfl]
       have:=hf l 0 (a.put o.dst v)
       rw[Cu]at this
       rw[this];exact h2
      ·cases i with
       |zero=>
        simp at hi;subst hi
        rw[Dg,Cu]
        dsimp only
        rw[if_pos rfl]
        refine⟨hns,hd,λh' hh=>?_⟩
        show QExec P (execOp a.eval o) h' _
        rw[Qr hs (qf _) hns hk]
        exact H2 h' (hh.imp id λr=>zdz (λx hx=>j7 hs (qf _) hk x hx) r)
       |succ i=>
        have:=h3 i o' (by simpa using hi) Z
        rw[Be]
        unfold qe
        rw[hq,cond_true]
        dsimp only
        rw[if_pos rfl]
        have e2:=hf (l.take i) 0 (a.put o.dst v)
        rw[Cu]at e2
        rw[e2,if_neg (show¬k+(i+1)=k by omega),show k+(i+1)=k+1+i by omega]
        exact this
theorem Yf{next:Act->World->Prop}{Q:Exit->Act->World->Prop}{r:Result Next}(hb:b.defers=[])
  (H:o.upon P b (λc w=>c.defers=[]/\∀v,c=b.put o.dst v->next (a.put o.dst v) w) (λ_ _ _=>False) r):o.upon P a next Q r:=by
 have lo:¬LetsOut (λ(_:Exit) (_:Act) (_:World)=>False):=λh=>by
  obtain⟨_,_,h⟩:=h
  exact h
 cases r with
 |ok x w=>
  cases x with
  |value v=>exact H.2 v rfl
  |skip=>exact H.2 undef rfl
  |defer d=>
   have:=H.1
   rw[zu]at this;cases this
  |enter f args=>
   refine Calls.mono (show Calls P f args w _ from H) λe w' he=>?_
   cases e with
   |returned v=>exact he.2 v rfl
   |panicked c=>exact he.elim
   |outgrown=>exact absurd he lo
  |row row args=>exact Rows.mono (show Rows P row args w _ from H) λv w' he=>he.2 v rfl
  |_=>exact H
 |halt x w=>cases x <;> first|exact H.elim|exact H
theorem ql{j:Nat}:∀{l:List Oper} {k:Nat},j∈heavyL k l↔k<=j/\∃o,l[j-k]?=some o/\zc o=false
 |[],k=>by simp[heavyL]
 |o::l,k=>by
  unfold heavyL
  cases hq:zc o with
  |true=>
   rw[cond_true,ql (l:=l)]
   constructor
   ·rintro⟨h1,o',h2,h3⟩
    exact⟨by omega,o',by rw[show j-k=(j-(k+1))+1 by omega];simpa using h2,h3⟩
   ·rintro⟨h1,o',h2,h3⟩
    rcases Dm h1 with e|e
    ·subst e
     simp at h2;subst h2;rw[hq]at h3;cases h3
    ·exact⟨by omega,o',by rw[show j-k=(j-(k+1))+1 by omega]at h2;simpa using h2,h3⟩
  |false=>
   rw[cond_false,Af,ql (l:=l)]
   constructor
   ·rintro(rfl|⟨h1,o',h2,h3⟩)
    ·exact⟨Ad _,o,by simp,hq⟩
    ·exact⟨by omega,o',by rw[show j-k=(j-(k+1))+1 by omega];simpa using h2,h3⟩
   ·rintro⟨h1,o',h2,h3⟩
    rcases Dm h1 with e|e
    ·exact .inl e.symm
    ·exact .inr ⟨by omega,o',by rw[show j-k=(j-(k+1))+1 by omega]at h2;simpa using h2,h3⟩
theorem yc:∀{l:List Oper} {k:Nat},(heavyL k l).Nodup
 |[],_=>DI
 |o::l,k=>by
  unfold heavyL
  cases zc o with
  |true=>exact yc
  |false=>exact C4.2 ⟨λh=>by have:=(ql.1 h).1;omega,yc⟩
theorem qk{ops:Array Oper}:∀{m:Nat},Ye ops m=true->∀k o,k<m->ops[k]?=some o->yw ops k (tmpsOf o.op.operands.toList) ops.size=true/\(zc o=true->∀j∈heavyL 0 ops.toList,Region.waitsFor .any ops k j=true->∀t,yf ops j=some t->t∉tmpsOf o.op.operands.toList)
 |0,_,k,o,hk,_=>by omega
 |m+1,h,k,o,hk,ho=>by
  unfold Ye at h
  split at h
  ·rename_i o' Z
   cases hs:yw ops m (tmpsOf o'.op.operands.toList) ops.size with
   |false=>rw[hs]at h;cases h
   |true=>
    rw[hs,cond_true]at h
    rcases AR k m with h1|h1
    ·refine qk (m:=m) ?_ k o h1 ho
     revert h
     cases(bif zc o' then(heavyL 0 ops.toList).all λj=>!(Region.waitsFor .any ops m j)||(match yf ops j with
      |some t=>!(memN (tmpsOf o'.op.operands.toList) t)
      |none=>true)else true) <;> intro h <;> first|exact h|cases h
    ·have:k=m:=by omega
     subst this
     have:o'=o:=Aq (Z.symm.trans ho)
     subst this
     refine⟨hs,λhq j hj hw t ht=>?_⟩
     rw[hq,cond_true]at h
     cases hall:(heavyL 0 ops.toList).all λj=>!(Region.waitsFor .any ops k j)||(match yf ops j with
      |some t=>!(memN (tmpsOf o'.op.operands.toList) t)
      |none=>true)with
     |false=>rw[hall]at h;cases h
     |true=>
      have:=AX.1 hall j hj
      rw[hw,ht]at this
      simp only[Bool.not_true,Dx,CZ]at this
      exact wh this
  ·rename_i Z
   rw[cond_true]at h
   rcases AR k m with h1|h1
   ·exact qk h k o h1 ho
   ·have:k=m:=by omega
    subst this
    rw[Z]at ho;cases ho
theorem Z7{ops:Array Oper}:∀{l:List Nat},Yd ops l=true->∀q i j,l[q]?=some i->l[q+1]?=some j->Region.waitsFor .any ops j i=true
 |[],_,q,i,j,h,_=>by simp at h
 |[_],_,q,i,j,_,h=>by simp at h
 |a::b::l,h,q,i,j,h1,h2=>by
  unfold Yd at h
  cases hw:Region.waitsFor .any ops b a with
  |false=>rw[hw]at h;cases h
  |true=>
   rw[hw,cond_true]at h
   cases q with
   |zero=>simp at h1 h2;subst h1;subst h2;exact hw
   |succ q=>exact Z7 h q i j (by simpa using h1) (by simpa using h2)
theorem wj{ops:Array Oper}{i:Nat}:∀{l:List Nat},jg ops i l=true->∃j∈l,Region.waitsFor .any ops j i=true
 |[],h=>by cases h
 |j::l,h=>by
  unfold jg at h
  cases hw:Region.waitsFor .any ops j i with
  |true=>exact⟨j,Aj,hw⟩
  |false=>
   rw[hw,cond_false]at h
   obtain⟨j',h1,h2⟩:=wj h
   exact⟨j',Ae _ h1,h2⟩
theorem Yg{ops:Array Oper}{T:List Nat}:∀{m:Nat},zfr ops T m=false->∀k o,k<m->ops[k]?=some o->zh o=true->jg ops k T=true
 |0,_,k,o,hk,_,_=>by omega
 |m+1,h,k,o,hk,ho,hl=>by
  unfold zfr at h
  cases hb:(match ops[m]? with
   |some o=>bif zh o then !(jg ops m T)else false
   |none=>false)with
  |true=>rw[hb]at h;cases h
  |false=>
   rw[hb,cond_false]at h
   rcases AR k m with h1|h1
   ·exact Yg h k o h1 ho hl
   ·have:k=m:=by omega
    subst this
    rw[ho]at hb
    simp only[hl,cond_true,Bool.not_eq_false']at hb
    exact hb
theorem jo{i p:Nat}(hi:i∈Region.ready .any ops listed)(hw:Region.waitsFor .any ops i p=true):listed.getD p false=true:=by
 obtain⟨oj,ab,e,he,hb,aa⟩:=Region.waitsFor_spec hw
 obtain⟨_,o,ho,Z⟩:=mem_ready.1 hi
 have:oj=o:=Aq (ab.symm.trans ho)
 subst this
 rw[<-aa];exact Z e he hb
theorem qm(inv:HeadInv .any ops n listed){i p:Nat}(hi:listed.getD i false=true)(hw:Region.waitsFor .any ops i p=true):listed.getD p false=true:=by
 obtain⟨oj,aa,e,he,hb,Z⟩:=Region.waitsFor_spec hw
 rw[<-Z];exact inv.closed i oj aa hi e he hb
theorem Z8{p:Nat->Bool}{N:Nat}(h:∃k,k<N/\p k=false):∃k,k<N/\p k=false/\∀j,j<k->p j=true:=by
 obtain⟨k,h1,h2⟩:=h
 induction k using Du with
 |_ k ih=>
  by_cases hm:∃j,j<k/\p j=false
  ·obtain⟨j,h3,h4⟩:=hm
   exact ih j h3 (by omega) h4
  ·exact⟨k,h1,h2,λj hj=>by
    cases hb:p j with
    |true=>rfl
    |false=>exact absurd ⟨j,hj,hb⟩ hm⟩
theorem Wn(h:mixB ops=true):j4 ops.toList=true/\qa ops ops.size=true/\jj ops ops.size=true/\Yd ops (heavyL 0 ops.toList)=true/\Ye ops ops.size=true:=by
 unfold mixB at h
 cases h1:j4 ops.toList <;> cases h2:qa ops ops.size <;> cases h3:jj ops ops.size <;> cases h4:Yd ops (heavyL 0 ops.toList) <;> simp[h1,h2,h3,h4]at h ⊢
 exact h
theorem Zv{l:List Oper}(h:j4 l=true):∀o∈l,o.guard=none/\jb o.op=true:=by
 intro o ho
 have:=AX.1 h o ho
 cases hg:o.guard with
 |none=>rw[hg]at this;exact⟨rfl,this⟩
 |some g=>rw[hg]at this;cases this
theorem wl:∀{l m:List Oper} {k:Nat} {f:Nat->Value} {a:Act},qe k (l++m) f a=qe (k+l.length) m f (qe k l f a)
 |[],m,k,f,a=>rfl
 |o::l,m,k,f,a=>by
  have e:∀l',qe k (o::l') f a=qe (k+1) l' f (bif zc o then a.put o.dst (f k)else a):=λ_=>rfl
  rw[AO,e,e,wl,show k+1+l.length=k+(o::l).length by simp;omega]
theorem toL(ho:ops[i]?=some o):ops.toList[i]?=some o:=by rw[Bw];exact ho
theorem ofL(ho:ops.toList[i]?=some o):ops[i]?=some o:=by rw[Bw]at ho;exact ho
structure StM (P:Program) (n:Nat) (ops:Array Oper) (h0:za) (K:Env->za->Prop) (f:Nat->Value) (a0:Act) (listed:Array Bool) (a b:Act) (e:Env) (h:za) (done todo:List Nat):Prop where
 inv:HeadInv .any ops ops.size listed
 ag:∀s,(∀i o,ops[i]?=some o->zc o=true->listed.getD i false=false->o.dst≠some s)->zl a s=zl b s
 sz:a.tmps.size=n
 ad:a.defers=[]
 sb:Sat n e b
 qv:∀i o t,ops[i]?=some o->zc o=true->o.dst=some t->zl b t=f i/\t<n
 qx:∀i o,ops[i]?=some o->zc o=true->∀h',(zh o=false\/zuw o b.eval h0 h')->QExec P (execOp b.eval o) h' (.value (f i))
 tt:heavyL 0 ops.toList=done.reverse++todo
 ch:∀j,j∈heavyL 0 ops.toList->(listed.getD j false=true↔j∈done)
 wt:wT P n ops h0 K done todo e h
 kp:∀i o,ops[i]?=some o->zh o=true->listed.getD i false=false->zuw o b.eval h0 h
 sm:Same (yn ops.toList) a0 a
theorem xx{o:Oper}:∀{l:List Oper},o∈l->∀i,o.dst=some i->i∈yn l
 |[],h,_,_=>by cases h
 |x::l,h,i,hi=>by
  unfold yn
  rcases Af.1 h with rfl|h
  ·rw[hi];exact Aj
  ·have:=xx h i hi
   split
   ·exact Ae _ this
   ·exact this
theorem zf{k:Nat}(h:ops[k]?=some o):yf ops k=o.dst:=by simp[yf,h]
theorem zpc{h0:za}{K:Env->za->Prop}{Q:Exit->Act->World->Prop}(B:World)(bq:mixB ops=true){f:Nat->Value}{a0:Act}
  (hQ:∀e' a' d' h',Sat n e' a'->Same (yn ops.toList) a0 a'->K e' h'->Q .normal a' (mk B d' h')):
  ∀(N:Nat) (U:List Nat) (listed:Array Bool) (a b:Act) (e:Env) (h:za) (d:Nat) (done todo:List Nat),U.length=N->U.Nodup->(∀k,k∈U↔k<ops.size/\listed.getD k false=false) ->
   StM P n ops h0 K f a0 listed a b e h done todo->wpAny P .any ops Q N listed a (mk B d h):=by
 obtain⟨bJ,aY,bF,aC,an⟩:=Wn bq
 have ba:∀(i:Nat) (o:Oper),ops[i]?=some o->o.guard=none/\jb o.op=true:=λi o ho=>Zv bJ o (by
  obtain⟨ab,e⟩:=Ac.1 ho
  rw[<-e];simp)
 have bE:∀{listed:Array Bool} {a b:Act} {e:Env} {h:za} {d:Nat} {done todo:List Nat},(∀k,k<ops.size->listed.getD k false=true)->StM P n ops h0 K f a0 listed a b e h done todo->Q .normal a (mk B d h):=by
  intro listed a b e h d done todo ae S
  have ak:todo=[]:=by
   cases todo with
   |nil=>rfl
   |cons j l=>
    have hj:j∈heavyL 0 ops.toList:=by rw[S.tt];simp
    have ab:j<ops.size:=by
     obtain⟨_,o,ho,_⟩:=ql.1 hj
     have:=(Av.1 ho).1
     simpa using this
    have hd:=(S.ch j hj).1 (ae j ab)
    have hn:=yc (l:=ops.toList) (k:=0)
    rw[S.tt,Bl]at hn
    exact absurd rfl (hn.2.2 j (by simpa using hd) j (by simp))
  have hw:=S.wt
  rw[ak]at hw
  unfold wT at hw
  have hv:∀s,zl a s=zl b s:=λs=>S.ag s λi o ho hq hl=>by
   rw[ae i (Ac.1 ho).1]at hl;cases hl
  have hs:Sat n e a:=⟨S.ad,S.sz,λx hx=>by
   have:=S.sb.all x hx
   have e1:zl a=zl b:=funext hv
   rw[e1];exact this⟩
  exact hQ _ _ _ _ hs.clean S.sm hw
 intro N
 induction N with
 |zero=>
  intro U listed a b e h d done todo hU _ ah S
  have bu:U=[]:=A8.1 hU
  subst bu
  have ae:∀k,k<ops.size->listed.getD k false=true:=λk hk=>by
   cases hb:listed.getD k false with
   |true=>rfl
   |false=>exact absurd ((ah k).2 ⟨hk,hb⟩) (by simp)
  refine⟨?_,bE ae S⟩
  rw[CL]
  intro j hj
  obtain⟨h1,o,ho,_⟩:=mem_ready.1 hj
  have ab:=(Ac.1 ho).1
  have:=ae j ab
  have h2:=getD_both h1
  rw[this]at h2;cases h2
 |succ N ih=>
  intro U listed a b e h d done todo hU aI ah S
  have bB:∃k,k<ops.size/\listed.getD k false=false:=by
   cases U with
   |nil=>cases hU
   |cons k U=>exact⟨k,(ah k).1 Aj⟩
  refine⟨λhr=>?_,λi hi=>?_⟩
  ·exfalso
   obtain⟨k,aB,aO,bI⟩:=Z8 bB
   have:k∈Region.ready .any ops listed:=mem_ready.2 ⟨by rw[<-aO];simp[S.inv.size,aB],ops[k],AI aB,λx hx hb=>bI _ (zr aY k ops[k] aB (AI aB) x hx hb)⟩
   rw[hr]at this;cases this
  ·obtain⟨bi,o,ho,ae⟩:=mem_ready.1 hi
   have aG:listed.getD i false=false:=getD_both bi
   have ab:i<ops.size:=(Ac.1 ho).1
   obtain⟨hg,bA⟩:=ba i o ho
   have aL:i<listed.size:=by rw[S.inv.size];exact ab
   have be:(U.erase i).length=N:=by rw[CP ((ah i).2 ⟨ab,aG⟩),hU];rfl
   have ar:(U.erase i).Nodup:=aI.erase i
   have au:∀k,k∈U.erase i↔k<ops.size/\(listed.setIfInBounds i true).getD k false=false:=λk=>by
    rw[aI.mem_erase_iff,ah k]
    by_cases hk:i=k
    ·subst hk;simp[aL]
    ·rw[getD_set_ne false hk];exact⟨λhx=>hx.2,λhx=>⟨λe=>hk e.symm,hx⟩⟩
   have am:=S.inv.set hi ab
   have aj:∀k,k≠i->(listed.setIfInBounds i true).getD k false=listed.getD k false:=λk hk=>getD_set_ne false (Ne.symm hk)
   have af:(listed.setIfInBounds i true).getD i false=true:=by simp[aL]
   obtain⟨aF,bQ⟩:=qk an i o ab ho
   have bo:∀t∈tmpsOf o.op.operands.toList,zl a t=zl b t:=λt ht=>S.ag t λk ok Z hq hl hd=>by
    have hw:=zx aF k t (Ac.1 Z).1 (by rw[zf Z,hd]) ht
    rw[jo hi hw]at hl;cases hl
   have aN:=yh bA bo
   unfold wpOp
   rw[ho]
   simp only
   have aT:Bo o (yielded ops a.tmps)=true:=by unfold Bo;rw[hg]
   rw[if_pos aT]
   left
   unfold Oper.wp
   rw[aN]
   cases hq:zc o with
   |true=>
    have hx:=S.qx i o ho hq h (by
     cases hl:zh o with
     |false=>exact .inl rfl
     |true=>exact .inr (S.kp i o ho hl aG)) B d
    rw[hx,Oper.upon_value]
    have bn:i∉heavyL 0 ops.toList:=λhm=>by
     obtain⟨_,o',a1,bg⟩:=ql.1 hm
     rw[Dn]at a1
     have:o'=o:=by
      have h2:ops[i]?=some o':=ofL a1
      exact Aq (h2.symm.trans ho)
     subst this;rw[hq]at bg;cases bg
    refine ih _ _ _ b e h d done todo be ar au { S with inv:=am,ag:=λs hs=>?_,sz:=by rw[size_put];exact S.sz,ad:=by rw[zu];exact S.ad,ch:=λj hj=>?_,kp:=λk ok Z hl hk=>?_,sm:=S.sm.trans (Same.put a o.dst _ λt ht=>xx (by
     obtain⟨bG,e2⟩:=Ac.1 ho
     rw[<-e2];simp) t ht) }
    ·by_cases hd:o.dst=some s
     ·obtain⟨hv,aA⟩:=S.qv i o s ho hq hd
      rw[hd,qh (by rw[S.sz];exact aA),hv]
     ·rw[zi hd]
      refine S.ag s λk ok Z aa aV=>?_
      by_cases ai:k=i
      ·subst ai
       have:ok=o:=Aq (Z.symm.trans ho)
       subst this;exact hd
      ·exact hs k ok Z aa (by rw[aj k ai];exact aV)
    ·have:j≠i:=λe=>bn (e ▸ hj)
     rw[aj j this];exact S.ch j hj
    ·by_cases ai:k=i
     ·subst ai;rw[af]at hk;cases hk
     ·rw[aj k ai]at hk;exact S.kp k ok Z hl hk
   |false=>
    have aU:i∈heavyL 0 ops.toList:=ql.2 ⟨CV _,o,by rw[Dn];exact toL ho,hq⟩
    have aJ:=yc (l:=ops.toList) (k:=0)
    have ax:i∉done:=λhd=>by rw[(S.ch i aU).2 hd]at aG;cases aG
    have ak:∃rest,todo=i::rest:=by
     have bj:i∈todo:=by
      have:=aU
      rw[S.tt,As]at this
      rcases this with h1|h1
      ·exact absurd (by simpa using h1) ax
      ·exact h1
     cases todo with
     |nil=>cases bj
     |cons j rest=>
      rcases Af.1 bj with rfl|hr
      ·exact⟨rest,rfl⟩
      ·exfalso
       obtain⟨m,hm,em⟩:=BD hr
       have hp:∃pr,(j::rest)[m]?=some pr:=⟨_,Ai (by simp;omega)⟩
       obtain⟨pr,bh⟩:=hp
       have hw:=Z7 aC (done.reverse.length+m) pr i (by rw[S.tt,A5 (by omega),C3];exact bh) (by
        rw[S.tt,A5 (by omega),show done.reverse.length+m+1-done.reverse.length=m+1 by omega,List.getElem?_cons_succ,Ai hm,em])
       have aH:pr∈j::rest:=Bh bh
       have a7:pr∈heavyL 0 ops.toList:=by rw[S.tt];exact Au _ aH
       have hd:=(S.ch pr a7).1 (jo hi hw)
       rw[S.tt,Bl]at aJ
       exact aJ.2.2 pr (by simpa using hd) pr aH rfl
    obtain⟨rest,rfl⟩:=ak
    have hW:=S.wt
    unfold wT at hW
    rw[ho]at hW
    simp only at hW
    cases hd:qi n [] o.dst with
    |false=>rw[hd]at hW;exact hW.elim
    |true=>
     rw[hd,cond_true]at hW
     refine Yf (b:=b) S.sb.defers ?_
     refine zfp hW S.sb (qf _) B d λv d' h' hK=>⟨by rw[zu];exact S.sb.defers,λv2 bH=>?_⟩
     have br:b.put o.dst v2=b.put o.dst v:=bH.symm
     have az:∀j,j∈heavyL 0 ops.toList->((listed.setIfInBounds i true).getD j false=true↔j∈i::done):=λj hj=>by
      by_cases aP:j=i
      ·subst aP;rw[af];simp
      ·rw[aj j aP,S.ch j hj];simp[aP]
     have aS:zfr ops (i::done) ops.size=false->∀k ok,ops[k]?=some ok->zh ok=true->(listed.setIfInBounds i true).getD k false=true:=λhl k ok Z ap=>by
      obtain⟨j,hj,hw⟩:=wj (Yg hl k ok (Ac.1 Z).1 Z ap)
      have aZ:(listed.setIfInBounds i true).getD j false=true:=by
       rcases Af.1 hj with rfl|hj
       ·exact af
       ·exact getD_set_true ((S.ch j (by rw[S.tt];simp[hj])).2 hj)
      exact qm am aZ hw
     have a6:wT P n ops h0 K (i::done) rest (putO e o.dst [] v) h'/\(∀k ok,ops[k]?=some ok->zh ok=true->(listed.setIfInBounds i true).getD k false=false->zuw ok (b.put o.dst v).eval h0 h'):=by
      cases hl:zfr ops (i::done) ops.size with
      |true=>
       rw[hl,cond_true]at hK
       refine⟨hK.2,λk ok Z ap hf=>?_⟩
       have bD:jg ops k (i::done)=false:=by
        cases ha:jg ops k (i::done)with
        |false=>rfl
        |true=>
         exfalso
         obtain⟨j,hj,hw⟩:=wj ha
         have aZ:(listed.setIfInBounds i true).getD j false=true:=by
          rcases Af.1 hj with rfl|hj
          ·exact af
          ·exact getD_set_true ((S.ch j (by rw[S.tt];simp[hj])).2 hj)
         rw[qm am aZ hw]at hf;cases hf
       obtain⟨t,x,c,bM,hc,hb⟩:=zjw hK.1 k ok (Ac.1 Z).1 Z ap bD
       unfold zuw
       rw[bM]
       intro c' a8
       have:=qy (S.sb.putO hd (λ_=>rfl) λhv=>absurd (qf _) hv) (c:=[]) (qf _) hc
       rw[this]at a8
       cases a8;exact hb
      |false=>rw[hl,cond_false]at hK;exact⟨hK,λk ok Z ap hf=>by rw[aS hl k ok Z ap]at hf;cases hf⟩
     have aM:∀k ok t,ops[k]?=some ok->zc ok=true->ok.dst=some t->o.dst≠some t:=λk ok t Z aa aE ay=>by
      have:=qj bF k i t (Ac.1 Z).1 ab (by rw[zf Z,aE]) (by rw[zf ho,ay])
      subst this
      have:ok=o:=Aq (Z.symm.trans ho)
      subst this;rw[hq]at aa;cases aa
     refine ih _ _ _ (b.put o.dst v) (putO e o.dst [] v) h' d' (i::done) rest be ar au ⟨am,λs hs=>?_,by rw[size_put];exact S.sz,by rw[zu];exact S.ad,S.sb.putO hd (λ_=>rfl) λhv=>absurd (qf _) hv,λk ok t Z aa aE=>?_,λk ok Z aa bL hh=>?_,by rw[S.tt];simp,az,a6.1,a6.2,S.sm.trans (Same.put a o.dst _ λt ht=>xx (by
      obtain⟨bG,e2⟩:=Ac.1 ho
      rw[<-e2];simp) t ht)⟩
     ·have bP:∀u,(∀k ok,ops[k]?=some ok->zc ok=true->listed.getD k false=false->ok.dst≠some s)->o.dst≠some s->zl (a.put o.dst u) s=zl (b.put o.dst v) s:=λu h1 h2=>by
       rw[zi h2,zi h2];exact S.ag s h1
      have bO:∀k ok,ops[k]?=some ok->zc ok=true->listed.getD k false=false->ok.dst≠some s:=λk ok Z aa aV=>by
       by_cases ai:k=i
       ·subst ai
        have:ok=o:=Aq (Z.symm.trans ho)
        subst this;rw[hq]at aa;cases aa
       ·exact hs k ok Z aa (by rw[aj k ai];exact aV)
      by_cases aQ:o.dst=some s
      ·rw[<-br,aQ]
       have aA:s<n:=by
        rw[aQ]at hd
        unfold qi at hd
        simp at hd;exact hd.2
       rw[qh (by rw[S.sz];exact aA),qh (by rw[S.sb.size];exact aA)]
      ·exact bP v2 bO aQ
     ·have:=S.qv k ok t Z aa aE
      rw[zi (aM k ok t Z aa aE)];exact this
     ·have aO:=ba k ok Z
      have bm:∀t∈tmpsOf ok.op.operands.toList,zl (b.put o.dst v) t=zl b t:=λt ht=>by
       refine zi λay=>?_
       obtain⟨bC,bz⟩:=qk an k ok (Ac.1 Z).1 Z
       have hw:=zx bC i t ab (by rw[zf ho,ay]) ht
       exact bz aa i aU hw t (by rw[zf ho,ay]) ht
      rw[yh (b:=b) aO.2 bm]
      exact S.qx k ok Z aa bL (hh.imp id λr=>zdz (yg bm) r)
theorem mix_sound{K:Env->za->Prop}{Q:Exit->Act->World->Prop}(B:World)(ae:mixB ops=true){e:Env}
  (H:wU P n h (λe'=>wT P n ops h K [] (heavyL 0 ops.toList) e' h) ops.toList e) (hs:Sat n e a)
  (hQ:∀e' a' d' h',Sat n e' a'->Same (yn ops.toList) a a'->K e' h'->Q .normal a' (mk B d' h')) (d:Nat):wpAny P .any ops Q ops.size (Ba ops.size false) a (mk B d h):=by
 obtain⟨aF,ai,ay,ar,ah⟩:=Wn ae
 obtain⟨f,e1,HT,am,hf⟩:=Qv (k:=0) H hs
 have hl:∀(i:Nat) (o:Oper),ops[i]?=some o->ops.toList[i]?=some o:=λi o ho=>toL ho
 have Z:∀i,qe 0 ops.toList f a=qe (0+(ops.toList.take i).length) (ops.toList.drop i) f (qe 0 (ops.toList.take i) f a):=λi=>by
  rw[<-wl,Cf]
 refine zpc B ae (f:=f) hQ ops.size (Bv ops.size) _ a (qe 0 ops.toList f a) e1 h d [] (heavyL 0 ops.toList) DC Dh (λk=>by rw[BL,getD_replicate_false];simp) ⟨⟨by simp,λj oj _ hl=>(by rw[getD_replicate_false]at hl;cases hl),λt ht aE=>by omega⟩,λs ax=>?_,hs.size,hs.defers,am,λi o t ho hq hd=>?_,λi o ho hq h' hh=>?_,by simp,λj hj=>by rw[getD_replicate_false];simp,HT,λ_ _ _ _ _=>zzc _ _ _,Same.refl _ _⟩
 ·refine(qz λo ho hq=>?_).symm
  obtain⟨i,hi,e⟩:=BD ho
  exact ax i o (ofL (by rw[Ai hi,e])) hq (getD_replicate_false _ _)
 ·obtain⟨h1,h2,h3⟩:=hf i o (hl i o ho) hq
  have ap:t<n:=by
   rw[hd]at h2
   unfold qi at h2
   simp at h2;exact h2.2
  refine⟨?_,ap⟩
  have ab:=(Ac.1 ho).1
  have an:(ops.toList.take i).length=i:=by simp;omega
  rw[Z i,an,Ay]
  have aA:ops.toList.drop i=o::ops.toList.drop (i+1):=by
   have:=(Av.1 (hl i o ho))
   rw[AF this.1,this.2]
  rw[aA]
  unfold qe
  rw[hq,cond_true,qz λo' af aB aj=>?_]
  ·rw[hd,qh (by rw[Z1.1,hs.size];exact ap)]
  ·obtain⟨m,hm,em⟩:=BD af
   have aa:ops[i+1+m]?=some o':=by
    have:ops.toList[i+1+m]?=some o':=by rw[<-AE,Ai hm,em]
    exact ofL this
   have:=qj ay i (i+1+m) t ab (Ac.1 aa).1 (by rw[zf ho,hd]) (by rw[zf aa,aj])
   omega
 ·obtain⟨h1,h2,h3⟩:=hf i o (hl i o ho) hq
  have ak:∀t∈tmpsOf o.op.operands.toList,zl (qe 0 ops.toList f a) t=zl (qe 0 (ops.toList.take i) f a) t:=λt ht=>by
   have ab:=(Ac.1 ho).1
   rw[Z i]
   refine qz λo' af aB aj=>?_
   obtain⟨m,hm,em⟩:=BD af
   have aa:ops[i+m]?=some o':=by
    have:ops.toList[i+m]?=some o':=by rw[<-AE,Ai hm,em]
    exact ofL this
   obtain⟨au,_⟩:=qk ah i o ab ho
   have hw:=zx au (i+m) t (Ac.1 aa).1 (by rw[zf aa,aj]) ht
   obtain⟨oj,az,x,hx,hb,aC⟩:=Region.waitsFor_spec hw
   have:=zr ai i oj ab az x hx hb
   omega
  have:=h3 h' (hh.imp id λr=>zdz (yg ak) r)
  rw[Ay]at this
  rw[yh h1 ak]
  exact this
end
end Go.X.U
end
section
namespace Go.X
section
variable {P:Program} {n id m i i5:Nat} {ops:Array Oper} {e:Env} {h:za} {a:Act} {ro:Option Nat} {t:Array Value} {v:Value}
def Zf:Code->Nat->Array Oper
 |.region id ops _,i=>bif Nat.beq id i then ops else #[]
 |.seq x y,i=>bif Nat.beq (Zf x i).size 0 then Zf y i else Zf x i
 |.cond _ x y,i=>bif Nat.beq (Zf x i).size 0 then Zf y i else Zf x i
 |.block _ x,i=>Zf x i
 |.loop x,i=>Zf x i
 |.rangeFunc _ _ x y,i=>bif Nat.beq (Zf x i).size 0 then Zf y i else Zf x i
 |_,_=>#[]
def zhd(P:Program)(n:Nat)(ro:Nat->Array Oper):List Nat->(Env->za->Prop)->Env->za->Prop
 |[],K,e,h=>K e h
 |i::l,K,e,h=>wR P n (ro i) (λe' h'=>zhd P n ro l K e' h') (ro i).toList e h
def slotsOf(e:Env):List Nat->Option (List Value)
 |[]=>some []
 |i::l=>match zc1 e i,slotsOf e l with
  |some v,some vs=>some (v::vs)
  |_,_=>none
def qcc(l:List Nat)(R:List Value->za->Prop)(e:Env)(h:za):Prop:=match slotsOf e l with
 |some vs=>R vs h
 |none=>False
def z8e(P:Program)(n:Nat)(ops:Array Oper)(K:Env->za->Prop)(e:Env)(h:za):Prop:=
 bif U.mixB ops then U.wU P n h (λe'=>U.wT P n ops h K [] (U.heavyL 0 ops.toList) e' h) ops.toList e else False
def zot(P:Program)(n:Nat)(ro:Nat->Array Oper)(ids:List Nat)(b:Nat)(C:za->Prop)(g:za->za)(R:za->Prop)(e:Env)(h:za):Prop:=
 zhd P n ro ids (λe1 h1=>C h1/\z8e P n (ro b) (λ_ h2=>R h2) e1 (g h1)) e h
theorem zsz{K:Env->za->Prop}(H:z8e P n ops K e h)(B:World)(hs:Sat n e a){R:Act->World->Prop}
  (hQ:∀e' a' d' h',Sat n e' a'->K e' h'->R a' (mk B d' h')) (d:Nat):wpAny P .any ops (zco R) ops.size (Ba ops.size false) a (mk B d h):=by
 unfold z8e at H
 cases hB:U.mixB ops with
 |false=>rw[hB]at H;exact H.elim
 |true=>
  rw[hB]at H
  exact U.mix_sound B hB H hs (λe' a' d' h' q1 q2 q3=>hQ e' a' d' h' q1 q3) d
theorem zzd{K:Env->za->Prop}(H:wR P n ops K ops.toList e h)(B:World)(d:Nat)(hs:Sat n e a){Q:Exit->Act->World->Prop}
  (hQ:∀e' a' d' h',Sat n e' a'->K e' h'->Q .normal a' (mk B d' h')):(CW id ops false).wp P Q a (mk B d h):=
 wp_region_list (Qu B _ _ _ _ _ H hs λe' a' d' h' q1 q2 q3=>hQ e' a' d' h' q1 q3)
theorem z4c(hd:ops.toList.all yb=true){K:Env->za->Prop}(H:wR P n ops K ops.toList e h)(B:World)(d:Nat)(hs:Sat n e a){Q:Exit->Act->World->Prop}
  (hQ:∀e' a' d' h',Sat n e' a'->K e' h'->Q .normal a' (mk B d' h')):(CW id ops false).wpIn (rf ro) m P Q a (mk B d h):=by
 refine wpIn_region_list ?_
 rw[<-AW ops.toList]
 exact zdw (K:=λa' w'=>Q .normal a' w') ops.toList [] _ _ hd (Qu B _ _ _ _ _ H hs λe' a' d' h' q1 q2 q3=>hQ e' a' d' h' q1 q3) λa w h=>h
theorem z8f(hm:P.follows .mixedOrders=true)(hd:ops.toList.all yb=true){K:Env->za->Prop}(H:z8e P n ops K e h)(B:World)(d:Nat)(hs:Sat n e a){Q:Exit->Act->World->Prop}
  (hQ:∀e' a' d' h',Sat n e' a'->K e' h'->Q .normal a' (mk B d' h')):(CW id ops true).wpIn (rf ro) m P Q a (mk B d h):=by
 have h1:(CW id ops true).wpIn (rf ro) m P (zco λa' w'=>Q .normal a' w') a (mk B d h):=by
  refine wpIn_region_any hm (zof (λi o ho=>?_) _ _ _ _ (zsz H B hs hQ (d+1)))
  rw[AX]at hd
  obtain⟨Z,e⟩:=Ac.1 ho
  exact hd o (by rw[<-e];simp)
 exact wpIn_mono h1 λx a' w' hx=>by
  cases x with
  |normal=>exact hx
  |_=>exact hx.elim
theorem z2i(hm:P.follows .mixedOrders=true){K:Env->za->Prop}(H:z8e P n ops K e h)(B:World)(d:Nat)(hs:Sat n e a)(D:List Deferred){Q:Exit->Act->World->Prop}
  (hQ:∀e' a' d' h',Sat n e' a'->K e' h'->Q .normal (Q4 D a') (mk B d' h')):(CW id ops true).wp P Q (Q4 D a) (mk B d h):=by
 have h1:=wp_region_any (id:=id) (w:=mk B d h) (a:=Q4 D a) hm (zg8 (D:=D) _ _ _ _ (zsz (R:=λa' w'=>∃e' d' h',w'=mk B d' h'/\Sat n e' a'/\K e' h') H B hs (λe' a' d' h' q1 q2=>⟨e',d',h',rfl,q1,q2⟩) (d+1)))
 exact wp_mono h1 λx a' w' hx=>by
  cases x with
  |normal=>obtain⟨a0,rfl,e',d',h',rfl,q1,q2⟩:=hx;exact hQ e' a0 d' h' q1 q2
  |_=>exact hx.elim
theorem zou(hd:a.defers=[])(hz:a.tmps.size=n)(hf:∀x∈e,x.2.1=[]/\zl a x.1=x.2.2):Sat n e a:=
 ⟨hd,hz,λx hx=>by
  obtain⟨h1,h2⟩:=hf x hx
  unfold fact
  rw[h1]
  exact⟨λ_=>h2,λhn=>absurd trivial hn⟩⟩
theorem zl1{i j:Nat}{D:List Deferred}(h:j≠i):zl { tmps:=t.setIfInBounds i v,defers:=D } j=zl { tmps:=t,defers:=D } j:=by
 unfold zl
 simp only[A7]
 rw[AN (Ne.symm h)]
theorem zcr{D:List Deferred}(h:i<t.size):zl { tmps:=t.setIfInBounds i v,defers:=D } i=v:=by
 unfold zl
 simp only[A7]
 rw[Cj h];rfl
abbrev Rec:=LoopState->Option Code->Loop
theorem qdv(hm:P.follows .mixedOrders=true){n l p1 p2:Nat}{ro:Nat->Array Oper}{i3 i4 i5 b1:Nat}{fn:FuncId}{tmps:Array Value}{D:Nat}(an:p1≠p2)(ar:p1<n)(ap:p2<n)(hz:tmps.size=n)
  (am:(ro i3).toList.all yb=true) (ah:(ro i4).toList.all yb=true) (ak:(ro i5).toList.all yb=true)
  {rec:Rec} (Z:rec=λst pe=>{ state:=st,pending:=pe,fn:=fn,tmps:=tmps,params:=#[p1,p2],assign:=.seq (.region i3 (ro i3) false) (.region i4 (ro i4) false),body:=.block b1 (.region i5 (ro i5) true),defers:=D })
  {v1 v2:Value} (he:∀x∈e,x.2.1=[]/\x.1≠p1/\x.1≠p2/\tmps.getD x.1 undef=x.2.2) (hl:h[l]?=some (.loop (rec .ready none))) {K:Value->za->Prop}
  (H:zot P n ro [i3,i4] i5 (λh1=>h1[l]?=some (.loop (rec .ready none))) (λh1=>h1.setIfInBounds l (.loop (rec .busy none)))
   (λh2=>h2[l]?=some (.loop (rec .busy none))/\K (.bool true) (h2.setIfInBounds l (.loop (rec .ready none)))) ((p1,[],v1)::(p2,[],v2)::e) h):YX P l #[v1,v2] h K:=by
 intro m B d
 have ae:(mk B d h).heap[l]?=some (.loop (rec .ready none)):=hl
 have hy:=run_yield (P:=P) (w:=mk B d h) (args:=#[v1,v2]) ae (by rw[Z];rfl)
 refine⟨_,_,_,_,hy,?_⟩
 rw[Z]at hy ⊢
 have key:RoundIn (rf none) m P l fn ((tmps.setIfInBounds p1 v1).setIfInBounds p2 v2) (.seq (.region i3 (ro i3) false) (.region i4 (ro i4) false)) (.block b1 (.region i5 (ro i5) true)) (mk B d h) (λe w'=>∃v d' h',e=.returned v/\w'=mk B d' h'/\K v h'):=by
  refine roundIn_of_wpIn (F:=rf none) trivial ?_
  have hF:(rf none).inRound l=rf (some l):=rfl
  rw[hF]
  have hs:Sat n ((p1,[],v1)::(p2,[],v2)::e) { tmps:=(tmps.setIfInBounds p1 v1).setIfInBounds p2 v2,defers:=[] }:=by
   refine zou rfl (by simp[hz]) ?_
   intro x hx
   rcases Af.1 hx with rfl|hx
   ·exact⟨rfl,by rw[zl1 an];exact zcr (by omega)⟩
   ·rcases Af.1 hx with rfl|hx
    ·exact⟨rfl,zcr (by simp;omega)⟩
    ·obtain⟨q1,q2,q3,q4⟩:=he x hx
     exact⟨q1,by rw[zl1 q3,zl1 q2];exact q4⟩
  unfold zot zhd zhd zhd at H
  refine wpIn_seq (z4c am H B d hs λe1 a1 d1 h1 s1 k1=>?_)
  show(CW i4 (ro i4) false).wpIn (rf (some l)) m P _ a1 (mk B d1 h1)
  refine z4c ah k1 B d1 s1 λe2 a2 d2 h2 s2 k2=>?_
  obtain⟨k3,k4⟩:=k2
  have ai:(mk B d2 h2).heap[l]?=some (.loop (rec .ready none)):=k3
  have hb:=run_beginRound (P:=P) ai (by rw[Z])
  refine⟨_,hb,?_⟩
  have aa:({ rec .ready none with state:=.busy }:Loop)=rec .busy none:=by rw[Z]
  rw[aa]
  show(Code.block b1 (.region i5 (ro i5) true)).wpIn (rf (some l)) m P _ a2 (mk B d2 (h2.setIfInBounds l (.loop (rec .busy none))))
  refine wpIn_block (z8f hm ak k4 B d2 s2 λe3 a3 d3 h3 s3 k5=>?_)
  obtain⟨k6,k7⟩:=k5
  have aj:(mk B d3 h3).heap[l]?=some (.loop (rec .busy none)):=k6
  have ab:=run_endRound (P:=P) none aj
  simp only[Exit.inBlock]
  refine⟨_,_,ab,.bool true,d3,h3.setIfInBounds l (.loop (rec .ready none)),rfl,?_,k7⟩
  have af:({ rec .busy none with state:=if(none:Option Code).isNone then .ready else .done,pending:=none }:Loop)=rec .ready none:=by rw[Z];rfl
  rw[af];rfl
 show RoundIn (rf none) m P l fn (Array.foldl (λ(t:Array Value) (x:Tmp×Value)=>t.setIfInBounds x.1 x.2) tmps (#[p1,p2].zip #[v1,v2])) _ _ _ _
 have zs:Array.foldl (λ(t:Array Value) (x:Tmp×Value)=>t.setIfInBounds x.1 x.2) tmps (#[p1,p2].zip #[v1,v2])=(tmps.setIfInBounds p1 v1).setIfInBounds p2 v2:=by simp
 rw[zs]
 exact key
theorem qbo{i1 i2 i5 i7 aa:Nat}{R:List Value->za->Prop}(H:qcc [i1,i2,i5,i7,aa] R e h):∃v1 v2 v5 v7 Z,zc1 e i1=some v1/\zc1 e i2=some v2/\zc1 e i5=some v5/\zc1 e i7=some v7/\zc1 e aa=some Z/\R [v1,v2,v5,v7,Z] h:=by
 unfold qcc at H
 split at H
 ·rename_i vs hv
  simp only[slotsOf]at hv
  split at hv
  ·rename_i v1 aj h1 r1
   split at r1
   ·rename_i v2 ak h2 r2
    split at r2
    ·rename_i v5 ai h5 r5
     split at r5
     ·rename_i v7 ah h7 r7
      split at r7
      ·rename_i Z af ae ab
       cases ab;cases r7;cases r5;cases r2;cases r1;cases hv
       exact⟨v1,v2,v5,v7,Z,h1,h2,h5,h7,ae,H⟩
      ·cases r7
     ·cases r5
    ·cases r2
   ·cases r1
  ·cases hv
 ·exact H.elim
def z8g(P:Program)(n:Nat)(ro:Nat->Array Oper)(i6:Nat)(rs:List ResultVar)(D:Nat)(R:Value->za->Prop)(e:Env)(h:za):Prop:=
 z8e P n (ro i6) (λe h1=>h1[D]?=some (.deferred (some []))/\ztg P (h1.setIfInBounds D (.deferred none)) e rs λvs=>R (zc3 vs) (h1.setIfInBounds D (.deferred none))) e h
theorem z2j(hm:P.follows .mixedOrders=true){f:FuncId}{fn:Func}{ro:Nat->Array Oper}{rs:List ResultVar}(hf:P.funcs[f]?=some fn)
  (hb:fn.body=some (.seq (.region 0 (ro 0) false) (.seq (.region 1 (ro 1) false) (.seq (.seq (.region 2 (ro 2) false) (.block 0 (.rangeFunc (.tmp 12) #[13,14] (.seq (.region 3 (ro 3) false) (.region 4 (ro 4) false)) (.block 1 (.region 5 (ro 5) true))))) (.seq (.region 6 (ro 6) true) .ret)))))
  (aF:(ro 3).toList.all yb=true) (aA:(ro 4).toList.all yb=true) (aE:(ro 5).toList.all yb=true) (hr:fn.results.toList=rs) (hn:fn.ntmps=n) (aH:15<=n) (vs:List Value) (hz:Nat.ble vs.length n=true) {R:Value->za->Prop}
  (H:zhd P n ro [0,1,2] (qcc [1,2,5,7,12] λl h1=>∃v1 v2 v5 v7 g lb,l=[v1,v2,v5,v7,.func (.func g) #[] lb]/\zp P g=true /\
   ∀rec:Rec,(∀{ab aa:Value} {h2:za} {K:Value->za->Prop},h2[h1.size+1]?=some (.loop (rec .ready none)) ->
     zot P n ro [3,4] 5 (λh3=>h3[h1.size+1]?=some (.loop (rec .ready none))) (λh3=>h3.setIfInBounds (h1.size+1) (.loop (rec .busy none)))
      (λh4=>h4[h1.size+1]?=some (.loop (rec .busy none))/\K (.bool true) (h4.setIfInBounds (h1.size+1) (.loop (rec .ready none)))) [(13,[],ab),(14,[],aa),(2,[],v2),(7,[],v7)] h2->YX P (h1.size+1) #[ab,aa] h2 K) ->
    XCI P g (#[.func (.yield (h1.size+1)) #[] #[]]++lb) ((h1.push (.deferred (some []))).push (.loop (rec .ready none))) λ_ h5=>h5[h1.size+1]?=some (.loop (rec .ready none)) /\
     z8g P n ro 6 rs h1.size R [(1,[],v1),(2,[],v2),(5,[],v5),(7,[],v7)] (h5.setIfInBounds (h1.size+1) (.loop (rec .exhausted none)))) (ztf 0 vs) h):XC P f vs.toArray h R:=by
 intro B d
 refine callsIn_wide.1 (callsIn_of_wp_marks (F:=Fence.wide) (n:=1) hf hb trivial ?_ rfl)
 subst hn
 have aJ:vs.length<=fn.ntmps:=BG hz
 have hs:Sat fn.ntmps (ztf 0 vs) { tmps:=vs.toArray++Ba (fn.ntmps-vs.toArray.size) undef,defers:=[] }:=by
  refine⟨rfl,by simp;omega,?_⟩
  refine Yh vs.toArray _ vs 0 λj v hj=>?_
  have ak:j<vs.length:=by
   rcases AR j vs.length with h|h
   ·exact h
   ·rw[BH h]at hj;cases hj
  simp only[Ay,A7]
  rw[Ck (by simpa using ak)]
  simp[hj]
 unfold zhd zhd zhd zhd at H
 refine wpIn_seq (wpIn_wide.2 (zzd H B d hs λe1 a1 d1 h1 s1 k1=>?_))
 show Code.wpIn Fence.wide 1 P _ _ a1 (mk B d1 h1)
 refine wpIn_seq (wpIn_wide.2 (zzd k1 B d1 s1 λe2 a2 d2 h2 s2 k2=>?_))
 show Code.wpIn Fence.wide 1 P _ _ a2 (mk B d2 h2)
 refine wpIn_seq (wpIn_seq (wpIn_wide.2 (zzd k2 B d2 s2 λe3 a3 d3 h3 s3 k3=>?_)))
 show Code.wpIn Fence.wide 1 P _ _ a3 (mk B d3 h3)
 obtain⟨u1,u2,u5,u7,aI,q1,q2,q5,q7,ay,v1,v2,v5,v7,g,lb,hl,hg,HR⟩:=qbo k3
 simp only[Bu,and_true]at hl
 obtain⟨rfl,rfl,rfl,rfl,rfl⟩:=hl
 have w1:=y7 s3 q1
 have w2:=y7 s3 q2
 have w5:=y7 s3 q5
 have w7:=y7 s3 q7
 have ar:=y7 s3 ay
 refine wpIn_block (wpIn_rangeFunc λaG _=>?_)
 obtain⟨rec,Z⟩:∃rec:Rec,rec=λst pe=>{ state:=st,pending:=pe,fn:=aG,tmps:=a3.tmps,params:=#[13,14],assign:=.seq (.region 3 (ro 3) false) (.region 4 (ro 4) false),body:=.block 1 (.region 5 (ro 5) true),defers:=h3.size }:=⟨_,rfl⟩
 have aB:=HR rec (λ {ab aa h2 K} hl ax=>qdv hm (by decide) (by omega) (by omega) s3.size aF aA aE Z (λx hx=>by
  rcases Af.1 hx with rfl|hx
  ·exact⟨rfl,(by show(2:Nat)≠13;decide),(by show(2:Nat)≠14;decide),w2⟩
  ·rw[Bf]at hx;subst hx;exact⟨rfl,(by show(7:Nat)≠13;decide),(by show(7:Nat)≠14;decide),w7⟩) hl ax)
 have ah:a3.eval (.tmp 12)=.func (.func g) #[] lb:=ar
 refine⟨h3.size+1,[{ target:=.collected h3.size,args:=#[] }],mk B d3 ((h3.push (.deferred (some []))).push (.loop (rec .ready none))),{ target:=.fn (.func g) lb,args:=#[.func (.yield (h3.size+1)) #[] #[]] },mk B d3 ((h3.push (.deferred (some []))).push (.loop (rec .ready none))),g,
  #[.func (.yield (h3.size+1)) #[] #[]]++lb,mk B d3 ((h3.push (.deferred (some []))).push (.loop (rec .ready none))),?_,?_,λ_ _=>trivial,?_,λ_=>Ad _,?_⟩
 ·rw[Z];exact run_enterLoop_outer _ _ _ _ _
 ·simp only[resolve,ah]
  simp[go_sem,Df]
 ·simp only[invoke]
  exact Qt hg _ _
 ·have hc:=aB 0 B d3
  refine CallsIn.mono (F:=Fence.wide) hc ?_
  rintro e' w' ⟨v,d5,h5,rfl,rfl,aC,ht⟩
  have af:(mk B d5 h5).heap[h3.size+1]?=some (.loop (rec .ready none)):=aC
  have ae:(Instr.endLoop (h3.size+1)).run P (mk B d5 h5)=.ok none (mk B d5 (h5.setIfInBounds (h3.size+1) (.loop (rec .exhausted none)))):=by
   have:=run_endLoop (P:=P) af (by rw[Z];intro hx;cases hx)
   rw[Z]at this ⊢
   exact this
  refine⟨none,_,ae,?_⟩
  simp only[Exit.inBlock]
  show Code.wpIn Fence.wide 1 P (.seq (.region 6 (ro 6) true) .ret) _ _ (mk B d5 (h5.setIfInBounds (h3.size+1) (.loop (rec .exhausted none))))
  have an:Sat fn.ntmps [(1,[],u1),(2,[],u2),(5,[],u5),(7,[],u7)] a3:=zou s3.defers s3.size λx hx=>by
   simp only[Af,List.not_mem_nil,or_false]at hx
   rcases hx with rfl|rfl|rfl|rfl
   ·exact⟨rfl,w1⟩
   ·exact⟨rfl,w2⟩
   ·exact⟨rfl,w5⟩
   ·exact⟨rfl,w7⟩
  have ha:({ a3 with defers:=[{ target:=.collected h3.size,args:=#[] }]++a3.defers }:Act)=Q4 [{ target:=.collected h3.size,args:=#[] }] a3:=by
   unfold Q4;rw[s3.defers];rfl
  rw[ha]
  refine wpIn_seq (wpIn_wide.2 (z2i hm ht B d5 an _ λe6 a6 d6 h6 s6 k6=>?_))
  show Code.wpIn Fence.wide 1 P .ret _ _ (mk B d6 h6)
  refine wpIn_ret ?_
  obtain⟨hD,ai⟩:=k6
  obtain⟨v',aj,ap⟩:=xr s6 hr ai
  have az:(mk B d6 h6).heap[h3.size]?=some (.deferred (some [])):=hD
  have au:=run_takeDeferred (P:=P) az
  have am:(Q4 [{ target:=.collected h3.size,args:=#[] }] a6).defers=[{ target:=.collected h3.size,args:=#[] }]:=by unfold Q4;rw[s6.defers];rfl
  show LeavesInM _ _ _ _ _ _ (Q4 [{ target:=.collected h3.size,args:=#[] }] a6).defers _ _
  rw[am]
  exact⟨by simp,.inl ⟨_,_,rfl,au,v',ap B d6,v',d6,h6.setIfInBounds h3.size (.deferred none),rfl,rfl,aj⟩⟩
end
section
theorem zd0(ap:Nat)(c1:Addr)(c2:Addr)(h:za)(R:Value->za->Prop)
  (H:∃am:Sl,zd h c1=some (.slice am.a am.len am.cap)/\∃(aI:Int->za->Prop) (aJ:Int->za->Nat),aI 0 h/\∀aj:Int,∀aA:za,aI aj aA->(((decide ((aj:Int)<((am.len:Nat):Int)))=true->∃aM:Addr,(am.a=some aM/\0<=(aj:Int)/\(aj:Int)<((am.len:Nat):Int))/\∃aC:Bt,zd aA (aM.add ((aj:Int).toNat*1))=some (.string aC)/\∃aF:Int,∃aE:Bt,∃ae:Sl,∃aa:Sl,ze aA c2 0 [.int .i64 aF,.string aE,.slice ae.a ae.len ae.cap,.slice aa.a aa.len aa.cap]/\XC Tp 230 #[.agg #[.int .i64 aF,.string aE,.slice ae.a ae.len ae.cap,.slice aa.a aa.len aa.cap],.string aC] aA (λaL az=>∃Z:Int,aL=.int .i64 Z/\((decide ((Z:Int)<0))=true->R (.tuple #[]) az)/\((decide ((Z:Int)<0))=false->∃ak:Sl,zd az (Al c2 3)=some (.slice ak.a ak.len ak.cap)/\∃aH:Addr,(ak.a=some aH/\0<=(Z:Int)/\(Z:Int)<((ak.len:Nat):Int))/\∃ay:Int,∃ax:Bt,∃af:Sl,∃ai:Sl,ze az (aH.add ((Z:Int).toNat*4)) 0 [.int .i64 ay,.string ax,.slice af.a af.len af.cap,.slice ai.a ai.len ai.cap]/\XRunU Tp (An 26 (.pointer (some c2)) (.agg #[.int .i64 ay,.string ax,.slice af.a af.len af.cap,.slice ai.a ai.len ai.cap])) az (λaG=>∃au:Int,∃ar:Bt,∃ab:Sl,∃ah:Sl,ze aG c2 0 [.int .i64 au,.string ar,.slice ab.a ab.len ab.cap,.slice ah.a ah.len ah.cap]/\YX Tp ap #[.int .i64 Z,.agg #[.int .i64 au,.string ar,.slice ab.a ab.len ab.cap,.slice ah.a ah.len ah.cap]] aG (λaN aB=>∃an:Bool,aN=.bool an/\((!an)=true->R (.tuple #[]) aB)/\((!an)=false->(aI (Ab .i64 (aj+1)) aB/\aJ (Ab .i64 (aj+1)) aB<aJ aj aA)))))))/\((decide ((aj:Int)<((am.len:Nat):Int)))=false->R (.tuple #[]) aA))):
  XCI Tp 229 #[.func (.yield ap) #[] #[],.pointer (some c1),.pointer (some c2)] h R:=
 zg9 Tryz.mixed ⟨[],[(1,[(9,.one (.int .i64))])],[]⟩ [.func (.yield ap) #[] #[],.pointer (some c1),.pointer (some c2)] (rs:=[]) (n:=29) Tryz.func229 (by kernel_rfl) (by kernel_rfl) (by kernel_rfl) (by kernel_rfl) (Eq.mp (by kernel_rfl) H)
theorem ze3(am:Int)(ak:Bt)(af:Sl)(ae:Sl)(Z:Sl)(h:za)(R:List Value->za->Prop)
  (H:let an:za:=CO h (.cells #[.int .i64 am,.string ak,.slice af.a af.len af.cap,.slice ae.a ae.len ae.cap] 26);let ar:za:=CO an (.cells #[.int .i64 0,.string (⟨#[]⟩:Bt),.slice none 0 0,.slice none 0 0] 26);let ap:za:=CO ar (.cells #[.slice none 0 0] 59);∃aj:Int,∃ai:Bt,∃aa:Sl,∃ab:Sl,ze ap ⟨AM h,0,none⟩ 0 [.int .i64 aj,.string ai,.slice aa.a aa.len aa.cap,.slice ab.a ab.len ab.cap]/\XC Tp 159 #[.agg #[.int .i64 aj,.string ai,.slice aa.a aa.len aa.cap,.slice ab.a ab.len ab.cap],.slice Z.a Z.len Z.cap] ap (λax au=>∃ah:Value,ax=ah/\R [.slice Z.a Z.len Z.cap,.pointer (some ⟨AM h,0,none⟩),.pointer (some ⟨AM an,0,none⟩),.pointer (some ⟨AM ar,0,none⟩),ah] au)):
  zhd Tp 27 (Zf (codeOf Tryz.f89)) [0,1,2] (qcc [1,2,5,7,12] R) [(0,[],.agg #[.int .i64 am,.string ak,.slice af.a af.len af.cap,.slice ae.a ae.len ae.cap]),(1,[],.slice Z.a Z.len Z.cap)] h:=
 Eq.mp (by kernel_rfl) H
theorem ze4(az:Int)(an:Int)(am:Bt)(ah:Sl)(ai:Sl)(x2:Addr)(x7:Addr)(h:za)(C:za->Prop)(g:za->za)(R:za->Prop)
  (H:let ax:za:=CO h (.cells #[.int .i64 0,.string (⟨#[]⟩:Bt),.slice none 0 0,.slice none 0 0] 26);XRunU Tp (An 26 (.pointer (some ⟨AM h,0,none⟩)) (.agg #[.int .i64 an,.string am,.slice ah.a ah.len ah.cap,.slice ai.a ai.len ai.cap])) ax (λaf=>C af/\∃ae:Sl,zd (g af) x7=some (.slice ae.a ae.len ae.cap)/\∃ak:Int,∃aj:Bt,∃aa:Sl,∃Z:Sl,ze (g af) ⟨AM h,0,none⟩ 0 [.int .i64 ak,.string aj,.slice aa.a aa.len aa.cap,.slice Z.a Z.len Z.cap]/\let ap:za:=CO (g af) (.cells #[.int .i64 az] 3);((ap)[(⟨AM h,0,none⟩:Addr).block]?=((g af))[(⟨AM h,0,none⟩:Addr).block]?/\(ap)[(x7:Addr).block]?=((g af))[(x7:Addr).block]?/\True)/\XRun Tp (AB #[59,59] 59 #[.slice ae.a ae.len ae.cap,.slice (some ⟨AM (g af),0,none⟩) 1 1]) ap (λaA au=>∃ab:Sl,aA=.slice ab.a ab.len ab.cap/\((au)[(⟨AM h,0,none⟩:Addr).block]?=((g af))[(⟨AM h,0,none⟩:Addr).block]?/\True)/\XRunU Tp (An 59 (.pointer (some x7)) (.slice ab.a ab.len ab.cap)) au (λar=>((ar)[(⟨AM h,0,none⟩:Addr).block]?=((g af))[(⟨AM h,0,none⟩:Addr).block]?/\True)/\XRunU Tp (An 26 (.pointer (some x2)) (.agg #[.int .i64 ak,.string aj,.slice aa.a aa.len aa.cap,.slice Z.a Z.len Z.cap])) ar (λay=>R ay))))):
  zot Tp 27 (Zf (codeOf Tryz.f89)) [3,4] 5 C g R [(13,[],.int .i64 az),(14,[],.agg #[.int .i64 an,.string am,.slice ah.a ah.len ah.cap,.slice ai.a ai.len ai.cap]),(2,[],.pointer (some x2)),(7,[],.pointer (some x7))] h:=
 Eq.mp (by kernel_rfl) H
theorem ze5(x1:Sl)(x2:Addr)(x5:Addr)(x7:Addr)(h:za)(C:za->Prop)(g:za->za)(R:Value->za->Prop)
  (H:∃aa:Sl,zd h x7=some (.slice aa.a aa.len aa.cap)/\∃ai:Int,∃aj:Bt,∃ab:Sl,∃Z:Sl,ze h x2 0 [.int .i64 ai,.string aj,.slice ab.a ab.len ab.cap,.slice Z.a Z.len Z.cap]/\∃ae:Sl,zd h x7=some (.slice ae.a ae.len ae.cap)/\XRunU Tp (An 26 (.pointer (some x5)) (.agg #[.int .i64 ai,.string aj,.slice ab.a ab.len ab.cap,.slice Z.a Z.len Z.cap])) h (λak=>((ak)[(x7:Addr).block]?=(h)[(x7:Addr).block]?/\True)/\C ak/\∃am:Int,∃an:Bt,∃ah:Sl,∃af:Sl,ze (g ak) x5 0 [.int .i64 am,.string an,.slice ah.a ah.len ah.cap,.slice af.a af.len af.cap]/\R (.tuple #[.slice aa.a aa.len aa.cap,.agg #[.int .i64 am,.string an,.slice ah.a ah.len ah.cap,.slice af.a af.len af.cap],.bool ((((ae.len:Nat):Int):Int)==((x1.len:Nat):Int))]) (g ak))):
  z8e Tp 27 ((Zf (codeOf Tryz.f89)) 6) (λe h1=>C h1/\ztg Tp (g h1) e [.tmp 4,.cell 5 26,.tmp 6] λvs=>R (zc3 vs) (g h1)) [(1,[],.slice x1.a x1.len x1.cap),(2,[],.pointer (some x2)),(5,[],.pointer (some x5)),(7,[],.pointer (some x7))] h:=
 Eq.mp (by kernel_rfl) H
end
section
variable {h0 g g' h:za} {M:Fr} {sp sk si:Sl} {w x:Tr}
theorem z8h:ElemT Tp 59 3 (.int .i64 0) 1 8:=⟨by kernel_rfl,⟨Tryz.t3,by kernel_rfl,by kernel_rfl,by kernel_rfl,by kernel_rfl⟩,rfl,by omega⟩
theorem qbp:qd Tp 59=true:=by kernel_rfl
theorem qbq:qt Tp 59=1:=by kernel_rfl
def zu7(l:List Int):List Value:=l.map (Ep .i64)
structure LI (h0:za) (M:Fr) (rec:Rec) (sp:Sl) (w x:Tr) (os:List Int) (g:za):Prop where
 keep:Keep h0.size h0 g
 size:h0.size+7<=g.size
 v:∃sk si,Blk g h0.size (zw w.kind w.text sk si).toArray/\Rd M (.row .str) w.keys [slV sk]/\Rd M (.row .tree) w.items [slV si]
 z:Blk g (h0.size+1) (zw 0 ⟨#[]⟩ ⟨none,0,0⟩ ⟨none,0,0⟩).toArray
 o:∃so,Blk g (h0.size+2) #[slV so]/\Owns g (h0.size+7) 3 1 so (zu7 os)/\so.len=os.length
 c:∃sk si,Blk g (h0.size+3) (zw x.kind x.text sk si).toArray/\Rd M (.row .str) x.keys [slV sk]/\Rd M (.row .tree) x.items [slV si]
 p:Blk g (h0.size+4) #[slV sp]
 d:g[h0.size+5]?=some (.deferred (some []))
 l:g[h0.size+6]?=some (.loop (rec .ready none))
theorem LI.frame{rec:Rec}{os:List Int}(I:LI h0 M rec sp w x os g)(k:Keep g.size g g'):LI h0 M rec sp w x os g':=by
 have hs:=I.size
 have hk:=k.size
 obtain⟨sk,si,v1,v2,v3⟩:=I.v
 obtain⟨so,o1,o2,o3⟩:=I.o
 obtain⟨tk,ti,c1,c2,c3⟩:=I.c
 exact⟨⟨by have:=I.keep.size;omega,λi hi=>(k.get i (by omega)).trans (I.keep.get i hi)⟩,by omega,⟨sk,si,v1.ofKeep k,v2,v3⟩,I.z.ofKeep k,⟨so,o1.ofKeep k,o2.keepN k,o3⟩,⟨tk,ti,c1.ofKeep k,c2,c3⟩,I.p.ofKeep k,by rw[k.get _ (by omega)];exact I.d,by rw[k.get _ (by omega)];exact I.l⟩
theorem Ya{l i:Nat}{o:Obj}(hi:i≠l):(h.setIfInBounds l o)[i]?=h[i]?:=AN (Ne.symm hi)
theorem zov{l:Nat}{o:Obj}(hl:l<h.size):(h.setIfInBounds l o)[l]?=some o:=Cj hl
set_option maxRecDepth 100000 in
set_option maxHeartbeats 2000000 in
theorem z2k{rec:Rec}{os:List Int}(I:LI h0 M rec sp w x os h)(r:Int)(aL:os.length<1000000)(hk:Rd M (.row .str) x.keys [slV sk])(hi:Rd M (.row .tree) x.items [slV si]){K:Value->za->Prop}
  (hK:∀h',LI h0 M rec sp x x (os++[r]) h'->K (.bool true) h'):
  zot Tp 27 (Zf (codeOf Tryz.f89)) [3,4] 5 (λh3=>h3[h0.size+6]?=some (.loop (rec .ready none))) (λh3=>h3.setIfInBounds (h0.size+6) (.loop (rec .busy none)))
   (λh4=>h4[h0.size+6]?=some (.loop (rec .busy none))/\K (.bool true) (h4.setIfInBounds (h0.size+6) (.loop (rec .ready none))))
   [(13,[],.int .i64 r),(14,[],.agg #[.int .i64 x.kind,.string x.text,.slice sk.a sk.len sk.cap,.slice si.a si.len si.cap]),(2,[],.pointer (some ⟨h0.size,0,none⟩)),(7,[],.pointer (some ⟨h0.size+2,0,none⟩))] h:=by
 have hs:=I.size
 obtain⟨so,o1,o2,o3⟩:=I.o
 obtain⟨vk,vi,v1,v2,v3⟩:=I.v
 obtain⟨ck,ci,c1,c2,c3⟩:=I.c
 have af:∀p,so.a=some p->h0.size+7<=p.block/\p.block<h.size:=λp hp=>o2.base_le p hp
 refine ze4 r x.kind x.text sk si ⟨h0.size,0,none⟩ ⟨h0.size+2,0,none⟩ h _ _ _ ?_
 intro aj
 have aP:aj.size=h.size+1:=Ak _
 have ay:Keep h.size h aj:=Keep.push _ _ (Ad _)
 have aA:Blk aj h.size (zw 0 ⟨#[]⟩ ⟨none,0,0⟩ ⟨none,0,0⟩).toArray:=Blk.new _ _ _
 clear_value aj
 refine Qk aA rfl _ _ _ _ λax aF aJ aG=>?_
 have an:∀i,i<h.size->ax[i]?=h[i]?:=λi hi=>(aG i (by omega)).trans (ay.get i hi)
 refine⟨by rw[an _ (by omega)];exact I.l,?_⟩
 generalize hG:ax.setIfInBounds (h0.size+6) (.loop (rec .busy none))=G
 have zG:G.size=h.size+1:=by rw[<-hG,AU];omega
 have gG:∀i,i<h.size->i≠h0.size+6->G[i]?=h[i]?:=λi hi hn=>by rw[<-hG,Ya hn];exact an i hi
 have lG:G[h0.size+6]?=some (.loop (rec .busy none)):=by rw[<-hG];exact zov (by omega)
 have bG:Blk G h.size (zw x.kind x.text sk si).toArray:=aF.keep (by rw[<-hG,Ya (by omega)])
 have oG:Blk G (h0.size+2) #[slV so]:=o1.keep (gG _ (by omega) (by omega))
 refine⟨so,oG.cell (o:=0) rfl,x.kind,x.text,sk,si,bG.ld (cs:=zw x.kind x.text sk si),?_⟩
 intro Z
 have aM:Z.size=h.size+2:=by show(G.push _).size=_;rw[Ak,zG]
 have ab:Keep G.size G Z:=Keep.push _ _ (Ad _)
 have aH:Blk Z G.size #[.int .i64 r]:=Blk.new _ _ _
 clear_value Z
 refine⟨⟨ab.get _ (by show h.size<_;omega),ab.get _ (by show h0.size+2<_;omega),trivial⟩,?_⟩
 have ap:Owns Z (h0.size+7) 3 1 so (zu7 os):=o2.keep λp hp=>by
  have:=af p hp
  rw[ab.get _ (by omega),gG _ (by omega) (by omega)]
 refine zc5 z8h ap (src:=⟨some ⟨G.size,0,none⟩,1,1⟩) (news:=[.int .i64 r]) (n:=Z.size) ?_ rfl (by simp[Value.oneCell']) (by simp only;omega) (by simp only;omega) (by omega) λs' ai q1 q2 q3 q4 q5=>⟨s',rfl,?_⟩
 ·refine .inr ⟨G.size,0,rfl,by omega,λi v hv=>?_⟩
  match i,hv with
  |0,hv=>cases hv;exact aH.cell rfl
 have ak:∀i,i<Z.size->(∀p,so.a=some p->i≠p.block)->ai[i]?=Z[i]?:=q3
 have am:ai[h.size]?=G[h.size]?:=(ak _ (by omega) λp hp=>by have:=af p hp;omega).trans (ab.get _ (by omega))
 refine⟨⟨am,trivial⟩,?_⟩
 have aa:∀i,i<h0.size+7->i≠h0.size+6->ai[i]?=h[i]?:=λi hi hn=>(ak i (by omega) λp hp=>by have:=af p hp;omega).trans ((ab.get _ (by omega)).trans (gG i (by omega) hn))
 have aE:ai[h0.size+6]?=some (.loop (rec .busy none)):=(ak _ (by omega) λp hp=>by have:=af p hp;omega).trans ((ab.get _ (by omega)).trans lG)
 refine J6 (vs:=[slV s']) qbp (o1.keep (aa _ (by omega) (by omega))) rfl qbq (by simp) (by simp[Value.oneCell',slV]) λaN ar aQ ae=>?_
 have aB:upd #[slV so] 0 [slV s']=#[slV s']:=by simp[upd]
 rw[aB]at ar
 refine⟨⟨(ae _ (by show h.size≠_;omega)).trans am,trivial⟩,?_⟩
 refine Qk (v1.keep ((ae _ (by omega)).trans (aa _ (by omega) (by omega)))) rfl _ _ _ _ λau az aO ah=>?_
 have aI:au[h0.size+6]?=some (.loop (rec .busy none)):=(ah _ (by omega)).trans ((ae _ (by omega)).trans aE)
 refine⟨aI,hK _ ?_⟩
 have low:∀i,i<h0.size+7->i≠h0.size+6->i≠h0.size->i≠h0.size+2->(au.setIfInBounds (h0.size+6) (.loop (rec .ready none)))[i]?=h[i]?:=λi hi h1 h2 h3=>(Ya h1).trans ((ah _ h2).trans ((ae _ h3).trans (aa i hi h1)))
 have aC:s'.len=so.len+1:=q1
 refine⟨⟨by rw[AU];have:=I.keep.size;omega,λi hi=>(low i (by omega) (by omega) (by omega) (by omega)).trans (I.keep.get i hi)⟩,by rw[AU];omega,⟨sk,si,az.keep (Ya (by omega)),hk,hi⟩,I.z.keep (low _ (by omega) (by omega) (by omega) (by omega)),⟨s',ar.keep ((Ya (by omega)).trans (ah _ (by omega))),?_,by rw[aC,o3];simp⟩,⟨ck,ci,c1.keep (low _ (by omega) (by omega) (by omega) (by omega)),c2,c3⟩,I.p.keep (low _ (by omega) (by omega) (by omega) (by omega)),(low _ (by omega) (by omega) (by omega) (by omega)).trans I.d,zov (by omega)⟩
 have e:zu7 (os++[r])=zu7 os++[.int .i64 r]:=by unfold zu7;rw[Cr];rfl
 rw[e]
 refine q2.keep λp hp=>?_
 have:=q2.base_le p hp
 rw[Ya (by omega),ah _ (by omega),ae _ (by omega)]
theorem LI.setC{rec:Rec}{w x y:Tr}{os:List Int}(I:LI h0 M rec sp w x os g)(hz:g'.size=g.size)(hf:∀j,j≠h0.size+3->g'[j]?=g[j]?)(hb:Blk g' (h0.size+3) (zw y.kind y.text sk si).toArray)(hk:Rd M (.row .str) y.keys [slV sk])(hi:Rd M (.row .tree) y.items [slV si]):LI h0 M rec sp w y os g':=by
 have hs:=I.size
 obtain⟨vk,vi,v1,v2,v3⟩:=I.v
 obtain⟨so,o1,o2,o3⟩:=I.o
 refine⟨⟨by have:=I.keep.size;omega,λi hi=>(hf i (by omega)).trans (I.keep.get i hi)⟩,by omega,⟨vk,vi,v1.keep (hf _ (by omega)),v2,v3⟩,I.z.keep (hf _ (by omega)),⟨so,o1.keep (hf _ (by omega)),o2.keep λp hp=>hf _ (by have:=o2.base_le p hp;omega),o3⟩,⟨sk,si,hb,hk,hi⟩,I.p.keep (hf _ (by omega)),(hf _ (by omega)).trans I.d,(hf _ (by omega)).trans I.l⟩
theorem z2l(M:Fr)(xs:List Int):RowC M (.int .i64) xs (zu7 xs):=by
 refine⟨by simp[sz,zu7],λi hi=>?_⟩
 simp only[sz,Dc]
 have Z:i<(zu7 xs).length:=by unfold zu7;simpa using hi
 rw[AF Z,Be,Dg]
 simp only[zu7,List.getElem_map]
 rfl
theorem qbr(ag:AgM M h0)(k:Keep h0.size h0 h){base:Nat}(hb:h0.size<=base){so:Sl}{xs:List Int}(H:Owns h base 3 1 so (zu7 xs))(hl:so.len=xs.length)(hn:xs.length<=140737488355328):∃M',Later h0 M h M'/\RdV M' (.row (.int .i64)) xs (slV so):=by
 rcases Owns.blk H with⟨Z,hc⟩|⟨b,cs,e1,e2,e3,e4,e5,e6⟩
 ·refine⟨M,Later.same ag k,?_⟩
  have:xs=[]:=AJ (by omega)
  subst this
  rw[zp0 rfl]
  exact⟨_,rfl,so.a,so.cap,by rw[slV,Z];rfl,⟨by simp,by simp⟩,.inl rfl⟩
 ·refine⟨MxL M h [b],MxL.later ag k (λx hx=>by simp at hx;omega),?_⟩
  rw[zp0 rfl,slV,e1,hl]
  refine RowC.rd (cs:=cs) (z2l _ xs) (MxL.at (by simp) e3) ?_ ⟨hn,by omega⟩
  rw[<-e5,hl];rfl
set_option maxRecDepth 100000 in
set_option maxHeartbeats 800000 in
theorem z2m{gl:Fr}(hg:GL gl){v:Tr}(hv:Sm v)(ho:zh1 Zr v=true){p:List Bt}(hp:SL p){R:List Int×Tr×Bool->Prop}(hR:R ((yz v p).map (λq=>(q.1:Int)),lastT v (yz v p),decide ((yz v p).length=p.length))):
  PC Tp gl 89 [Arg.mk .tree v,Arg.mk (.row .str) p] [.row (.int .i64),.tree,.bool] R:=by
 intro h M vs hM ag ha
 match vs,ha with
 |[u,w],⟨hu,hw,_⟩=>
  have hu:RdV M .tree v u:=hu
  obtain⟨sk,si,rfl,rk,ri⟩:=Yp hu
  obtain⟨sp,rfl,hr⟩:=z5z hw
  have hr:Rd M (.row .str) p [slV sp]:=hr
  obtain⟨aN,ba,a8⟩:=rowLen hr
  have bh:=hp.n
  apply PX.of
  obtain⟨RR,ay⟩:∃RR:Value->za->Prop,RR=λv h'=>∃M' r,Later h M h' M'/\zcu M' [.row (.int .i64),.tree,.bool] r v/\R r:=⟨_,rfl⟩
  refine XC.mono (R:=RR) ?_ (λv h' hx=>by rw[ay]at hx;exact hx)
  refine z2j (P:=Tp) Tryz.mixed (ro:=Zf (codeOf Tryz.f89)) (n:=27) (rs:=[.tmp 4,.cell 5 26,.tmp 6]) Tryz.func89 (by kernel_rfl) (by kernel_rfl) (by kernel_rfl) (by kernel_rfl) (by kernel_rfl) (by kernel_rfl) (by decide) [.agg #[.int .i64 v.kind,.string v.text,slV sk,slV si],slV sp] (by kernel_rfl) ?_
  refine ze3 v.kind v.text sk si sp h _ ?_
  intro h1 h2 h3
  have z1:h1.size=h.size+1:=Ak _
  have z2:h2.size=h1.size+1:=Ak _
  have z3:h3.size=h2.size+1:=Ak _
  have k1:Keep h.size h h1:=Keep.push _ _ (Ad _)
  have k2:Keep h1.size h1 h2:=Keep.push _ _ (Ad _)
  have k3:Keep h2.size h2 h3:=Keep.push _ _ (Ad _)
  have b1:Blk h1 h.size (zw v.kind v.text sk si).toArray:=Blk.new _ _ _
  have b2:Blk h2 h1.size (zw 0 ⟨#[]⟩ ⟨none,0,0⟩ ⟨none,0,0⟩).toArray:=Blk.new _ _ _
  have b3:Blk h3 h2.size #[slV ⟨none,0,0⟩]:=Blk.new _ _ _
  clear_value h1 h2 h3
  refine⟨v.kind,v.text,sk,si,((b1.ofKeep k2).ofKeep k3).ld (cs:=zw v.kind v.text sk si),?_⟩
  apply zg4 v.kind v.text sk si sp
  intro h4 h5
  have z4:h4.size=h3.size+1:=Ak _
  have z5:h5.size=h4.size+1:=Ak _
  have k4:Keep h3.size h3 h4:=Keep.push _ _ (Ad _)
  have k5:Keep h4.size h4 h5:=Keep.push _ _ (Ad _)
  have b4:Blk h4 h3.size (zw v.kind v.text sk si).toArray:=Blk.new _ _ _
  have b5:Blk h5 h4.size #[slV sp]:=Blk.new _ _ _
  clear_value h4 h5
  have e1:h1.size=h.size+1:=z1
  have e2:h2.size=h.size+2:=by omega
  have e3:h3.size=h.size+3:=by omega
  have e4:h4.size=h.size+4:=by omega
  have e5:h5.size=h.size+5:=by omega
  refine⟨_,rfl,_,_,_,_,_,_,rfl,by kernel_rfl,?_⟩
  rw[e1,e2,e3,e4,e5,show h.size+5+1=h.size+6 from rfl]
  intro rec hY
  have K0:Keep h.size h h5:=(((k1.trans k2 (by omega)).trans k3 (by omega)).trans k4 (by omega)).trans k5 (by omega)
  obtain⟨g6,ab⟩:∃g6,(h5.push (.deferred (some []))).push (.loop (rec .ready none))=g6:=⟨_,rfl⟩
  have z6:g6.size=h.size+7:=by rw[<-ab,Ak,Ak];omega
  have k6:Keep h5.size h5 g6:=by
   rw[<-ab]
   exact(Keep.push h5 (.deferred (some [])) (Ad _)).trans (Keep.push _ _ (by rw[Ak];omega)) (Ad _)
  have I0:LI h M rec sp v v [] g6:=by
   refine⟨K0.trans k6 (by omega),by omega,⟨sk,si,(((b1.ofKeep k2).ofKeep k3).ofKeep k4 |>.ofKeep k5).ofKeep k6,rk,ri⟩,?_,⟨⟨none,0,0⟩,?_,Owns.nil _ _ _ _,rfl⟩,⟨sk,si,?_,rk,ri⟩,?_,?_,?_⟩
   ·rw[<-e1];exact((b2.ofKeep k3).ofKeep k4 |>.ofKeep k5).ofKeep k6
   ·rw[<-e2];exact((b3.ofKeep k4).ofKeep k5).ofKeep k6
   ·rw[<-e3];exact(b4.ofKeep k5).ofKeep k6
   ·rw[<-e4];exact b5.ofKeep k6
   ·rw[<-ab,BV,if_neg (by rw[Ak];omega),<-e5];exact j5 _ _
   ·rw[<-ab]
    have:=j5 (h5.push (.deferred (some []))) (.loop (rec .ready none))
    rw[Ak,e5]at this;exact this
  rw[ab]
  clear ab
  have au:∀(w:Tr) (done:List (Nat×Tr)) (g:za),yz v p=done->lastT v done=w->LI h M rec sp w w (done.map λq=>(q.1:Int)) g ->
    (g[h.size+6]?=some (.loop (rec .ready none))/\z8g Tp 27 (Zf (codeOf Tryz.f89)) 6 [.tmp 4,.cell 5 26,.tmp 6] (h.size+5) RR
     [(1,[],.slice sp.a sp.len sp.cap),(2,[],.pointer (some ⟨h.size,0,none⟩)),(5,[],.pointer (some ⟨h.size+1,0,none⟩)),(7,[],.pointer (some ⟨h.size+2,0,none⟩))] (g.setIfInBounds (h.size+6) (.loop (rec .exhausted none)))):=by
   intro w done g ae ai I
   refine⟨I.l,?_⟩
   have hs:=I.size
   obtain⟨so,o1,o2,o3⟩:=I.o
   obtain⟨vk,vi,v1,v2,v3⟩:=I.v
   obtain⟨G,hG⟩:∃G,g.setIfInBounds (h.size+6) (.loop (rec .exhausted none))=G:=⟨_,rfl⟩
   have zG:G.size=g.size:=by rw[<-hG,AU]
   have gG:∀i,i≠h.size+6->G[i]?=g[i]?:=λi hi=>by rw[<-hG];exact Ya hi
   rw[hG]
   unfold z8g
   refine ze5 sp ⟨h.size,0,none⟩ ⟨h.size+1,0,none⟩ ⟨h.size+2,0,none⟩ G (λh1=>h1[h.size+5]?=some (.deferred (some []))) (λh1=>h1.setIfInBounds (h.size+5) (.deferred none)) RR ?_
   have oG:Blk G (h.size+2) #[slV so]:=o1.keep (gG _ (by omega))
   refine⟨so,oG.cell (o:=0) rfl,w.kind,w.text,vk,vi,(v1.keep (gG _ (by omega))).ld (cs:=zw w.kind w.text vk vi),so,oG.cell (o:=0) rfl,?_⟩
   refine Qk (I.z.keep (gG _ (by omega))) rfl _ _ _ _ λaF aT bg ah=>?_
   refine⟨⟨ah _ (by show h.size+2≠_;omega),trivial⟩,(ah _ (by omega)).trans ((gG _ (by omega)).trans I.d),w.kind,w.text,vk,vi,(aT.keep (Ya (by omega))).ld (cs:=zw w.kind w.text vk vi),?_⟩
   have KF:Keep h.size h (aF.setIfInBounds (h.size+5) (.deferred none)):=⟨by rw[AU];have:=I.keep.size;omega,λi hi=>by rw[Ya (by omega),ah _ (by omega),gG _ (by omega)];exact I.keep.get i hi⟩
   have OF:Owns (aF.setIfInBounds (h.size+5) (.deferred none)) (h.size+7) 3 1 so (zu7 (done.map λq=>(q.1:Int))):=o2.keep λq hq=>by
    have:=o2.base_le q hq
    rw[Ya (by omega),ah _ (by omega),gG _ (by omega)]
   have an:=zjv v p
   rw[ae]at an
   obtain⟨M',L',aQ⟩:=qbr ag KF (by omega) OF o3 (by rw[A0];omega)
   rw[ay]
   refine⟨M',(done.map (λq=>(q.1:Int)),w,decide (done.length=p.length)),L',⟨[slV so,.agg #[.int .i64 w.kind,.string w.text,slV vk,slV vi],.bool (decide (done.length=p.length))],⟨_,_,rfl,aQ,_,_,rfl,Wx (Rd.mono L'.le v2) (Rd.mono L'.le v3),_,rfl,rdBool _⟩,?_⟩,?_⟩
   ·have aY:(((so.len:Nat):Int)==((sp.len:Nat):Int))=decide (done.length=p.length):=by
     rw[o3,aN,A0,AH];simp;omega
    rw[aY];rfl
   ·rw[ae,ai]at hR;exact hR
  show XCI Tp 229 #[.func (.yield (h.size+6)) #[] #[],.pointer (some ⟨h.size+4,0,none⟩),.pointer (some ⟨h.size+3,0,none⟩)] g6 _
  refine zd0 (h.size+6) ⟨h.size+4,0,none⟩ ⟨h.size+3,0,none⟩ g6 _ ?_
  refine⟨sp,I0.p.cell (o:=0) rfl,λi g=>∃(k:Nat) (w:Tr) (done:List (Nat×Tr)),i=k/\k<=p.length/\Sm w/\zh1 Zr w=true/\done.length=k/\yz v p=done++yz w (p.drop k)/\lastT v done=w/\LI h M rec sp w w (done.map λq=>(q.1:Int)) g,λi _=>p.length-i.toNat,⟨0,v,[],rfl,by omega,hv,ho,rfl,by simp,rfl,I0⟩,?_⟩
  rintro i g ⟨k,w,done,rfl,hk,hw,aC,an,aa,aE,I⟩
  refine⟨λhc=>?_,λhc=>?_⟩
  ·have Z:k<p.length:=by simp at hc;omega
   have agg:AgM M g:=ag.keep I.keep
   refine z6a agg hr Z rfl rfl ?_
   obtain⟨ck,ci,c1,c2,c3⟩:=I.c
   refine⟨w.kind,w.text,ck,ci,c1.ld (cs:=zw w.kind w.text ck ci),?_⟩
   have a6:=hp.s _ (AL Z)
   have a1:PC Tp gl 230 [Arg.mk .tree w,Arg.mk .str p[k]] [.int .i64] (λr=>r=xf w p[k]):=z8c hg a6 rfl
   refine a1.go (vs:=[.agg #[.int .i64 w.kind,.string w.text,slV ck,slV ci],.string p[k]]) hM agg (jc (Wx c2 c3) (jc (rdStr _) xb)) λq ax bj r ar aJ ak=>?_
   have ak:r=xf w p[k]:=ak
   subst ak
   have ap:=I.frame ar.keep
   have af:p.drop k=p[k]::p.drop (k+1):=AF Z
   refine⟨xf w p[k],qb6 aJ,λaA=>?_,λaI=>?_⟩
   ·have am:xf w p[k]<0:=by simpa using aA
    rw[af,zhc am,AW]at aa
    exact au w done ax aa aE ap
   ·have aP:¬xf w p[k]<0:=by simpa using aI
    obtain⟨j,hj,aj⟩:∃j:Nat,xf w p[k]=j/\j<w.items.length:=by
     rcases zsx (zoq aC) p[k]with e|e
     ·omega
     ·exact e
    have aM:=c1.ofKeep ar.keep
    have aB:AgM M ax:=ag.keep ap.keep
    obtain⟨be,_,_⟩:=rowLen c3
    obtain⟨a,xk,xi,ea,aU,aG,aL⟩:=z3i aB c3 aj
    have hm:w.items[j]∈w.items:=AL aj
    rw[hj]
    refine⟨ci,aM.cellAdd (o:=0) (k:=3) rfl,a,⟨ea,by omega,by omega⟩,w.items[j].kind,w.items[j].text,xk,xi,by rw[Ah];exact aU,?_⟩
    refine Qk aM rfl _ _ _ _ λaz aO aZ aS=>?_
    have aH:LI h M rec sp w w.items[j] (done.map λq=>(q.1:Int)) az:=ap.setC aZ aS aO aG aL
    refine⟨w.items[j].kind,w.items[j].text,xk,xi,aO.ld (cs:=zw w.items[j].kind w.items[j].text xk xi),?_⟩
    have key:∀K:Value->za->Prop,(∀h',LI h M rec sp w.items[j] w.items[j] ((done.map λq=>(q.1:Int))++[(j:Int)]) h'->K (.bool true) h')->YX Tp (h.size+6) #[.int .i64 (j:Int),.agg #[.int .i64 w.items[j].kind,.string w.items[j].text,.slice xk.a xk.len xk.cap,.slice xi.a xi.len xi.cap]] az K:=λK hK=>
     @hY _ _ _ K aH.l (z2k (K:=K) aH (j:Int) (by rw[A0];omega) aG aL hK)
    refine key _ λbi a7=>⟨true,rfl,λhx=>(by cases hx),λ_=>?_⟩
    have aV:=Xy Z (by omega)
    rw[aV]
    refine⟨⟨k+1,w.items[j],done++[(j,w.items[j])],rfl,by omega,hw.item hm,zop aC hm,by simp[an],?_,by unfold lastT;simp,by rw[Cr];exact a7⟩,by simp only[Ah];omega⟩
    rw[aa,af,zdy hj aj];simp
  ·have Z:k=p.length:=by simp at hc;omega
   subst Z
   rw[List.drop_length]at aa
   have:yz w []=[]:=by simp[yz]
   rw[this,AW]at aa
   exact au w done g aa aE I
end
section
variable {gl:Fr} {v x:Tr}
theorem z8i(hg:GL gl)(hv:Sm v)(ho:Xz v=true){R:Tr->Prop}(hR:R v):PC Tp gl 90 [Arg.mk .tree v] [.tree] R:=by
 intro h M vs hM ag ha
 match vs,ha with
 |[u],⟨hu,_⟩=>
  have hu:RdV M .tree v u:=hu
  have ab:=hu
  obtain⟨sk,si,rfl,rk,ri⟩:=Yp hu
  apply PX.of
  apply zlf v.kind v.text sk si
  intro h1 h2
  have z1:h1.size=h.size+1:=Ak _
  have z2:h2.size=h1.size+1:=Ak _
  have k1:Keep h.size h h1:=Keep.push _ _ (Ad _)
  have k2:Keep h1.size h1 h2:=Keep.push _ _ (Ad _)
  have b1:Blk h1 h.size (zw v.kind v.text sk si).toArray:=Blk.new _ _ _
  have b2:Blk h2 h1.size (zw 0 ⟨#[]⟩ ⟨none,0,0⟩ ⟨none,0,0⟩).toArray:=Blk.new _ _ _
  clear_value h1 h2
  have K2:Keep h.size h h2:=k1.trans k2 (by omega)
  have ah:=ag.keep K2
  refine⟨v.kind,v.text,sk,si,(b1.ofKeep k2).ld (cs:=zw v.kind v.text sk si),?_⟩
  have Z:PC Tp gl 88 [Arg.mk .tree v] [.bool] (λr=>r=Xz v):=zx3 hg hv rfl
  refine Z.go (vs:=[.agg #[.int .i64 v.kind,.string v.text,slV sk,slV si]]) hM ah (jc ab xb) λw h3 M3 r L3 aa hr=>?_
  have hr:r=Xz v:=hr
  refine⟨r,zr2 aa,λhx=>?_,λhx=>?_⟩
  ·rw[hr,ho]at hx;cases hx
  ·refine⟨v.kind,v.text,sk,si,((b1.ofKeep k2).ofKeep L3.keep).ld (cs:=zw v.kind v.text sk si),?_⟩
   have K3:Keep h.size h h3:=K2.trans L3.keep (by have:=K2.size;omega)
   refine(z1p (tsz v) v (Ad _) hv (ag.keep K3) ab).mono ?_
   rintro w' h4 ⟨k4,bs,ck,ci,rfl,ot,ae⟩
   have z3:=L3.keep.size
   have z4:=k4.size
   refine⟨v.kind,v.text,ck,ci,rfl,?_⟩
   refine Qk (((b2.ofKeep L3.keep).ofKeep k4)) rfl _ _ _ _ λh5 b5 z5 f5=>?_
   have K5:Keep h.size h h5:=⟨by have:=K3.size;omega,λi hi=>by rw[f5 i (by omega),k4.get i (by have:=K3.size;omega)];exact K3.get i hi⟩
   have af:=ot.frame λb hb=>f5 b (by have:=ae b hb;omega)
   have ai:=K3.size
   exact⟨v.kind,v.text,ck,ci,b5.ld (cs:=zw v.kind v.text ck ci),MxL M h5 bs,v,MxL.later ag K5 (λb hb=>by have:=ae b hb;omega),zjd.2 af.rdv,hR⟩
theorem zux(h:Xa v=true)(hx:x∈v.items):Xa x=true:=by
 unfold Xa at h ⊢
 simp at h ⊢
 have h1:=Jw hx
 have h2:tdp x<=zdn v.items:=by
  have Z:∀l:List Tr,x∈l->tdp x<=zdn l:=by
   intro l
   induction l with
   |nil=>intro hm;cases hm
   |cons y l ih=>
    intro hm
    rw[zdn]
    rcases Af.1 hm with rfl|hm
    ·omega
    ·have:=ih hm;omega
  exact Z _ hx
 have h3:=z3o v
 omega
theorem zze(h:Xz v=true)(hx:x∈v.items):Xz x=true:=by
 unfold Xz at h ⊢
 rw[AY]at h ⊢
 exact⟨zux h.1 hx,zop h.2 hx⟩
theorem zs0(h:Xz v=true):zh1 Zr v=true:=by unfold Xz at h;rw[AY]at h;exact h.2
theorem zzf(n:Nat):∀(v:Tr) (p:List Bt),p.length<=n->Xz v=true->Sm v->Xz (lastT v (yz v p))=true/\Sm (lastT v (yz v p)):=by
 induction n with
 |zero=>
  intro v p hp ho hs
  have:p=[]:=AJ (by omega)
  subst this
  exact⟨ho,hs⟩
 |succ n ih=>
  intro v p hp ho hs
  match p with
  |[]=>exact⟨ho,hs⟩
  |s::p=>
   rcases zsx (zoq (zs0 ho)) s with e|⟨k,e,hk⟩
   ·rw[zhc (by omega)];exact⟨ho,hs⟩
   ·rw[zdy e hk,zju]
    have hm:=AL hk
    exact ih v.items[k] p (by simpa using hp) (zze ho hm) (hs.item hm)
theorem z8j(hg:GL gl)(hv:Sm v){p:List Bt}(hp:SL p){R:Tr×Bool->Prop}(hR:R (zzb v p)):PC Tp gl 30 [Arg.mk .tree v,Arg.mk (.row .str) p] [.tree,.bool] R:=by
 apply zgl
 rw[J5]
 unfold zzb at hR
 refine zx3 hg hv ⟨λb=>b=zab p,λ_=>zso hg hp rfl,λb hb=>?_⟩
 cases ho:Xz v with
 |false=>
  rw[ho]at hR
  exact⟨λ_=>hR,λhx=>by cases hx⟩
 |true=>
  have Z:b=zab p:=hb (by rw[ho];rfl)
  subst Z
  cases hr:zab p with
  |false=>
   rw[ho,hr]at hR
   exact⟨λ_=>hR,λhx=>by cases hx⟩
  |true=>
   rw[ho,hr,C7,if_pos rfl]at hR
   refine⟨λhx=>(by cases hx),λ_=>?_⟩
   refine z2m hg hv (zs0 ho) hp ⟨λhx=>?_,λhx=>?_⟩
   ·have:ze2 v p=none:=by unfold ze2;rw[if_neg (by simpa using hx)]
    rw[this]at hR;exact hR
   ·have:ze2 v p=some (lastT v (yz v p)):=by unfold ze2;rw[if_pos (by simpa using hx)]
    rw[this]at hR
    obtain⟨h1,h2⟩:=zzf p.length v p (Ad _) ho hv
    rw[J5]
    refine z8i hg h2 h1 ?_
    rw[show Tr.mk (lastT v (yz v p)).kind (lastT v (yz v p)).text (lastT v (yz v p)).keys (lastT v (yz v p)).items=lastT v (yz v p)from J5 _]
    exact hR
end
section
theorem OT.zero(h:za):OT h zT [] (zw 0 ⟨#[]⟩ ⟨none,0,0⟩ ⟨none,0,0⟩):=
 OT.mk (k:=0) (s:=⟨#[]⟩) (ks:=[]) (xs:=[]) (sk:=⟨none,0,0⟩) (si:=⟨none,0,0⟩) (bk:=[]) (bb:=[]) (b:=0) (cs:=#[]) (bf:=λ_=>[]) ⟨rfl,by simp,by simp,.inl ⟨rfl,rfl,rfl⟩⟩ ⟨rfl,by simp,by simp⟩ (.inl ⟨rfl,rfl,rfl⟩) (λi hi=>absurd hi (by simp)) (by simp)
end
section
def But(bs:List Nat)(h h':za):Prop:=h.size<=h'.size/\∀i,i<h.size->i∉bs->h'[i]?=h[i]?
theorem But.refl(bs:List Nat)(h:za):But bs h h:=⟨Ad _,λ_ _ _=>rfl⟩
theorem But.trans{bs:List Nat}{a b c:za}(x:But bs a b)(y:But bs b c):But bs a c:=⟨D6 x.1 y.1,λi hi hn=>(y.2 i (by have:=x.1;omega) hn).trans (x.2 i hi hn)⟩
end
end Go.X
end
section
namespace Go.X
open Go Go.X Go.Proofs Go.RowKit
section
theorem z8k:Qq [32,91,49,46,48,44,32,34,92,117,48,48,54,49,34,93,32]=(.mk 5 (bl []) [] [.mk 3 (bl [49]) [] [],.mk 4 (bl [97]) [] []],17,0):=by kernel_rfl
theorem zq2:ju [123,34,97,34,58,91,49,44,50,93,125]=(([123,34,97,34,58,91,49,44,50,93,125],[(6,(0,11),(0,0),[1],[(1,10)]),(5,(5,10),(1,4),[2,3],[(6,7),(8,9)]),(3,(6,7),(0,0),[],[]),(3,(8,9),(0,0),[],[])]),11,0):=by kernel_rfl
end
end Go.X
end
section
namespace Go.X
section
theorem qey:ye (zn (Lib.itoa 1)).1=[49]:=by kernel_rfl
theorem z2n{l:List Bt}(h:l.length<=1000000)(h2:∀x∈l,x.size<=1048576):SL l:=⟨h,λx hx=>by rw[zgp];exact h2 x hx⟩
end
section
theorem zbi(h:za)(R:Value->za->Prop)
  (H:XC Tp 15 #[.string (⟨#[32,91,49,46,48,44,32,34,92,117,48,48,54,49,34,93,32]⟩:Bt)] h (λb c=>∃d e f g i j,b=.tuple #[.agg #[.int .i64 d,.string e,slV f,slV g],.int .i64 i,.int .i64 j]/\let k:=c.push (.cells #[.int .i64 0,.string (⟨#[]⟩:Bt),.slice none 0 0,.slice none 0 0] 26);XRunU Tp (An 26 (.pointer (some ⟨c.size,0,none⟩)) (.agg #[.int .i64 d,.string e,slV f,slV g])) k (λl=>XC Tp 19 #[.string (⟨#[123,34,97,34,58,91,49,44,50,93,125]⟩:Bt)] l (λm n=>∃o p q r,m=.tuple #[.agg #[.string o,slV p],.int .i64 q,.int .i64 r]/\let s:=n.push (.cells #[.string (⟨#[]⟩:Bt),.slice none 0 0] 36);XRunU Tp (An 36 (.pointer (some ⟨n.size,0,none⟩)) (.agg #[.string o,slV p])) s (λt=>∃u v,ze t ⟨n.size,0,none⟩ 0 [.string u,slV v]/\let w:=t.push (.cells #[.string (⟨#[97]⟩:Bt),.string (⟨#[49]⟩:Bt)] 9);XC Tp 23 #[.agg #[.string u,slV v],.slice (some ⟨t.size,0,none⟩) 2 2] w (λx y=>∃z A,x=.tuple #[.int .i64 z,.bool A]/\∃B C,ze y ⟨n.size,0,none⟩ 0 [.string B,slV C]/\XC Tp 21 #[.agg #[.string B,slV C],.int .i64 3] y (λD E=>∃F G I J L,D=.tuple #[.agg #[.int .i64 F,.string G,slV I,slV J],.bool L]/\let M:=E.push (.cells #[.int .i64 0,.string (⟨#[]⟩:Bt),.slice none 0 0,.slice none 0 0] 26);XRunU Tp (An 26 (.pointer (some ⟨E.size,0,none⟩)) (.agg #[.int .i64 F,.string G,slV I,slV J])) M (λN=>(∃O P Q S,((bif (j==0)then(i==17)else false)=true->ze N ⟨c.size,0,none⟩ 0 [.int .i64 O,.string P,slV Q,slV S])/\∃T:Value->za->Prop,((bif (j==0)then(i==17)else false)=true->XC Tp 58 #[.int .i64 1] N (λU V=>∃W X Y Z,U=.agg #[.int .i64 W,.string X,slV Y,slV Z]/\T (.agg #[.int .i64 W,.string X,slV Y,slV Z]) V))/\((bif (j==0)then(i==17)else false)=false->∃aa ab ac ad,T (.agg #[.int .i64 aa,.string ab,slV ac,slV ad]) N)/\((bif (j==0)then(i==17)else false)=true->∀ae af,T ae af->∃ag ah ai aj,ae=.agg #[.int .i64 ag,.string ah,slV ai,slV aj])/\∀ak:Int,∀al:Bt,∀am an:Sl,∀ao,T (.agg #[.int .i64 ak,.string al,slV am,slV an]) ao->∃ap:Value->za->Prop,((bif (j==0)then(i==17)else false)=true->XC Tp 28 #[.string (⟨#[97]⟩:Bt)] ao (λaq ar=>∃au av aw ax,aq=.agg #[.int .i64 au,.string av,slV aw,slV ax]/\ap (.agg #[.int .i64 au,.string av,slV aw,slV ax]) ar))/\((bif (j==0)then(i==17)else false)=false->∃ay az aA aB,ap (.agg #[.int .i64 ay,.string az,slV aA,slV aB]) ao)/\((bif (j==0)then(i==17)else false)=true->∀aC aD,ap aC aD->∃aE aF aG aH,aC=.agg #[.int .i64 aE,.string aF,slV aG,slV aH])/\∀aI:Int,∀aJ:Bt,∀aL aM:Sl,∀aN,ap (.agg #[.int .i64 aI,.string aJ,slV aL,slV aM]) aN->∃aO:Value->za->Prop,((bif (j==0)then(i==17)else false)=true->let aP:=aN.push (.cells #[.int .i64 ak,.string al,slV am,slV an,.int .i64 aI,.string aJ,slV aL,slV aM] 26);aO (.slice (some ⟨aN.size,0,none⟩) 2 2) aP)/\((bif (j==0)then(i==17)else false)=false->∃aQ,aO (slV aQ) aN)/\((bif (j==0)then(i==17)else false)=true->∀aS aT,aO aS aT->∃aU,aS=slV aU)/\∀aV:Sl,∀aW,aO (slV aV) aW->∃aX:Value->za->Prop,((bif (j==0)then(i==17)else false)=true->XC Tp 29 #[slV aV] aW (λaY aZ=>∃a0 a1 a2 a3,aY=.agg #[.int .i64 a0,.string a1,slV a2,slV a3]/\aX (.agg #[.int .i64 a0,.string a1,slV a2,slV a3]) aZ))/\((bif (j==0)then(i==17)else false)=false->∃a4 a5 a6 a7,aX (.agg #[.int .i64 a4,.string a5,slV a6,slV a7]) aW)/\((bif (j==0)then(i==17)else false)=true->∀a8 a9,aX a8 a9->∃ba bb bc bd,a8=.agg #[.int .i64 ba,.string bb,slV bc,slV bd])/\∀be:Int,∀bf:Bt,∀bg bh:Sl,∀bi,aX (.agg #[.int .i64 be,.string bf,slV bg,slV bh]) bi->∃bj:Value->za->Prop,((bif (j==0)then(i==17)else false)=true->XC Tp 16 #[.agg #[.int .i64 O,.string P,slV Q,slV S],.agg #[.int .i64 be,.string bf,slV bg,slV bh]] bi (λbk bl=>∃bm,bk=.bool bm/\bj (.bool bm) bl))/\((bif (j==0)then(i==17)else false)=false->∃bn,bj (.bool bn) bi)/\((bif (j==0)then(i==17)else false)=true->∀bo bp,bj bo bp->∃bq,bo=.bool bq)/\∀br:Bool,∀bs,bj (.bool br) bs->∃bt,((bif (bif (bif (bif (bif (bif (j==0)then(i==17)else false)then br else false)then(r==0)else false)then(z==3)else false)then A else false)then L else false)=true->zd bs (Al ⟨E.size,0,none⟩ 1)=some (.string bt))/\R (.bool (bif (bif (bif (bif (bif (bif (bif (j==0)then(i==17)else false)then br else false)then(r==0)else false)then(z==3)else false)then A else false)then L else false)then(bt.toList==(⟨#[50]⟩:Bt).toList)else false)) bs)/\(∃bu:Value->za->Prop,((bif (j==0)then(i==17)else false)=true->XC Tp 58 #[.int .i64 1] N (λbv bw=>∃bx bz bA bB,bv=.agg #[.int .i64 bx,.string bz,slV bA,slV bB]/\bu (.agg #[.int .i64 bx,.string bz,slV bA,slV bB]) bw))/\((bif (j==0)then(i==17)else false)=false->∃bC bD bE bF,bu (.agg #[.int .i64 bC,.string bD,slV bE,slV bF]) N)/\((bif (j==0)then(i==17)else false)=true->∀bG bH,bu bG bH->∃bI bJ bL bM,bG=.agg #[.int .i64 bI,.string bJ,slV bL,slV bM])/\∀bN:Int,∀bO:Bt,∀bP bQ:Sl,∀bS,bu (.agg #[.int .i64 bN,.string bO,slV bP,slV bQ]) bS->(∃bT bU bV bW,((bif (j==0)then(i==17)else false)=true->ze bS ⟨c.size,0,none⟩ 0 [.int .i64 bT,.string bU,slV bV,slV bW])/\∃bX:Value->za->Prop,((bif (j==0)then(i==17)else false)=true->XC Tp 28 #[.string (⟨#[97]⟩:Bt)] bS (λbY bZ=>∃b0 b1 b2 b3,bY=.agg #[.int .i64 b0,.string b1,slV b2,slV b3]/\bX (.agg #[.int .i64 b0,.string b1,slV b2,slV b3]) bZ))/\((bif (j==0)then(i==17)else false)=false->∃b4 b5 b6 b7,bX (.agg #[.int .i64 b4,.string b5,slV b6,slV b7]) bS)/\((bif (j==0)then(i==17)else false)=true->∀b8 b9,bX b8 b9->∃ca cb cc cd,b8=.agg #[.int .i64 ca,.string cb,slV cc,slV cd])/\∀ce:Int,∀cf:Bt,∀cg ch:Sl,∀ci,bX (.agg #[.int .i64 ce,.string cf,slV cg,slV ch]) ci->∃cj:Value->za->Prop,((bif (j==0)then(i==17)else false)=true->let ck:=ci.push (.cells #[.int .i64 bN,.string bO,slV bP,slV bQ,.int .i64 ce,.string cf,slV cg,slV ch] 26);cj (.slice (some ⟨ci.size,0,none⟩) 2 2) ck)/\((bif (j==0)then(i==17)else false)=false->∃cl,cj (slV cl) ci)/\((bif (j==0)then(i==17)else false)=true->∀cm cn,cj cm cn->∃co,cm=slV co)/\∀cp:Sl,∀cq,cj (slV cp) cq->∃cr:Value->za->Prop,((bif (j==0)then(i==17)else false)=true->XC Tp 29 #[slV cp] cq (λcs ct=>∃cu cv cw cx,cs=.agg #[.int .i64 cu,.string cv,slV cw,slV cx]/\cr (.agg #[.int .i64 cu,.string cv,slV cw,slV cx]) ct))/\((bif (j==0)then(i==17)else false)=false->∃cy cz cA cB,cr (.agg #[.int .i64 cy,.string cz,slV cA,slV cB]) cq)/\((bif (j==0)then(i==17)else false)=true->∀cC cD,cr cC cD->∃cE cF cG cH,cC=.agg #[.int .i64 cE,.string cF,slV cG,slV cH])/\∀cI:Int,∀cJ:Bt,∀cL cM:Sl,∀cN,cr (.agg #[.int .i64 cI,.string cJ,slV cL,slV cM]) cN->∃cO:Value->za->Prop,((bif (j==0)then(i==17)else false)=true->XC Tp 16 #[.agg #[.int .i64 bT,.string bU,slV bV,slV bW],.agg #[.int .i64 cI,.string cJ,slV cL,slV cM]] cN (λcP cQ=>∃cS,cP=.bool cS/\cO (.bool cS) cQ))/\((bif (j==0)then(i==17)else false)=false->∃cT,cO (.bool cT) cN)/\((bif (j==0)then(i==17)else false)=true->∀cU cV,cO cU cV->∃cW,cU=.bool cW)/\∀cX:Bool,∀cY,cO (.bool cX) cY->∃cZ,((bif (bif (bif (bif (bif (bif (j==0)then(i==17)else false)then cX else false)then(r==0)else false)then(z==3)else false)then A else false)then L else false)=true->zd cY (Al ⟨E.size,0,none⟩ 1)=some (.string cZ))/\R (.bool (bif (bif (bif (bif (bif (bif (bif (j==0)then(i==17)else false)then cX else false)then(r==0)else false)then(z==3)else false)then A else false)then L else false)then(cZ.toList==(⟨#[50]⟩:Bt).toList)else false)) cY)/\(∃c0:Value->za->Prop,((bif (j==0)then(i==17)else false)=true->XC Tp 28 #[.string (⟨#[97]⟩:Bt)] bS (λc1 c2=>∃c3 c4 c5 c6,c1=.agg #[.int .i64 c3,.string c4,slV c5,slV c6]/\c0 (.agg #[.int .i64 c3,.string c4,slV c5,slV c6]) c2))/\((bif (j==0)then(i==17)else false)=false->∃c7 c8 c9 da,c0 (.agg #[.int .i64 c7,.string c8,slV c9,slV da]) bS)/\((bif (j==0)then(i==17)else false)=true->∀db dc,c0 db dc->∃dd de df dg,db=.agg #[.int .i64 dd,.string de,slV df,slV dg])/\∀dh:Int,∀di:Bt,∀dj dk:Sl,∀dl,c0 (.agg #[.int .i64 dh,.string di,slV dj,slV dk]) dl->(∃dm dn dp dq,((bif (j==0)then(i==17)else false)=true->ze dl ⟨c.size,0,none⟩ 0 [.int .i64 dm,.string dn,slV dp,slV dq])/\∃dr:Value->za->Prop,((bif (j==0)then(i==17)else false)=true->let ds:=dl.push (.cells #[.int .i64 bN,.string bO,slV bP,slV bQ,.int .i64 dh,.string di,slV dj,slV dk] 26);dr (.slice (some ⟨dl.size,0,none⟩) 2 2) ds)/\((bif (j==0)then(i==17)else false)=false->∃dt,dr (slV dt) dl)/\((bif (j==0)then(i==17)else false)=true->∀du dv,dr du dv->∃dw,du=slV dw)/\∀dx:Sl,∀dy,dr (slV dx) dy->∃dz:Value->za->Prop,((bif (j==0)then(i==17)else false)=true->XC Tp 29 #[slV dx] dy (λdA dB=>∃dC dD dE dF,dA=.agg #[.int .i64 dC,.string dD,slV dE,slV dF]/\dz (.agg #[.int .i64 dC,.string dD,slV dE,slV dF]) dB))/\((bif (j==0)then(i==17)else false)=false->∃dG dH dI dJ,dz (.agg #[.int .i64 dG,.string dH,slV dI,slV dJ]) dy)/\((bif (j==0)then(i==17)else false)=true->∀dL dM,dz dL dM->∃dN dO dP dQ,dL=.agg #[.int .i64 dN,.string dO,slV dP,slV dQ])/\∀dS:Int,∀dT:Bt,∀dU dV:Sl,∀dW,dz (.agg #[.int .i64 dS,.string dT,slV dU,slV dV]) dW->∃dX:Value->za->Prop,((bif (j==0)then(i==17)else false)=true->XC Tp 16 #[.agg #[.int .i64 dm,.string dn,slV dp,slV dq],.agg #[.int .i64 dS,.string dT,slV dU,slV dV]] dW (λdY dZ=>∃d0,dY=.bool d0/\dX (.bool d0) dZ))/\((bif (j==0)then(i==17)else false)=false->∃d1,dX (.bool d1) dW)/\((bif (j==0)then(i==17)else false)=true->∀d2 d3,dX d2 d3->∃d4,d2=.bool d4)/\∀d5:Bool,∀d6,dX (.bool d5) d6->∃d7,((bif (bif (bif (bif (bif (bif (j==0)then(i==17)else false)then d5 else false)then(r==0)else false)then(z==3)else false)then A else false)then L else false)=true->zd d6 (Al ⟨E.size,0,none⟩ 1)=some (.string d7))/\R (.bool (bif (bif (bif (bif (bif (bif (bif (j==0)then(i==17)else false)then d5 else false)then(r==0)else false)then(z==3)else false)then A else false)then L else false)then(d7.toList==(⟨#[50]⟩:Bt).toList)else false)) d6)/\(∃d8:Value->za->Prop,((bif (j==0)then(i==17)else false)=true->let d9:=dl.push (.cells #[.int .i64 bN,.string bO,slV bP,slV bQ,.int .i64 dh,.string di,slV dj,slV dk] 26);d8 (.slice (some ⟨dl.size,0,none⟩) 2 2) d9)/\((bif (j==0)then(i==17)else false)=false->∃ea,d8 (slV ea) dl)/\((bif (j==0)then(i==17)else false)=true->∀eb ec,d8 eb ec->∃ed,eb=slV ed)/\∀ee:Sl,∀ef,d8 (slV ee) ef->(∃eg eh ei ej,((bif (j==0)then(i==17)else false)=true->ze ef ⟨c.size,0,none⟩ 0 [.int .i64 eg,.string eh,slV ei,slV ej])/\∃ek:Value->za->Prop,((bif (j==0)then(i==17)else false)=true->XC Tp 29 #[slV ee] ef (λel em=>∃en eo ep eq,el=.agg #[.int .i64 en,.string eo,slV ep,slV eq]/\ek (.agg #[.int .i64 en,.string eo,slV ep,slV eq]) em))/\((bif (j==0)then(i==17)else false)=false->∃er es et eu,ek (.agg #[.int .i64 er,.string es,slV et,slV eu]) ef)/\((bif (j==0)then(i==17)else false)=true->∀ev ew,ek ev ew->∃ex ey ez eA,ev=.agg #[.int .i64 ex,.string ey,slV ez,slV eA])/\∀eB:Int,∀eC:Bt,∀eD eE:Sl,∀eF,ek (.agg #[.int .i64 eB,.string eC,slV eD,slV eE]) eF->∃eG:Value->za->Prop,((bif (j==0)then(i==17)else false)=true->XC Tp 16 #[.agg #[.int .i64 eg,.string eh,slV ei,slV ej],.agg #[.int .i64 eB,.string eC,slV eD,slV eE]] eF (λeH eI=>∃eJ,eH=.bool eJ/\eG (.bool eJ) eI))/\((bif (j==0)then(i==17)else false)=false->∃eL,eG (.bool eL) eF)/\((bif (j==0)then(i==17)else false)=true->∀eM eN,eG eM eN->∃eO,eM=.bool eO)/\∀eP:Bool,∀eQ,eG (.bool eP) eQ->∃eS,((bif (bif (bif (bif (bif (bif (j==0)then(i==17)else false)then eP else false)then(r==0)else false)then(z==3)else false)then A else false)then L else false)=true->zd eQ (Al ⟨E.size,0,none⟩ 1)=some (.string eS))/\R (.bool (bif (bif (bif (bif (bif (bif (bif (j==0)then(i==17)else false)then eP else false)then(r==0)else false)then(z==3)else false)then A else false)then L else false)then(eS.toList==(⟨#[50]⟩:Bt).toList)else false)) eQ)/\(∃eT:Value->za->Prop,((bif (j==0)then(i==17)else false)=true->XC Tp 29 #[slV ee] ef (λeU eV=>∃eW eX eY eZ,eU=.agg #[.int .i64 eW,.string eX,slV eY,slV eZ]/\eT (.agg #[.int .i64 eW,.string eX,slV eY,slV eZ]) eV))/\((bif (j==0)then(i==17)else false)=false->∃e0 e1 e2 e3,eT (.agg #[.int .i64 e0,.string e1,slV e2,slV e3]) ef)/\((bif (j==0)then(i==17)else false)=true->∀e4 e5,eT e4 e5->∃e6 e7 e8 e9,e4=.agg #[.int .i64 e6,.string e7,slV e8,slV e9])/\∀fa:Int,∀fb:Bt,∀fc fd:Sl,∀fe,eT (.agg #[.int .i64 fa,.string fb,slV fc,slV fd]) fe->∃ff fg fh fi,((bif (j==0)then(i==17)else false)=true->ze fe ⟨c.size,0,none⟩ 0 [.int .i64 ff,.string fg,slV fh,slV fi])/\∃fj:Value->za->Prop,((bif (j==0)then(i==17)else false)=true->XC Tp 16 #[.agg #[.int .i64 ff,.string fg,slV fh,slV fi],.agg #[.int .i64 fa,.string fb,slV fc,slV fd]] fe (λfk fl=>∃fm,fk=.bool fm/\fj (.bool fm) fl))/\((bif (j==0)then(i==17)else false)=false->∃fn,fj (.bool fn) fe)/\((bif (j==0)then(i==17)else false)=true->∀fo fp,fj fo fp->∃fq,fo=.bool fq)/\∀fr:Bool,∀fs,fj (.bool fr) fs->∃ft,((bif (bif (bif (bif (bif (bif (j==0)then(i==17)else false)then fr else false)then(r==0)else false)then(z==3)else false)then A else false)then L else false)=true->zd fs (Al ⟨E.size,0,none⟩ 1)=some (.string ft))/\R (.bool (bif (bif (bif (bif (bif (bif (bif (j==0)then(i==17)else false)then fr else false)then(r==0)else false)then(z==3)else false)then A else false)then L else false)then(ft.toList==(⟨#[50]⟩:Bt).toList)else false)) fs)))))))))))):
  XC Tp 13 #[] h R:=
 XF ⟨[(5,8000)],[],[]⟩ [.tmp 0] 65 Tryz.func13 H
end
section
theorem zq3(gl:Fr)(Z:Bt)(R:Tr->Prop)
  (H:R (Tr.mk 4 Z [] [])):
  PC Tp gl 28 [Arg.mk .str Z] [.tree] R:=
 PF ⟨[],[],[],[]⟩ [.cell 2 26] 5 Tryz.func28 H
end
end Go.X
end
section
namespace Go.X
open Go Go.X Go.Proofs Go.RowKit
section
variable {k k':Int} {s s':Bt} {a b a' b':Sl} {f:FuncId} {args:Array Value} {h:za} {g:Bool} {M:Fr}
def trV(k:Int)(s:Bt)(a b:Sl):Value:=.agg #[.int .i64 k,.string s,slV a,slV b]
theorem z8l(h:trV k s a b=trV k' s' a' b'):k=k'/\s=s'/\a=a'/\b=b':=by
 unfold trV slV at h
 injection h with h
 simp only[Array.mk.injEq,Bu,and_true]at h
 obtain⟨h1,h2,h3,h4⟩:=h
 injection h1 with _ h1
 injection h2 with h2
 injection h3 with e1 e2 e3
 injection h4 with f1 f2 f3
 refine⟨h1,h2,?_,?_⟩
 ·cases a;cases a';simp_all
 ·cases b;cases b';simp_all
theorem zac(hg:g=true){Kt:Int->Bt->Sl->Sl->za->Prop}(E:XC Tp f args h λv h'=>∃k s a b,v=trV k s a b/\Kt k s a b h'):
  ∃J:Value->za->Prop,(g=true->XC Tp f args h λv h'=>∃k:Int,∃s:Bt,∃a:Sl,∃b:Sl,v=trV k s a b/\J (trV k s a b) h')/\(g=false->∃k:Int,∃s:Bt,∃a:Sl,∃b:Sl,J (trV k s a b) h) /\
   (g=true->∀v h',J v h'->∃k:Int,∃s:Bt,∃a:Sl,∃b:Sl,v=trV k s a b)/\∀k:Int,∀s:Bt,∀a:Sl,∀b:Sl,∀h',J (trV k s a b) h'->Kt k s a b h':=by
 refine⟨λv h'=>∃k s a b,v=trV k s a b/\Kt k s a b h',λ_=>XC.mono E λv h' ⟨k,s,a,b,e,H⟩=>⟨k,s,a,b,e,k,s,a,b,rfl,H⟩,λhx=>(by rw[hg]at hx;cases hx),λ_ v h' ⟨k,s,a,b,e,_⟩=>⟨k,s,a,b,e⟩,λk s a b h' ⟨k',s',a',b',e,H⟩=>?_⟩
 obtain⟨rfl,rfl,rfl,rfl⟩:=z8l e
 exact H
theorem zow(hg:g=true){Kt:Bool->za->Prop}(E:XC Tp f args h λv h'=>∃r,v=.bool r/\Kt r h'):
  ∃J:Value->za->Prop,(g=true->XC Tp f args h λv h'=>∃r:Bool,v=.bool r/\J (.bool r) h')/\(g=false->∃r:Bool,J (.bool r) h)/\(g=true->∀v h',J v h'->∃r:Bool,v=.bool r)/\∀r:Bool,∀h',J (.bool r) h'->Kt r h':=by
 refine⟨λv h'=>∃r,v=.bool r/\Kt r h',λ_=>XC.mono E λv h' ⟨r,e,H⟩=>⟨r,e,r,rfl,H⟩,λhx=>(by rw[hg]at hx;cases hx),λ_ v h' ⟨r,e,_⟩=>⟨r,e⟩,λr h' ⟨r',e,H⟩=>?_⟩
 injection e with e
 subst e;exact H
theorem z2o{h h1:za}{s:Sl}(hg:g=true){Kt:Sl->za->Prop}(E:Kt s h1):
  ∃J:Value->za->Prop,(g=true->J (slV s) h1)/\(g=false->∃x:Sl,J (slV x) h)/\(g=true->∀v h',J v h'->∃x:Sl,v=slV x)/\∀x:Sl,∀h',J (slV x) h'->Kt x h':=by
 refine⟨λv h'=>∃x,v=slV x/\Kt x h',λ_=>⟨s,rfl,E⟩,λhx=>(by rw[hg]at hx;cases hx),λ_ v h' ⟨x,e,_⟩=>⟨x,e⟩,λx h' ⟨x',e,H⟩=>?_⟩
 have:x=x':=by
  unfold slV at e
  injection e with e1 e2 e3
  cases x;cases x';simp_all
 subst this;exact H
theorem qdw{b:Nat}(hb:M b=none){t1 t2:Tr}{w1 w2:List Value}(h1:Rd M .tree t1 w1)(h2:Rd M .tree t2 w2)(l1:w1.length=4)(l2:w2.length=4):Rd (Mx M b (w1++w2).toArray) (.row .tree) [t1,t2] [slV ⟨some ⟨b,0,none⟩,2,2⟩]:=by
 have le:Fr.le M (Mx M b (w1++w2).toArray):=λc cs e=>by
  unfold Mx
  by_cases hc:c=b
  ·subst hc;rw[hb]at e;cases e
  ·rw[if_neg hc];exact e
 refine⟨_,rfl,_,_,rfl,by simp,.inr ⟨b,0,_,rfl,by unfold Mx;rw[if_pos rfl],λi hi=>?_⟩⟩
 have hi:i<2:=hi
 rcases(by omega:i=0\/i=1)with rfl|rfl
 ·have:cut (w1++w2).toArray (0+0*sz .tree) (sz .tree)=w1:=by
   show List.take 4 (List.drop 0 (w1++w2))=w1
   rw[BQ,<-l1,DJ]
  rw[this];exact Rd.mono le h1
 ·have:cut (w1++w2).toArray (0+1*sz .tree) (sz .tree)=w2:=by
   show List.take 4 (List.drop 4 (w1++w2))=w2
   rw[List.drop_left' l1,<-l2,Bb]
  rw[this];exact Rd.mono le h2
theorem qdx{b:Nat}{s1 s2:Bt}:Rd (Mx M b #[.string s1,.string s2]) (.row .str) [s1,s2] [slV ⟨some ⟨b,0,none⟩,2,2⟩]:=by
 refine⟨_,rfl,_,_,rfl,by simp,.inr ⟨b,0,_,rfl,by unfold Mx;rw[if_pos rfl],λi hi=>?_⟩⟩
 have hi:i<2:=hi
 rcases(by omega:i=0\/i=1)with rfl|rfl <;> rfl
theorem zzg{b:Bool}{w:Value}(h:RdV M .bool b w):w=.bool b:=by
 rw[zp0 rfl]at h;simpa[Rd]using h
theorem zzh{T:Tr}(h:RdV M .tree T (trV k s a b)):Rd M .tree T [.int .i64 k,.string s,slV a,slV b]:=by
 unfold RdV at h
 simp only[zhf,if_true]at h
 obtain⟨cs,e,hr⟩:=h
 unfold trV at e
 injection e with e
 have:cs=[.int .i64 k,.string s,slV a,slV b]:=by have:=congrArg Array.toList e;simpa using this.symm
 rw[<-this];exact hr
def smA:Tr:=.mk 5 (bl []) [] [.mk 3 (bl [49]) [] [],.mk 4 (bl [97]) [] []]
structure Cx (gl:Fr) (b2 b29:Nat) (k2 k29:Int) (s2:Bt) (a2 c2 a29 c29:Sl) (h:za) (M:Fr):Prop where
 hM:Fr.le gl M
 ag:AgM M h
 V:Blk h b2 #[.int .i64 k2,.string s2,slV a2,slV c2]
 rv:RdV M .tree smA (trV k2 s2 a2 c2)
 X:Blk h b29 #[.int .i64 k29,.string (bl [50]),slV a29,slV c29]
section
variable {gl : Fr} {b2 b29 : Nat} {k2 k29 : Int} {s2 : Bt} {a2 c2 a29 c29 : Sl} {h : za} {M : Fr}
theorem Cx.later(c:Cx gl b2 b29 k2 k29 s2 a2 c2 a29 c29 h M){h':za}{M':Fr}(L:Later h M h' M'):Cx gl b2 b29 k2 k29 s2 a2 c2 a29 c29 h' M':=
 ⟨c.hM.trans L.le,L.ag,c.V.keep (L.keep.get b2 c.V.lt),RdV.mono L.le c.rv,c.X.keep (L.keep.get b29 c.X.lt)⟩
theorem Cx.num(c:Cx gl b2 b29 k2 k29 s2 a2 c2 a29 c29 h M)(hg:GL gl){K:Int->Bt->Sl->Sl->za->Prop}(hK:∀k s a b h' M',Later h M h' M'->RdV M' .tree (.mk 3 (bl [49]) [] []) (trV k s a b)->K k s a b h'):XC Tp 58 #[.int .i64 1] h λv h'=>∃k s a b,v=trV k s a b/\K k s a b h':=by
 refine(qax hg (n:=1) (by decide) (by decide) (R:=λr=>r=.mk 3 (bl [49]) [] []) (by rw[qey])).go c.hM c.ag (jc (a:=Arg.mk (.int .i64) 1) (Xv _ _) xb) λv h' M' r L hv hr=>?_
 subst hr
 have rv:=zjd.1 hv
 obtain⟨a,b,rfl,_⟩:=Yp rv
 exact⟨_,_,a,b,rfl,hK _ _ _ _ _ _ L rv⟩
theorem Cx.of(c:Cx gl b2 b29 k2 k29 s2 a2 c2 a29 c29 h M){K:Int->Bt->Sl->Sl->za->Prop}(hK:∀k s a b h' M',Later h M h' M'->RdV M' .tree (.mk 4 (bl [97]) [] []) (trV k s a b)->K k s a b h'):XC Tp 28 #[.string ⟨#[97]⟩] h λv h'=>∃k s a b,v=trV k s a b/\K k s a b h':=by
 refine(show PC Tp gl 28 [Arg.mk .str ⟨#[97]⟩] [.tree] (λr=>r=.mk 4 (bl [97]) [] [])from by apply zq3;rfl).go c.hM c.ag (jc (a:=Arg.mk .str _) (rdStr _) xb) λv h' M' r L hv hr=>?_
 subst hr
 have rv:=zjd.1 hv
 obtain⟨a,b,rfl,_⟩:=Yp rv
 exact⟨_,_,a,b,rfl,hK _ _ _ _ _ _ L rv⟩
theorem Cx.row(c:Cx gl b2 b29 k2 k29 s2 a2 c2 a29 c29 h M){x:Sl}(hx:Rd M (.row .tree) [.mk 3 (bl [49]) [] [],.mk 4 (bl [97]) [] []] [slV x]){K:Int->Bt->Sl->Sl->za->Prop}(hK:∀k s a b h' M',Later h M h' M'->RdV M' .tree smA (trV k s a b)->K k s a b h'):XC Tp 29 #[slV x] h λv h'=>∃k s a b,v=trV k s a b/\K k s a b h':=by
 refine(qaw (gl:=gl) (l:=[.mk 3 (bl [49]) [] [],.mk 4 (bl [97]) [] []]) (R:=λr=>r=smA) rfl).go c.hM c.ag (jc (a:=Arg.mk (.row .tree) _) ((zp0 rfl).2 hx) xb) λv h' M' r L hv hr=>?_
 subst hr
 have rv:=zjd.1 hv
 obtain⟨a,b,rfl,_⟩:=Yp rv
 exact⟨_,_,a,b,rfl,hK _ _ _ _ _ _ L rv⟩
theorem Cx.eq(c:Cx gl b2 b29 k2 k29 s2 a2 c2 a29 c29 h M)(hx:RdV M .tree smA (trV k s a b)){K:Bool->za->Prop}(hK:∀h' M',Later h M h' M'->K true h'):XC Tp 16 #[trV k2 s2 a2 c2,trV k s a b] h λv h'=>∃r,v=.bool r/\K r h':=by
 refine(zsn (gl:=gl) smA smA (R:=λr=>r=true) λr hr=>hr.2 rfl).go c.hM c.ag (jc (a:=Arg.mk .tree _) c.rv (jc (a:=Arg.mk .tree _) hx xb)) λv h' M' r L hv hr=>?_
 have hr:r=true:=hr
 subst hr
 exact⟨true,zr2 hv,hK _ _ L⟩
theorem Cx.lit(c:Cx gl b2 b29 k2 k29 s2 a2 c2 a29 c29 h M){T:TypeId}(h1:RdV M .tree (.mk 3 (bl [49]) [] []) (trV k s a b))(h2:RdV M .tree (.mk 4 (bl [97]) [] []) (trV k' s' a' b')):
  ∃M',Later h M (h.push (.cells #[.int .i64 k,.string s,slV a,slV b,.int .i64 k',.string s',slV a',slV b'] T)) M'/\Rd M' (.row .tree) [.mk 3 (bl [49]) [] [],.mk 4 (bl [97]) [] []] [slV ⟨some ⟨h.size,0,none⟩,2,2⟩]:=by
 refine⟨_,Later.frz c.ag _ T,qdw (w1:=[_,_,_,_]) (w2:=[_,_,_,_]) ?_ (zzh h1) (zzh h2) rfl rfl⟩
 cases e:M h.size with
 |none=>rfl
 |some cs=>have:=c.ag.lt e;omega
end
def tb9:Bs:=[123,34,97,34,58,91,49,44,50,93,125]
def ns9:List Nd:=[(6,(0,11),(0,0),[1],[(1,10)]),(5,(5,10),(1,4),[2,3],[(6,7),(8,9)]),(3,(6,7),(0,0),[],[]),(3,(8,9),(0,0),[],[])]
theorem at9:atR tb9 ns9 [⟨#[97]⟩,⟨#[49]⟩]=(3,true):=by kernel_rfl
theorem nd9:zy6 tb9 ns9 3=(.mk 3 (bl [50]) [] [],true):=by kernel_rfl
theorem qdy{t:Bs}{nodes:List Nd}{sl:Sl}(h:Rd M (.row tNd) nodes [slV sl]):RdV M zqt (bl t,nodes) (.agg #[.string (bl t),slV sl]):=⟨[.string (bl t),slV sl],rfl,[_],[_],rfl,rfl,h⟩
set_option maxRecDepth 100000 in
set_option maxHeartbeats 4000000 in
theorem zzi{gl:Fr}(hg:GL gl):PC Tp gl 13 [] [.bool] (λr=>r=true):=by
 intro h M vs hM ag ha
 match vs,ha with
 |[],_=>
 apply PX.of
 apply zbi
 refine(zq1 hg (s:=[32,91,49,46,48,44,32,34,92,117,48,48,54,49,34,93,32]) (R:=λr=>r=(smA,17,0)) z8k).go hM ag (jc (a:=Arg.mk .str _) (rdStr _) xb) λv1 h2 M2 r L2 hv hr=>?_
 subst hr
 obtain⟨_,⟨u1,_,rfl,hx,u2,_,rfl,hy,u3,rfl,hz⟩,rfl⟩:=hv
 obtain⟨sk,si,rfl,_⟩:=Yp hx
 obtain rfl:=yo hy
 obtain rfl:=yo hz
 refine⟨_,_,sk,si,_,_,rfl,?_⟩
 have aY:=hM.trans L2.le
 intro h9
 have k9:Keep h2.size h2 h9:=Keep.push _ _ (Ad _)
 have z9:h9.size=h2.size+1:=Ak _
 have V9:Blk h9 h2.size #[.int .i64 0,.string ⟨#[]⟩,.slice none 0 0,.slice none 0 0]:=Blk.new _ _ _
 clear_value h9
 refine zdx V9 λbY bU cE bG=>?_
 have bD:Keep h2.size h2 bY:=⟨by omega,λj hj=>(bU j (by omega)).trans (k9.get j hj)⟩
 have ai:=Later.same L2.ag bD
 refine(zhb hg (s:=tb9) (R:=λr=>r=((bl tb9,ns9),11,0)) (by rw[show ju tb9=_ from zq2];rfl)).go aY ai.ag (jc (a:=Arg.mk .str _) (rdStr _) xb) λv ab an r aa hv hr=>?_
 subst hr
 obtain⟨sl,rfl,rd⟩:=qbk (x:=(tb9,ns9)) hv
 refine⟨_,sl,_,_,rfl,?_⟩
 have cd:=aa.keep.size
 have bL:=bG.keep (aa.keep.get h2.size (by omega))
 have az:=aY.trans aa.le
 intro am
 have bB:Keep ab.size ab am:=Keep.push _ _ (Ad _)
 have cV:am.size=ab.size+1:=Ak _
 have bo:Blk am ab.size #[.string ⟨#[]⟩,.slice none 0 0]:=Blk.new _ _ _
 clear_value am
 refine zcq (u:=bl tb9) (v:=sl) bo λau cc cZ aV=>?_
 have aF:Keep ab.size ab au:=⟨by omega,λj hj=>(cc j (by omega)).trans (bB.get j hj)⟩
 have bz:=bL.keep (aF.get h2.size (by omega))
 refine⟨_,sl,aV.ld (cs:=[.string _,slV sl]),?_⟩
 intro ar
 have Z:Later au an ar (Mx an au.size #[.string ⟨#[97]⟩,.string ⟨#[49]⟩]):=Later.frz (aa.ag.keep aF) _ _
 have c8:ar.size=au.size+1:=Ak _
 clear_value ar
 have br:=aV.keep (Z.keep.get ab.size (by omega))
 have bT:=bz.keep (Z.keep.get h2.size (by omega))
 have he:(ju tb9).2.2=0:=by rw[show ju tb9=_ from zq2]
 obtain⟨lvs,G,_,_,_,_⟩:=zck he
 have b8:(ju tb9).1.2=ns9:=by rw[show ju tb9=_ from zq2];rfl
 rw[b8]at G
 have a8:∀x∈ns9,x.2.2.2.1.length<=200000:=by decide
 have aP:∀{M':Fr},Fr.le an M'->RdV M' zqt (bl tb9,ns9) (.agg #[.string (bl tb9),slV sl]):=λle=>qdy (rd.mono le)
 refine(qbn hg (t:=tb9) (by decide) G (λ_=>rfl) a8 (p:=[⟨#[97]⟩,⟨#[49]⟩]) (z2n (by decide) (by decide)) (R:=λr=>r=(3,true)) at9).go (az.trans Z.le) Z.ag (jc (a:=Arg.mk zqt _) (aP Z.le) (jc (a:=Arg.mk (.row .str) _) ((zp0 rfl).2 qdx) xb)) λv dw di r ae hv hr=>?_
 subst hr
 obtain⟨_,⟨u1,_,rfl,aE,u2,rfl,aJ⟩,rfl⟩:=hv
 obtain rfl:=yo aE
 obtain rfl:=zzg aJ
 refine⟨_,_,rfl,?_⟩
 have cy:=ae.keep.size
 have bm:=br.keep (ae.keep.get ab.size (by omega))
 have bE:=bT.keep (ae.keep.get h2.size (by omega))
 have aB:=(az.trans Z.le).trans ae.le
 refine⟨_,sl,bm.ld (cs:=[.string _,slV sl]),?_⟩
 refine(zy7 hg (t:=tb9) (by decide) G a8 (k:=3) (R:=λr=>r=(.mk 3 (bl [50]) [] [],true)) nd9).go aB ae.ag (jc (a:=Arg.mk zqt _) (aP (Z.le.trans ae.le)) (jc (a:=Arg.mk (.int .i64) 3) (Xv _ _) xb)) λv af aI r ah hv hr=>?_
 subst hr
 obtain⟨_,⟨u1,_,rfl,aE,u2,rfl,aJ⟩,rfl⟩:=hv
 obtain⟨xk,xi,rfl,_⟩:=Yp aE
 obtain rfl:=zzg aJ
 refine⟨_,_,xk,xi,_,rfl,?_⟩
 have cn:=ah.keep.size
 have bA:=bE.keep (ah.keep.get h2.size (by omega))
 have aQ:=aB.trans ah.le
 intro ay
 have bO:Keep af.size af ay:=Keep.push _ _ (Ad _)
 have dm:ay.size=af.size+1:=Ak _
 have bq:Blk ay af.size #[.int .i64 0,.string ⟨#[]⟩,.slice none 0 0,.slice none 0 0]:=Blk.new _ _ _
 clear_value ay
 refine zdx bq λax bV dv bC=>?_
 have aU:Keep af.size af ax:=⟨by omega,λj hj=>(bV j (by omega)).trans (bO.get j hj)⟩
 have bF:=bA.keep (aU.get h2.size (by omega))
 have bj:Later h M ab an:=L2.trans (ai.trans aa)
 have aA:Later h M ax aI:=bj.trans ((Later.same aa.ag aF).trans (Z.trans (ae.trans (ah.trans (Later.same ah.ag aU)))))
 have c:Cx gl h2.size af.size _ _ _ sk si xk xi ax aI:=⟨aQ,aA.ag,bF,RdV.mono (aa.le.trans (Z.le.trans (ae.le.trans ah.le))) hx,bC⟩
 have hR:∀{h':za} {M':Fr},Later ax aI h' M'->∃M' r,Later h M h' M'/\zcu M' [.bool] r (.bool true)/\r=true:=λL=>⟨_,true,aA.trans L,zjd.2 (rdBool true),rfl⟩
 refine⟨?_,?_⟩
 ·refine⟨_,_,_,_,λ_=>c.V.ld (cs:=[_,_,slV _,slV _]),?_⟩
  refine zac rfl (c.num hg λk2 s2 a2 b2 h2 M2 L2 q2=>?_)
  have c2:=c.later L2
  refine zac rfl (c2.of λk3 s3 a3 b3 h3 M3 L3 q3=>?_)
  have c3:=c2.later L3
  have bu:=RdV.mono L3.le q2
  obtain⟨M4,L4,q4⟩:=c3.lit (T:=26) bu q3
  have c4:=c3.later L4
  refine z2o (s:=⟨some ⟨_,0,none⟩,2,2⟩) rfl ?_
  refine zac rfl (c4.row q4 λk5 s5 a5 b5 h5 M5 L5 q5=>?_)
  have c5:=c4.later L5
  refine zow rfl (c5.eq q5 λh6 M6 L6=>?_)
  have c6:=c5.later L6
  refine⟨⟨#[50]⟩,λ_=>c6.X.cell (o:=1) rfl,?_⟩
  simp only[beq_self_eq_true,cond_true]
  exact hR (L2.trans (L3.trans (L4.trans (L5.trans (L6)))))
 ·refine zac rfl (c.num hg λk7 s7 a7 b7 h7 M7 L7 q7=>?_)
  have c7:=c.later L7
  refine⟨?_,?_⟩
  ·refine⟨_,_,_,_,λ_=>c7.V.ld (cs:=[_,_,slV _,slV _]),?_⟩
   refine zac rfl (c7.of λk9 s9 a9 b9 h9 M9 L9 q9=>?_)
   have c9:=c7.later L9
   have bS:=RdV.mono L9.le q7
   obtain⟨cC,ai,bI⟩:=c9.lit (T:=26) bS q9
   have aN:=c9.later ai
   refine z2o (s:=⟨some ⟨_,0,none⟩,2,2⟩) rfl ?_
   refine zac rfl (aN.row bI λcg cz cm co dr ck bg bP=>?_)
   have aZ:=aN.later bg
   refine zow rfl (aZ.eq bP λab an aa=>?_)
   have ca:=aZ.later aa
   refine⟨⟨#[50]⟩,λ_=>ca.X.cell (o:=1) rfl,?_⟩
   simp only[beq_self_eq_true,cond_true]
   exact hR (L7.trans (L9.trans (ai.trans (bg.trans (aa)))))
  ·refine zac rfl (c7.of λcF dA cL cP db dy aj bh=>?_)
   have ak:=c7.later aj
   have aC:=RdV.mono aj.le q7
   refine⟨?_,?_⟩
   ·refine⟨_,_,_,_,λ_=>ak.V.ld (cs:=[_,_,slV _,slV _]),?_⟩
    obtain⟨df,be,cb⟩:=ak.lit (T:=26) aC bh
    have aL:=ak.later be
    refine z2o (s:=⟨some ⟨_,0,none⟩,2,2⟩) rfl ?_
    refine zac rfl (aL.row cb λcq cB cj cG cJ dt aO bZ=>?_)
    have aM:=aL.later aO
    refine zow rfl (aM.eq bZ λam dx ba=>?_)
    have bQ:=aM.later ba
    refine⟨⟨#[50]⟩,λ_=>bQ.X.cell (o:=1) rfl,?_⟩
    simp only[beq_self_eq_true,cond_true]
    exact hR (L7.trans (aj.trans (be.trans (aO.trans (ba)))))
   ·obtain⟨cp,aH,a6⟩:=ak.lit (T:=26) aC bh
    have ap:=ak.later aH
    refine z2o (s:=⟨some ⟨_,0,none⟩,2,2⟩) rfl ?_
    refine⟨?_,?_⟩
    ·refine⟨_,_,_,_,λ_=>ap.V.ld (cs:=[_,_,slV _,slV _]),?_⟩
     refine zac rfl (ap.row a6 λcY du cA da de dh aS bJ=>?_)
     have bi:=ap.later aS
     refine zow rfl (bi.eq bJ λar dl Z=>?_)
     have bM:=bi.later Z
     refine⟨⟨#[50]⟩,λ_=>bM.X.cell (o:=1) rfl,?_⟩
     simp only[beq_self_eq_true,cond_true]
     exact hR (L7.trans (aj.trans (aH.trans (aS.trans (Z)))))
    ·refine zac rfl (ap.row a6 λcO cQ dq cH cu dz a1 bH=>?_)
     have aG:=ap.later a1
     refine⟨_,_,_,_,λ_=>aG.V.ld (cs:=[_,_,slV _,slV _]),?_⟩
     refine zow rfl (aG.eq bH λcT cM aT=>?_)
     have bn:=aG.later aT
     refine⟨⟨#[50]⟩,λ_=>bn.X.cell (o:=1) rfl,?_⟩
     simp only[beq_self_eq_true,cond_true]
     exact hR (L7.trans (aj.trans (aH.trans (a1.trans (aT)))))
end
end Go.X
end
section
namespace Go.X
section
theorem J0(gl:Fr)(s0:Bt)(Z:List Bt)(R:Bool->Prop)
  (H:PC Tp gl 13 [] [.bool] (λa:Bool=>PC Tp gl 18 [Arg.mk (.row .str) Z] [.bool] (λb:Bool=>((bif (decide ((s0.size:Int)>4096))then true else(!b))=true->R a)/\((bif (decide ((s0.size:Int)>4096))then true else(!b))=false->PC Tp gl 19 [Arg.mk .str s0] [.pair .str (.row (.pair (.int .i64) (.pair (.pair (.int .i64) (.int .i64)) (.pair (.pair (.int .i64) (.int .i64)) (.pair (.row (.int .i64)) (.row (.pair (.int .i64) (.int .i64)))))))),.int .i64,.int .i64] (λc:(Bt×List (Int×(Int×Int)×(Int×Int)×(List Int)×List (Int×Int)))×Int×Int=>PC Tp gl 15 [Arg.mk .str s0] [.tree,.int .i64,.int .i64] (λd:Tr×Int×Int=>((c.2.2 != 0)=true->R (bif a then(d.2.2==c.2.2)else false))/\((c.2.2 != 0)=false->PC Tp gl 23 [Arg.mk (.pair .str (.row (.pair (.int .i64) (.pair (.pair (.int .i64) (.int .i64)) (.pair (.pair (.int .i64) (.int .i64)) (.pair (.row (.int .i64)) (.row (.pair (.int .i64) (.int .i64))))))))) (c.1.1,c.1.2),Arg.mk (.row .str) Z] [.int .i64,.bool] (λe:Int×Bool=>PC Tp gl 30 [Arg.mk .tree (Tr.mk d.1.kind d.1.text d.1.keys d.1.items),Arg.mk (.row .str) Z] [.tree,.bool] (λf:Tr×Bool=>((!e.2)=true->R (bif (bif a then(!f.2)else false)then(e.1==0)else false))/\((!e.2)=false->((bif (decide (e.1<0))then true else(decide (e.1>=c.1.2.length)))=true->R false)/\((bif (decide (e.1<0))then true else(decide (e.1>=c.1.2.length)))=false->PC Tp gl 21 [Arg.mk (.pair .str (.row (.pair (.int .i64) (.pair (.pair (.int .i64) (.int .i64)) (.pair (.pair (.int .i64) (.int .i64)) (.pair (.row (.int .i64)) (.row (.pair (.int .i64) (.int .i64))))))))) (c.1.1,c.1.2),Arg.mk (.int .i64) e.1] [.tree,.bool] (λg:Tr×Bool=>∃i:Int×(Int×Int)×(Int×Int)×(List Int)×List (Int×Int),(0<=e.1/\c.1.2[e.1.toNat]?=some i)/\PC Tp gl 31 [Arg.mk (.pair .str (.row (.pair (.int .i64) (.pair (.pair (.int .i64) (.int .i64)) (.pair (.pair (.int .i64) (.int .i64)) (.pair (.row (.int .i64)) (.row (.pair (.int .i64) (.int .i64))))))))) (c.1.1,c.1.2),Arg.mk (.pair (.int .i64) (.int .i64)) (i.2.1.1,i.2.1.2)] [.str] (λj:Bt=>PC Tp gl 15 [Arg.mk .str j] [.tree,.int .i64,.int .i64] (λk:Tr×Int×Int=>∃l:Bool->Prop,((bif (bif (bif a then f.2 else false)then g.2 else false)then(k.2.2==0)else false)=true->PC Tp gl 16 [Arg.mk .tree (Tr.mk f.1.kind f.1.text f.1.keys f.1.items),Arg.mk .tree (Tr.mk g.1.kind g.1.text g.1.keys g.1.items)] [.bool] l)/\∀m:Bool,((bif (bif (bif a then f.2 else false)then g.2 else false)then(k.2.2==0)else false)=true->l m)->∃n:Bool->Prop,((bif (bif (bif (bif a then f.2 else false)then g.2 else false)then(k.2.2==0)else false)then m else false)=true->PC Tp gl 16 [Arg.mk .tree (Tr.mk f.1.kind f.1.text f.1.keys f.1.items),Arg.mk .tree (Tr.mk k.1.kind k.1.text k.1.keys k.1.items)] [.bool] n)/\∀o:Bool,((bif (bif (bif (bif a then f.2 else false)then g.2 else false)then(k.2.2==0)else false)then m else false)=true->n o)->R (bif (bif (bif (bif (bif a then f.2 else false)then g.2 else false)then(k.2.2==0)else false)then m else false)then o else false))))))))))))))):
  PC Tp gl 6 [Arg.mk .str s0,Arg.mk (.row .str) Z] [.bool] R:=
 PF ⟨[],[(16,14,[],[0,1,2,3,4,5,6,13,7,8,9,10,11,12],[11,12])],[],[]⟩ [.tmp 4] 125 Tryz.func6 H


end
end Go.X
end
section
namespace Go.X
open Go Go.Lib
section
variable {lo d m:Nat} {s:Bs} {α:Type} {obj:Bool}
inductive KidsG (K:List Bs->List Bs->Bs×Tr->List Tk->Nat->Prop) (close:Int):List Bs->List (Bs×Tr)->List Tk->Nat->Prop
 |last {had had':List Bs} {kv:Bs×Tr} {C:List Tk} {c:Tk} {m:Nat}:K had had' kv C m->c.1=close->KidsG K close had [kv] (C++[c]) m
 |more {had had':List Bs} {kv:Bs×Tr} {kvs:List (Bs×Tr)} {C D:List Tk} {q:Tk} {m m':Nat}:K had had' kv C m->q.1=6->KidsG K close had' kvs D m'->KidsG K close had (kv::kvs) (C++q::D) (m+m')
def KA(P:Tr->List Tk->Nat->Prop)(had had':List Bs)(kv:Bs×Tr)(C:List Tk)(m:Nat):Prop:=had'=had/\P kv.2 C m
def KO(s:Bs)(P:Tr->List Tk->Nat->Prop)(had had':List Bs)(kv:Bs×Tr)(C:List Tk)(m:Nat):Prop:=
 ∃t q C',C=t::q::C'/\t.1=8/\q.1=7/\kv.1=(Wh (Q9 s t.2)).1/\qq s t.2=Q9 s t.2/\kv.1∉had/\had'=had++[kv.1]/\P kv.2 C' m
def PV(s:Bs):Nat->Tr->List Tk->Nat->Prop
 |0,_,_,_=>False
 |d+1,v,C,m=>∃t,(C=[t]/\zz t.1≠0/\zz t.1≠5/\zz t.1≠6/\v=.mk (zz t.1) (bl (Jx (zz t.1) (qq s t.2))) [] []/\m=1)
  \/ (∃c,C=[t,c]/\((t.1=4/\c.1=5/\v=.mk 5 (bl []) [] [])\/(t.1=2/\c.1=3/\v=.mk 6 (bl []) [] []))/\m=1)
  \/ (∃D kvs m',C=t::D/\t.1=4/\KidsG (KA (PV s d)) 5 [] kvs D m'/\v=.mk 5 (bl []) [] (kvs.map (·.2))/\m=m'+1)
  \/ (∃D kvs m',C=t::D/\t.1=2/\KidsG (KO s (PV s d)) 3 [] kvs D m'/\v=.mk 6 (bl []) (kvs.map λkv=>bl kv.1) (kvs.map (·.2))/\m=m'+1)
def z2p(C:List Tk):Sp:=((C.head?.map (·.2.1)).getD 0,(C.getLast?.map (·.2.2)).getD 0)
def zbj(C:List Tk)(l:Int):Int:=(C.getLast?.map (·.2.2)).getD l
theorem jm{C D:List Tk}(h:D≠[])(l:Int):zbj (C++D) l=zbj D l:=by
 unfold zbj
 rw[List.getLast?_append]
 cases hd:D.getLast? with
 |none=>exact absurd (List.getLast?_eq_none_iff.1 hd) h
 |some x=>rfl
theorem zd1{C:List Tk}(h:C≠[])(l l':Int):zbj C l=zbj C l':=by
 unfold zbj
 cases hd:C.getLast? with
 |none=>exact absurd (List.getLast?_eq_none_iff.1 hd) h
 |some x=>rfl
def Agr(lo:Nat)(new nodes:List Nd):Prop:=∀i x,new[i]?=some x->nodes[lo+i]?=some x
theorem Agr.left{a b nodes:List Nd}(h:Agr lo (a++b) nodes):Agr lo a nodes:=λi x hx=>h i x (by rw[Bq (Av.1 hx).1];exact hx)
theorem Agr.right{a b nodes:List Nd}(h:Agr lo (a++b) nodes):Agr (lo+a.length) b nodes:=λi x hx=>by
 have:=h (a.length+i) x (by rw[A5 (by omega),C3];exact hx)
 rw[Eg];exact this
def SubV(s:Bs)(d lo:Nat)(new:List Nd)(C:List Tk)(m:Nat):Prop:=∀i,i<new.length->∃d' v' C' pre post m',d'<=d/\PV s d' v' C' m'/\C=pre++C'++post/\m'<=m/\∀nodes,Agr lo new nodes->∀f,d'<=f->qw s nodes f (lo+i)=v'/\∃x,nodes[lo+i]?=some x/\x.2.1=z2p C'
structure Made (s:Bs) (d lo:Nat) (key:Sp) (new:List Nd) (v:Tr) (C:List Tk) (m:Nat):Prop where
 len:new.length=m
 pos:1<=m
 key:∃x,new[0]?=some x/\x.2.2.1=key
 val:∀nodes,Agr lo new nodes->∀f,d<=f->qw s nodes f lo=v
 sub:SubV s d lo new C m
structure MadeK (s:Bs) (obj:Bool) (d lo:Nat) (ks:List Int) (new:List Nd) (kvs:List (Bs×Tr)) (D:List Tk) (m:Nat):Prop where
 len:new.length=m
 val:∀nodes,Agr lo new nodes->∀f,d<=f->(ks.map λc=>qw s nodes f c.toNat)=kvs.map (·.2)
 key:obj=true->∀nodes,Agr lo new nodes->(ks.map λc=>bl (zg3 s nodes c))=kvs.map λkv=>bl kv.1
 sub:SubV s d lo new D m
theorem SubV.mono{d d2 lo:Nat}{new:List Nd}{C:List Tk}{m m2:Nat}(h:SubV s d lo new C m)(hd:d<=d2)(hm:m<=m2)(pre post:List Tk):SubV s d2 lo new (pre++C++post) m2:=by
 intro i hi
 obtain⟨d',v',C',p,q,m',h1,h2,h3,h4,h5⟩:=h i hi
 exact⟨d',v',C',pre++p,q++post,m',by omega,h2,by rw[h3];simp,by omega,h5⟩
theorem SubV.append{a b:List Nd}{C:List Tk}(h:SubV s d lo a C m)(h2:SubV s d (lo+a.length) b C m):SubV s d lo (a++b) C m:=by
 intro i hi
 rcases AR i a.length with h'|h'
 ·obtain⟨d',v',C',p,q,m',h1,h2,h3,h4,h5⟩:=h i h'
  exact⟨d',v',C',p,q,m',h1,h2,h3,h4,λnodes hn=>h5 nodes hn.left⟩
 ·obtain⟨d',v',C',p,q,m',h1,h3,h4,h5,h6⟩:=h2 (i-a.length) (by rw[Ap]at hi;omega)
  refine⟨d',v',C',p,q,m',h1,h3,h4,h5,λnodes hn f hf=>?_⟩
  have:=h6 nodes hn.right f hf
  rw[show lo+a.length+(i-a.length)=lo+i from by omega]at this
  exact this
def qdz(s:Bs)(obj:Bool)(d:Nat)(close:Int)(K:List Bs->List Bs->Bs×Tr->List Tk->Nat->Prop)(kid:zjo):Prop:=
 ∀had had' kv C m,K had had' kv C m->1<=m/\(∃t C',C=t::C'/\t.1≠close)/\∀(st:PSt) (rest:List Tk),st.rest=C++rest->st.nodes.length+m<=4096->∃new,
  kid had st=.inl (had',⟨rest,zbj C st.last,st.nodes++new⟩)/\MadeK s obj d st.nodes.length [((st.nodes.length:Nat):Int)] new [kv] C m
def zuy(x:Nd)(ks:List Int)(ps:List Sp):Nd:=(x.1,x.2.1,x.2.2.1,x.2.2.2.1++ks,x.2.2.2.2++ps)
theorem Y1{a:List α}{x:α}{b:List α}{f:α->α}:(a++x::b).modify a.length f=a++f x::b:=by
 induction a with
 |nil=>rfl
 |cons y a ih=>simp only[AO,Aw,List.modify_succ_cons,ih]
theorem zjy{close:Int}{K:List Bs->List Bs->Bs×Tr->List Tk->Nat->Prop}{kid:zjo}(hK:qdz s obj d close K kid)(af:close≠6){had:List Bs}{kvs:List (Bs×Tr)}{D:List Tk}(H:KidsG K close had kvs D m):
  (∃t D',D=t::D'/\t.1≠close)/\1<=m/\kvs.length<=D.length/\∀(base:List Nd) (x:Nd) (news:List Nd) (rest:List Tk) (last:Int) (f:Nat),kvs.length<=f->base.length+1+news.length+m<=4096->∃ks ps new,
   Yz s base.length close kid f had ⟨D++rest,last,base++x::news⟩=.inl ⟨rest,zbj D last,base++zuy x ks ps::(news++new)⟩/\MadeK s obj d (base.length+1+news.length) ks new kvs D m:=by
 induction H with
 | @last had had' kv C c m hk hc=>
  obtain⟨h1,⟨t0,C0,aa,h2⟩,h3⟩:=hK _ _ _ _ _ hk
  refine⟨⟨t0,C0++[c],by rw[aa];rfl,h2⟩,h1,by simp,λbase x news rest last f hf hn=>?_⟩
  obtain⟨g,rfl⟩:∃g,f=g+1:=⟨f-1,by simp at hf;omega⟩
  have hl:(base++x::news).length=base.length+1+news.length:=by simp;omega
  obtain⟨new,e,M⟩:=h3 ⟨C++[c]++rest,last,base++x::news⟩ (c::rest) (by simp) (by dsimp only;rw[hl];omega)
  dsimp only at e M
  rw[hl]at M
  refine⟨[((base++x::news).length:Int)],[(last,c.2.1)],new,?_,?_⟩
  ·rw[Yz,e]
   dsimp only
   have ek:PSt.kind ⟨c::rest,zbj C last,base++x::news++new⟩=close:=hc
   rw[if_pos ek]
   unfold PSt.addKid PSt.skip PSt.here
   dsimp only
   rw[AQ,AO,Y1]
   congr 2
   unfold zbj
   simp
  ·rw[hl]
   refine⟨M.len,M.val,M.key,?_⟩
   have:=M.sub.mono (Ad _) (Ad _) [] [c]
   simpa using this
 | @more had had' kv kvs C D q m m' hk hq hr ih=>
  obtain⟨h1,⟨t0,C0,aa,h2⟩,h3⟩:=hK _ _ _ _ _ hk
  obtain⟨⟨t1,D0,ab,_⟩,g2,gl,g3⟩:=ih
  have g1:D≠[]:=by rw[ab];simp
  refine⟨⟨t0,C0++q::D,by rw[aa];rfl,h2⟩,by omega,by simp;omega,λbase x news rest last f hf hn=>?_⟩
  obtain⟨g,rfl⟩:∃g,f=g+1:=⟨f-1,by simp at hf;omega⟩
  have hl:(base++x::news).length=base.length+1+news.length:=by simp;omega
  obtain⟨new,e,M⟩:=h3 ⟨C++q::D++rest,last,base++x::news⟩ (q::(D++rest)) (by simp) (by dsimp only;rw[hl];omega)
  dsimp only at e M
  rw[hl]at M
  have ah:=M.len
  obtain⟨ks,ps,Z,e2,M2⟩:=g3 base (zuy x [((base++x::news).length:Int)] [(last,q.2.1)]) (news++new) rest q.2.2 g (by simp at hf;omega) (by rw[Ap];omega)
  refine⟨((base++x::news).length:Int)::ks,(last,q.2.1)::ps,new++Z,?_,?_⟩
  ·rw[Yz,e]
   dsimp only
   have ek:PSt.kind ⟨q::(D++rest),zbj C last,base++x::news++new⟩=6:=hq
   rw[if_neg (by rw[ek];exact λh=>af h.symm),if_pos ek]
   have es:(PSt.addKid ⟨q::(D++rest),zbj C last,base++x::news++new⟩ base.length ((base++x::news).length:Int) (last,PSt.here ⟨q::(D++rest),zbj C last,base++x::news++new⟩ s.length)).skip=⟨D++rest,q.2.2,base++zuy x [((base++x::news).length:Int)] [(last,q.2.1)]::(news++new)⟩:=by
    unfold PSt.addKid PSt.skip PSt.here
    dsimp only
    rw[AQ,AO,Y1]
    rfl
   rw[es,e2]
   congr 2
   ·rw[jm (C:=C) (D:=q::D) (by simp),show q::D=[q]++D from rfl,jm g1]
    exact zd1 g1 _ _
   ·unfold zuy;simp
  ·rw[hl]
   have ae:base.length+1+(news++new).length=base.length+1+news.length+new.length:=by rw[Ap];omega
   rw[ae]at M2
   refine⟨by rw[Ap,M.len,M2.len],λnodes hn f hf=>?_,λho nodes hn=>?_,?_⟩
   ·have a:=M.val nodes hn.left f hf
    have b:=M2.val nodes hn.right f hf
    simp only[A4,CU,Bu,and_true]at a ⊢
    exact⟨a,b⟩
   ·have a:=M.key ho nodes hn.left
    have b:=M2.key ho nodes hn.right
    simp only[A4,CU,Bu,and_true]at a ⊢
    exact⟨a,b⟩
   ·have a:=M.sub.mono (d2:=d) (Ad _) (show m<=m+m' by omega) [] (q::D)
    have b:=M2.sub.mono (d2:=d) (Ad _) (show m'<=m+m' by omega) (C++[q]) []
    rw[Bc]at a
    have b:SubV s d (base.length+1+news.length+new.length) Z (C++q::D) (m+m'):=by simpa using b
    exact a.append b
theorem modify_last{a:List α}{x:α}{f:α->α}:(a++[x]).modify a.length f=a++[f x]:=Y1
theorem z4d(t:Bs):Jx 5 t=[]:=by unfold Jx;simp
theorem z4e(t:Bs):Jx 6 t=[]:=by unfold Jx;simp
theorem Agr.head{x:Nd}{l nodes:List Nd}(h:Agr lo (x::l) nodes):nodes[lo]?=some x:=h 0 x rfl
theorem Agr.tail{x:Nd}{l nodes:List Nd}(h:Agr lo (x::l) nodes):Agr (lo+1) l nodes:=λi y hy=>by
 have:=h (i+1) y hy
 rw[show lo+1+i=lo+(i+1)from by omega];exact this
theorem zox{key:Sp}{k:Int}{t:Tk}{D:List Tk}{ks:List Int}{ps:List Sp}{new:List Nd}{kvs:List (Bs×Tr)}{v:Tr}(hk:k=5/\obj=false\/k=6/\obj=true)(hv:v=.mk k (bl []) (if obj=true then kvs.map λkv=>bl kv.1 else []) (kvs.map (·.2)))(hD:D≠[])
  (hp:PV s (d+1) v (t::D) (m+1)) (M:MadeK s obj d (lo+1) ks new kvs D m):Made s (d+1) lo key ((k,(t.2.1,zbj D 0),key,ks,ps)::new) v (t::D) (m+1):=by
 have Z:∀nodes,Agr lo ((k,(t.2.1,zbj D 0),key,ks,ps)::new) nodes->∀f,d+1<=f->qw s nodes f lo=v:=λnodes hn f hf=>by
  obtain⟨g,rfl⟩:∃g,f=g+1:=⟨f-1,by omega⟩
  rw[Z5 hn.head,M.val nodes hn.tail g (by omega),hv]
  dsimp only
  rcases hk with⟨rfl,rfl⟩|⟨rfl,rfl⟩
  ·rw[z4d];simp
  ·rw[z4e,if_pos rfl,if_pos rfl,M.key rfl nodes hn.tail]
 refine⟨by rw[Aw,M.len],by omega,⟨_,rfl,rfl⟩,Z,λi hi=>?_⟩
 cases i with
 |zero=>
  refine⟨d+1,v,t::D,[],[],m+1,Ad _,hp,by simp,Ad _,λnodes hn f hf=>⟨Z nodes hn f hf,_,hn.head,?_⟩⟩
  have e:zbj (t::D) 0=zbj D 0:=jm (C:=[t]) hD 0
  show(t.2.1,zbj D 0)=z2p (t::D)
  rw[<-e];rfl
 |succ i=>
  obtain⟨d',v',C',pre,post,m',h1,h2,h3,h4,h5⟩:=M.sub i (by simpa using hi)
  refine⟨d',v',C',t::pre,post,m',by omega,h2,by rw[h3];rfl,by omega,λnodes hn f hf=>?_⟩
  have:=h5 nodes hn.tail f hf
  rw[show lo+1+i=lo+(i+1)from by omega]at this
  exact this
theorem zcs{s:Bs}:∀(d:Nat) (v:Tr) (C:List Tk) (m:Nat),PV s d v C m->1<=m/\(∃t C',C=t::C'/\zz t.1≠0)/\∀(key:Sp) (st:PSt) (rest:List Tk),st.rest=C++rest->st.nodes.length+m<=4096->∃new,
  Y3 s d key st=.inl ⟨rest,zbj C st.last,st.nodes++new⟩/\Made s d st.nodes.length key new v C m
 |0,v,C,m,h=>h.elim
 |d+1,v,C,m,h=>by
  have ih:=zcs (s:=s) d
  have ax:qdz s false d 5 (KA (PV s d)) (zch (Y3 s d)):=by
   rintro had had' kv C m ⟨rfl,hp⟩
   obtain⟨h1,⟨t,C',hC,hk⟩,h3⟩:=ih _ _ _ hp
   refine⟨h1,⟨t,C',hC,λe=>hk (by rw[e];rfl)⟩,λst rest hr hn=>?_⟩
   obtain⟨new,e,M⟩:=h3 (0,0) st rest hr hn
   refine⟨new,by unfold zch;rw[e],M.len,λnodes hn f hf=>?_,λh=>(by cases h),M.sub⟩
   simp only[A4,CU,Ah]
   rw[M.val nodes hn f hf]
  have ar:qdz s true d 3 (KO s (PV s d)) (zny s (Y3 s d)):=by
   rintro had had' kv C m ⟨t,q,C',hC,ht,hq,ab,ai,ak,aj,hp⟩
   subst hC
   obtain⟨h1,⟨t1,C1,am,hk⟩,h3⟩:=ih _ _ _ hp
   refine⟨h1,⟨t,_,rfl,by omega⟩,λst rest hr hn=>?_⟩
   obtain⟨new,e,M⟩:=h3 t.2 st.skip.skip rest (by unfold PSt.skip;rw[hr];rfl) (by rw[yi,yi];exact hn)
   have e2:st.skip.skip.last=q.2.2:=by unfold PSt.skip;rw[hr];rfl
   rw[yi,yi]at e M
   rw[e2]at e
   refine⟨new,?_,M.len,λnodes hn f hf=>?_,λ_ nodes hn=>?_,?_⟩
   ·unfold zny
    rw[hr]
    dsimp only[AO]
    rw[if_pos ht,if_neg (by rw[<-ab];exact ak)]
    have ek:st.skip.kind=7:=by unfold PSt.skip PSt.kind;rw[hr];exact hq
    rw[if_pos ek,e]
    dsimp only
    rw[aj,ab]
    have e3:zbj C' q.2.2=zbj (t::q::C') st.last:=by
     rw[show t::q::C'=[t,q]++C' from rfl,jm (by rw[am];simp)]
     exact zd1 (by rw[am];simp) _ _
    rw[e3]
   ·simp only[A4,CU,Ah]
    rw[M.val nodes hn f hf]
   ·obtain⟨x,hx,an⟩:=M.key
    have:=hn 0 x hx
    simp only[A4,CU,Bu,and_true]
    unfold zg3
    rw[Ah]
    rw[show nodes[st.nodes.length]?=some x from this]
    show bl (zu5 s x)=bl kv.1
    unfold zu5
    rw[an,ab,ai]
   ·have:=M.sub.mono (d2:=d) (Ad _) (Ad m) [t,q] []
    simpa using this
  have ap:∀(st:PSt) (t:Tk) (r:List Tk) (key:Sp),st.rest=t::r->st.open key=⟨r,t.2.2,st.nodes++[(zz t.1,t.2,key,[],[])]⟩:=λst t r key hr=>by unfold PSt.open;rw[hr]
  have au:∀(st:PSt) (t:Tk) (r:List Tk),st.rest=t::r->st.kind=t.1:=λst t r hr=>by unfold PSt.kind;rw[hr]
  have go:∀(key:Sp) (st st':PSt) (t:Tk) (r:List Tk),st.rest=t::r->zz t.1≠0->st.nodes.length<4096->zo3 s (Y3 s d) st.nodes.length (zz t.1) ⟨r,t.2.2,st.nodes++[(zz t.1,t.2,key,[],[])]⟩=.inl st'->Y3 s (d+1) key st=.inl (st'.setTo st.nodes.length):=λkey st st' t r hr hk hn e=>by
   rw[Y3,au st t r hr,if_neg hk,if_neg (by omega),ap st t r key hr,e]
  obtain⟨t,hh|⟨c,hC,hh,hm⟩|⟨D,kvs,m',hC,ht,hD,hv,hm⟩|⟨D,kvs,m',hC,ht,hD,hv,hm⟩⟩:=id h
  ·obtain⟨hC,k0,k5,k6,hv,hm⟩:=hh
   subst hC hm
   refine⟨Ad _,⟨t,[],rfl,k0⟩,λkey st rest hr hn=>⟨[(zz t.1,(t.2.1,t.2.2),key,[],[])],?_,?_⟩⟩
   ·rw[go key st _ t rest hr k0 (by omega) (by unfold zo3;rw[if_neg k5,if_neg k6])]
    unfold PSt.setTo
    dsimp only
    rw[modify_last];rfl
   ·have aa:∀nodes,Agr st.nodes.length [(zz t.1,(t.2.1,t.2.2),key,[],[])] nodes->∀f,d+1<=f->qw s nodes f st.nodes.length=v:=λnodes hn f hf=>by
     obtain⟨g,rfl⟩:∃g,f=g+1:=⟨f-1,by omega⟩
     rw[Z5 hn.head,hv]
     dsimp only
     rw[if_neg k6];rfl
    refine⟨rfl,Ad _,⟨_,rfl,rfl⟩,aa,λi hi=>?_⟩
    have:i=0:=by simp at hi;exact hi
    subst this
    exact⟨d+1,v,[t],[],[],1,Ad _,h,by simp,Ad _,λnodes hn f hf=>⟨aa nodes hn f hf,_,hn.head,rfl⟩⟩
  ·subst hC hm
   have e4:zz 4=5:=rfl
   have e2:zz 2=6:=rfl
   have ab:zz t.1=5/\c.1=5/\v=.mk 5 (bl []) [] []\/zz t.1=6/\c.1=3/\v=.mk 6 (bl []) [] []:=by
    rcases hh with⟨h1,h2,h3⟩|⟨h1,h2,h3⟩
    ·exact .inl ⟨by rw[h1];rfl,h2,h3⟩
    ·exact .inr ⟨by rw[h1];rfl,h2,h3⟩
   have k0:zz t.1≠0:=by rcases ab with⟨h,_⟩|⟨h,_⟩ <;> rw[h] <;> decide
   have hp:PV s (d+1) v [t,c] 1:=⟨t,.inr (.inl ⟨c,rfl,hh,rfl⟩)⟩
   refine⟨Ad _,⟨t,[c],rfl,k0⟩,λkey st rest hr hn=>⟨[(zz t.1,(t.2.1,c.2.2),key,[],[])],?_,?_⟩⟩
   ·rw[go key st ⟨rest,c.2.2,st.nodes++[(zz t.1,t.2,key,[],[])]⟩ t (c::rest) hr k0 (by omega) (by
     unfold zo3
     rcases ab with⟨h,hc,_⟩|⟨h,hc,_⟩
     ·rw[h,if_pos rfl]
      unfold Wb
      rw[if_pos (show PSt.kind ⟨c::rest,t.2.2,_⟩=5 from hc)];rfl
     ·rw[h,if_neg (by decide),if_pos rfl]
      unfold Wb
      rw[if_pos (show PSt.kind ⟨c::rest,t.2.2,_⟩=3 from hc)];rfl)]
    unfold PSt.setTo
    dsimp only
    rw[modify_last];rfl
   ·have aa:∀nodes,Agr st.nodes.length [(zz t.1,(t.2.1,c.2.2),key,[],[])] nodes->∀f,d+1<=f->qw s nodes f st.nodes.length=v:=λnodes hn f hf=>by
     obtain⟨g,rfl⟩:∃g,f=g+1:=⟨f-1,by omega⟩
     rw[Z5 hn.head]
     dsimp only
     rcases ab with⟨h,_,hv⟩|⟨h,_,hv⟩
     ·rw[h,hv,z4d];rfl
     ·rw[h,hv,z4e];rfl
    refine⟨rfl,Ad _,⟨_,rfl,rfl⟩,aa,λi hi=>?_⟩
    have:i=0:=by simp at hi;exact hi
    subst this
    exact⟨d+1,v,[t,c],[],[],1,Ad _,hp,by simp,Ad _,λnodes hn f hf=>⟨aa nodes hn f hf,_,hn.head,rfl⟩⟩
  ·subst hC hm
   obtain⟨⟨t1,D',ae,af⟩,h1,ah,h3⟩:=zjy ax (by decide) hD
   have Z:D≠[]:=by rw[ae];simp
   have k5:zz t.1=5:=by rw[ht];rfl
   refine⟨by omega,⟨t,D,rfl,by rw[k5];decide⟩,λkey st rest hr hn=>?_⟩
   obtain⟨ks,ps,new,e,M⟩:=h3 st.nodes (zz t.1,t.2,key,[],[]) [] rest t.2.2 ((D++rest).length+1) (by rw[Ap];omega) (by simp only[BE];omega)
   rw[BE,Cu]at M
   refine⟨(5,(t.2.1,zbj D 0),key,ks,ps)::new,?_,zox (.inl ⟨rfl,rfl⟩) (by rw[hv];rfl) Z h M⟩
   rw[go key st _ t (D++rest) hr (by rw[k5];decide) (by omega) (by
    unfold zo3
    rw[k5,if_pos rfl]
    unfold Wb
    rw[if_neg (show¬PSt.kind ⟨D++rest,t.2.2,_⟩=5 from by rw[ae];exact af)]
    rw[k5]at e
    exact e)]
   unfold PSt.setTo
   dsimp only
   rw[Y1]
   have e3:zbj D t.2.2=zbj (t::D) st.last:=by
    rw[show t::D=[t]++D from rfl,jm Z]
    exact zd1 Z _ _
   rw[e3,zd1 (C:=t::D) (by simp) st.last 0,show zbj (t::D) 0=zbj D 0 from jm (C:=[t]) Z 0]
   simp[zuy,z6t]
  ·subst hC hm
   obtain⟨⟨t1,D',ae,af⟩,h1,ah,h3⟩:=zjy ar (by decide) hD
   have Z:D≠[]:=by rw[ae];simp
   have k6:zz t.1=6:=by rw[ht];rfl
   refine⟨by omega,⟨t,D,rfl,by rw[k6];decide⟩,λkey st rest hr hn=>?_⟩
   obtain⟨ks,ps,new,e,M⟩:=h3 st.nodes (zz t.1,t.2,key,[],[]) [] rest t.2.2 ((D++rest).length+1) (by rw[Ap];omega) (by simp only[BE];omega)
   rw[BE,Cu]at M
   refine⟨(6,(t.2.1,zbj D 0),key,ks,ps)::new,?_,zox (.inr ⟨rfl,rfl⟩) (by rw[hv];rfl) Z h M⟩
   rw[go key st _ t (D++rest) hr (by rw[k6];decide) (by omega) (by
    unfold zo3
    rw[k6,if_neg (by decide),if_pos rfl]
    unfold Wb
    rw[if_neg (show¬PSt.kind ⟨D++rest,t.2.2,_⟩=3 from by rw[ae];exact af)]
    rw[k6]at e
    exact e)]
   unfold PSt.setTo
   dsimp only
   rw[Y1]
   have e3:zbj D t.2.2=zbj (t::D) st.last:=by
    rw[show t::D=[t]++D from rfl,jm Z]
    exact zd1 Z _ _
   rw[e3,zd1 (C:=t::D) (by simp) st.last 0,show zbj (t::D) 0=zbj D 0 from jm (C:=[t]) Z 0]
   simp[zuy,z6t]
end
section
variable {k:Int}
theorem z4f(h:zz k=5):k=4:=by
 unfold zz at h
 by_cases h1:k=12 <;> by_cases h2:k=10\/k=11 <;> by_cases h3:k=9 <;> by_cases h4:k=8 <;> by_cases h5:k=4 <;> by_cases h6:k=2 <;> simp[*]at h ⊢
theorem z4g(h:zz k=6):k=2:=by
 unfold zz at h
 by_cases h1:k=12 <;> by_cases h2:k=10\/k=11 <;> by_cases h3:k=9 <;> by_cases h4:k=8 <;> by_cases h5:k=4 <;> by_cases h6:k=2 <;> simp[*]at h ⊢
def WfT(s:Bs)(l:List Tk):Prop:=∀t∈l,qq s t.2=Q9 s t.2
theorem WfT.drop{s:Bs}{a b:List Tk}(h:WfT s (a++b)):WfT s b:=λt ht=>h t (Au _ ht)
def qd0(s:Bs)(K:List Bs->List Bs->Bs×Tr->List Tk->Nat->Prop)(kid:zjo):Prop:=
 ∀had st had' st',kid had st=.inl (had',st')->WfT s st.rest->st.nodes.length<=4096->∃kv C m,K had had' kv C m/\st.rest=C++st'.rest/\st'.nodes.length=st.nodes.length+m/\st'.nodes.length<=4096
theorem Xe{st:PSt}(h:st.kind=k)(hk:k≠0):∃t r,st.rest=t::r/\t.1=k:=by
 unfold PSt.kind at h
 cases hr:st.rest with
 |nil=>rw[hr]at h;exact absurd h.symm hk
 |cons t r=>rw[hr]at h;exact⟨t,r,rfl,h⟩
theorem Qm{st:PSt}{t:Tk}{r:List Tk}(h:st.rest=t::r):st.skip=⟨r,t.2.2,st.nodes⟩:=by unfold PSt.skip;rw[h]
theorem zbk{s:Bs}{n:Nat}{close:Int}(ae:close≠0){K:List Bs->List Bs->Bs×Tr->List Tk->Nat->Prop}{kid:zjo}(hK:qd0 s K kid):∀(f:Nat) (had:List Bs) (st st':PSt),Yz s n close kid f had st=.inl st'->WfT s st.rest->st.nodes.length<=4096 ->
  ∃kvs D m,KidsG K close had kvs D m/\st.rest=D++st'.rest/\st'.nodes.length=st.nodes.length+m/\st'.nodes.length<=4096
 |0,had,st,st',h,hw,hn=>by unfold Yz PSt.err at h;cases h
 |f+1,had,st,st',h,hw,hn=>by
  rw[Yz]at h
  split at h
  ·cases h
  ·rename_i ab Z e
   obtain⟨kv,C,m,h1,h2,h3,h4⟩:=hK _ _ _ _ e hw hn
   have aa:WfT s Z.rest:=by rw[h2]at hw;exact hw.drop
   split at h
   ·rename_i hc
    obtain⟨c,r,hr,hc⟩:=Xe hc ae
    have hs:=Qm (st:=Z.addKid n st.nodes.length (st.last,Z.here s.length)) (t:=c) (r:=r) hr
    rw[hs]at h
    cases h
    refine⟨[kv],C++[c],m,.last h1 hc,by rw[h2,hr];simp,?_,?_⟩ <;> dsimp only <;> rw[Y0] <;> assumption
   ·split at h
    ·rename_i hc
     obtain⟨q,r,hr,hq⟩:=Xe hc (by decide)
     have hs:=Qm (st:=Z.addKid n st.nodes.length (st.last,Z.here s.length)) (t:=q) (r:=r) hr
     rw[hs]at h
     obtain⟨kvs,D,m',g1,g2,g3,g4⟩:=zbk ae hK f ab _ st' h (by rw[hr]at aa;exact λt ht=>aa t (Ae _ ht)) (by dsimp only;rw[Y0];exact h4)
     dsimp only at g2 g3
     rw[Y0]at g3
     exact⟨kv::kvs,C++q::D,m+m',.more h1 hq g1,by rw[h2,hr,g2];simp,by omega,g4⟩
    ·unfold PSt.err at h;cases h
theorem zjz{s:Bs}:∀(d:Nat) (key:Sp) (st st':PSt),Y3 s d key st=.inl st'->WfT s st.rest->st.nodes.length<=4096 ->
  ∃v C m,PV s d v C m/\st.rest=C++st'.rest/\st'.nodes.length=st.nodes.length+m/\st'.nodes.length<=4096
 |0,key,st,st',h,hw,hn=>by
  unfold Y3 at h
  split at h <;> (unfold PSt.err at h;cases h)
 |d+1,key,st,st',h,hw,hn=>by
  have ih:=zjz (s:=s) d
  have an:qd0 s (KA (PV s d)) (zch (Y3 s d)):=by
   intro had st had' st' e hw hn
   unfold zch at e
   split at e
   ·rename_i ab e1
    cases e
    obtain⟨v,C,m,h1,h2,h3,h4⟩:=ih _ _ _ e1 hw hn
    exact⟨([],v),C,m,⟨rfl,h1⟩,h2,h3,h4⟩
   ·cases e
  have ak:qd0 s (KO s (PV s d)) (zny s (Y3 s d)):=by
   intro had st had' st' e hw hn
   unfold zny at e
   split at e
   ·unfold PSt.err at e;cases e
   ·rename_i t r hr
    split at e
    ·rename_i ht
     split at e
     ·unfold PSt.err at e;cases e
     ·rename_i af
      split at e
      ·rename_i hk
       obtain⟨q,r2,Z,hq⟩:=Xe hk (by decide)
       rw[Qm hr]at Z
       dsimp only at Z
       rw[Qm hr,Qm (st:=⟨r,t.2.2,st.nodes⟩) Z]at e
       split at e
       ·rename_i ab e1
        cases e
        rw[hr,Z]at hw
        obtain⟨v,C,m,h1,h2,h3,h4⟩:=ih _ _ _ e1 (λx hx=>hw x (Ae _ (Ae _ hx))) hn
        dsimp only at h2 h3
        exact⟨((Wh (Q9 s t.2)).1,v),t::q::C,m,⟨t,q,C,rfl,ht,hq,rfl,hw t Aj,af,rfl,h1⟩,by rw[hr,Z,h2];rfl,h3,h4⟩
       ·cases e
      ·unfold PSt.err at e;cases e
    ·unfold PSt.err at e;cases e
  rw[Y3]at h
  split at h
  ·unfold PSt.err at h;cases h
  ·rename_i k0
   split at h
   ·unfold PSt.err at h;cases h
   ·rename_i ai
    split at h
    ·rename_i ab e
     cases h
     have am:=zfc k0
     obtain⟨t,r,hr⟩:∃t r,st.rest=t::r:=by
      cases hr:st.rest with
      |nil=>exact absurd hr am
      |cons t r=>exact⟨t,r,rfl⟩
     have ap:st.kind=t.1:=by unfold PSt.kind;rw[hr]
     have aj:st.open key=⟨r,t.2.2,st.nodes++[(zz t.1,t.2,key,[],[])]⟩:=by unfold PSt.open;rw[hr]
     rw[ap]at e k0
     rw[aj]at e
     have ah:WfT s r:=by rw[hr]at hw;exact λx hx=>hw x (Ae _ hx)
     have aa:(st.nodes++[(zz t.1,t.2,key,[],[])]).length=st.nodes.length+1:=by simp
     have ae:(ab.setTo st.nodes.length).rest=ab.rest:=rfl
     rw[ae,zci,hr]
     unfold zo3 at e
     split at e
     ·rename_i k5
      unfold Wb at e
      split at e
      ·rename_i hc
       obtain⟨c,r2,Z,hc⟩:=Xe hc (by decide)
       rw[Qm Z]at e
       cases e
       dsimp only at Z ⊢
       rw[aa,Z]
       exact⟨_,[t,c],1,⟨t,.inr (.inl ⟨c,rfl,.inl ⟨z4f k5,hc,rfl⟩,rfl⟩)⟩,rfl,rfl,by omega⟩
      ·obtain⟨kvs,D,m,g1,g2,g3,g4⟩:=zbk (by decide) an _ _ _ _ e ah (by dsimp only;omega)
       dsimp only at g2 g3
       rw[aa]at g3
       exact⟨_,t::D,m+1,⟨t,.inr (.inr (.inl ⟨D,kvs,m,rfl,z4f k5,g1,rfl,rfl⟩))⟩,by rw[g2];rfl,by omega,g4⟩
     ·rename_i k5
      split at e
      ·rename_i k6
       unfold Wb at e
       split at e
       ·rename_i hc
        obtain⟨c,r2,Z,hc⟩:=Xe hc (by decide)
        rw[Qm Z]at e
        cases e
        dsimp only at Z ⊢
        rw[aa,Z]
        exact⟨_,[t,c],1,⟨t,.inr (.inl ⟨c,rfl,.inr ⟨z4g k6,hc,rfl⟩,rfl⟩)⟩,rfl,rfl,by omega⟩
       ·obtain⟨kvs,D,m,g1,g2,g3,g4⟩:=zbk (by decide) ak _ _ _ _ e ah (by dsimp only;omega)
        dsimp only at g2 g3
        rw[aa]at g3
        exact⟨_,t::D,m+1,⟨t,.inr (.inr (.inr ⟨D,kvs,m,rfl,z4g k6,g1,rfl,rfl⟩))⟩,by rw[g2];rfl,by omega,g4⟩
      ·rename_i k6
       cases e
       dsimp only
       rw[aa]
       exact⟨_,[t],1,⟨t,.inl ⟨rfl,k0,k5,k6,rfl,rfl⟩⟩,rfl,rfl,by omega⟩
    ·cases h
end
section
variable {n r k lo hi a:Nat} {l s:Bs}
theorem z2q{L m n b0 b1 b2 b3 c1 c2 c3:Nat}(hg:zej (decodeN L b0 b1 b2 b3)=false)(hn:(decodeN L b0 b1 b2 b3).2<=n)(k1:1<n->c1=b1)(k2:2<n->c2=b2)(k3:3<n->c3=b3)(hm:m=min n L):decodeN m b0 c1 c2 c3=decodeN L b0 b1 b2 b3:=by
 have hb:∀{p:Prop} [Decidable p] {x:Nat} {k:Nat},zej (if p then(x,k)else(65533,1))=false->p:=λ {p} _ {x} {k} h=>by
  by_cases hp:p
  ·exact hp
  ·rw[if_neg hp]at h;simp[zej]at h
 unfold decodeN at hg hn ⊢
 by_cases h0:b0<128
 ·rw[if_pos h0,if_pos h0]
 ·rw[if_neg h0]at hg hn
  rw[if_neg h0,if_neg h0]
  by_cases h1:b0 / 32=6/\(1<L/\b1 / 64=2)
  ·rw[if_pos h1]at hg hn
   have hp:=hb hg
   rw[if_pos hp]at hn
   have hn:2<=n:=hn
   have e1:=k1 (by omega)
   subst e1
   rw[if_pos ⟨h1.1,by omega,h1.2.2⟩,if_pos h1]
  ·rw[if_neg h1]at hg hn
   by_cases h2:b0 / 16=14/\(1<L/\b1 / 64=2)/\(2<L/\b2 / 64=2)
   ·rw[if_pos h2]at hg hn
    have hp:=hb hg
    rw[if_pos hp]at hn
    have hn:3<=n:=hn
    have e1:=k1 (by omega)
    have e2:=k2 (by omega)
    subst e1 e2
    rw[if_neg (by omega),if_pos ⟨h2.1,⟨by omega,h2.2.1.2⟩,by omega,h2.2.2.2⟩,if_neg h1,if_pos h2]
   ·rw[if_neg h2]at hg hn
    by_cases h3:b0 / 8=30/\(1<L/\b1 / 64=2)/\(2<L/\b2 / 64=2)/\(3<L/\b3 / 64=2)
    ·rw[if_pos h3]at hg hn
     have hp:=hb hg
     rw[if_pos hp]at hn
     have hn:4<=n:=hn
     have e1:=k1 (by omega)
     have e2:=k2 (by omega)
     have e3:=k3 (by omega)
     subst e1 e2 e3
     rw[if_neg (by omega),if_neg (by omega),if_pos ⟨h3.1,⟨by omega,h3.2.1.2⟩,⟨by omega,h3.2.2.1.2⟩,by omega,h3.2.2.2.2⟩,if_neg h1,if_neg h2,if_pos h3]
    ·rw[if_neg h3]at hg
     simp[zej]at hg
theorem z8m(hg:zej (dec l)=false)(hn:(dec l).2<=n):dec (l.take n)=dec l:=by
 have g:∀i,i<n->(l.take n).getD i 0=l.getD i 0:=λi hi=>by
  simp only[Cz,Az,if_pos hi]
 have hw:=Qh l
 unfold dec at hg hn ⊢
 rw[g 0 (by unfold dec at hw;omega)]
 exact z2q hg hn (λh=>by rw[g 1 h]) (λh=>by rw[g 2 h]) (λh=>by rw[g 3 h]) A1
theorem zs1(h:zex l=some r)(hn:4<=n):zex (l.take n)=some r:=by
 unfold zex at h ⊢
 split at h
 ·rename_i hl
  rw[if_pos (by rw[A1];omega),CX,CF hn];exact h
 ·cases h
theorem z2r{t:Bs}(h:z1d t=some (r,k))(hn:k<=n+2):z1d (t.take n)=some (r,k):=by
 have hk:=(zjl h).1
 unfold z1d at h ⊢
 cases e:zex t with
 |none=>rw[e]at h;cases h
 |some m=>
  rw[zs1 e (by omega)]
  rw[e]at h
  dsimp only at h ⊢
  split at h
  ·cases h
  ·rename_i h1
   rw[if_neg h1]
   split at h
   ·rename_i h2;rw[if_pos h2];exact h
   ·rename_i h2
    rw[if_neg h2]
    split at h
    ·rename_i h3
     cases e2:zex (t.drop 6)with
     |none=>rw[e2]at h;cases h
     |some q=>
      rw[e2]at h
      dsimp only at h
      split at h
      ·rename_i h4
       have hk:k=12:=by simp at h;omega
       subst hk
       have e3:((t.take n).drop 4).take 2=[92,117]:=by
        rw[C9,CX,CF (by omega)];exact h3
       have e4:zex ((t.take n).drop 6)=some q:=by
        rw[C9];exact zs1 e2 (by omega)
       rw[if_pos e3,e4]
       dsimp only
       rw[if_pos h4];exact h
      ·cases h
    ·cases h
theorem zct(h:1<=n):(l.take n).head?=l.head?:=by
 cases l with
 |nil=>simp
 |cons c l=>obtain⟨m,rfl⟩:∃m,n=m+1:=⟨n-1,by omega⟩;rfl
theorem zzj(hl:l≠[])(h:J9 l=some (r,k))(hn:k<=n):J9 (l.take n)=some (r,k):=by
 have hk:=(wa hl h).1
 unfold J9 at h ⊢
 rw[zct (by omega)]
 split at h
 ·rename_i h1
  rw[if_pos h1]
  obtain⟨h2,_,_,_⟩:=zjm h
  match l,h with
  |a::c::t,h=>
   obtain⟨m,rfl⟩:∃m,n=m+2:=⟨n-2,by omega⟩
   rw[Be,Be]
   unfold z6r at h ⊢
   dsimp only at h ⊢
   cases e:z1c c with
   |some q=>rw[e]at h;exact h
   |none=>
    rw[e]at h
    dsimp only at h ⊢
    split at h
    ·rename_i h3;rw[if_pos h3];exact z2r h (by omega)
    ·cases h
 ·rename_i h1
  rw[if_neg h1]
  split at h
  ·cases h
  ·rename_i h2
   have hb:zej (dec l)=false:=by
    cases hb:zej (dec l)with
    |true=>exact absurd (.inr hb) h2
    |false=>rfl
   have h:=Aq h
   rw[z8m hb (by rw[h];exact hn),if_neg h2,h]
theorem zzk:∀(k:Nat) (l:Bs) (n:Nat),l.length=k->(Yy l).2.2=true->(Yy l).2.1<=n->Yy (l.take n)=Yy l:=by
 intro k
 induction k using Du with
 |_ k ih=>
  intro l n hl h1 h2
  by_cases h:l=[]
  ·subst h;simp
  ·have hp:=Bn.2 h
   rw[Z4 h]at h1 h2 ⊢
   by_cases hh:l.head?=some 34
   ·rw[if_pos hh]at h1 h2 ⊢
    have h2:1<=n:=h2
    have Z:l.take n≠[]:=by intro e;rw[List.take_eq_nil_iff]at e;rcases e with e|e;omega;exact h e
    rw[Z4 Z,if_pos (by rw[zct h2];exact hh)]
   ·rw[if_neg hh]at h1 h2 ⊢
    cases e:J9 l with
    |none=>rw[e]at h1;cases h1
    |some x=>
     obtain⟨r,m⟩:=x
     rw[e]at h1 h2
     dsimp only at h1 h2 ⊢
     obtain⟨n1,_,n2,_⟩:=wa h e
     have Z:l.take n≠[]:=by intro e;rw[List.take_eq_nil_iff]at e;rcases e with e|e;omega;exact h e
     have hd:(l.take n).drop m=(l.drop m).take (n-m):=C9
     have:=ih (l.drop m).length (by rw[AC];omega) (l.drop m) (n-m) rfl h1 (by omega)
     rw[Z4 Z,if_neg (by rw[zct (by omega)];exact hh),zzj h e (by omega)]
     dsimp only
     rw[hd,this]
def pc(s:Bs)(lo hi:Nat):Bs:=(s.drop lo).take (hi-lo)
theorem zl2(h:lo<=a):(pc s lo hi).drop (a-lo)=(s.drop a).take (hi-a):=by
 unfold pc
 rw[C9,BR,show lo+(a-lo)=a from by omega,show hi-lo-(a-lo)=hi-a from by omega]
theorem z4h(h:hi<=s.length):(pc s lo hi).length=hi-lo:=by
 unfold pc;rw[A1,AC];omega
theorem zzl(h:lo<=a)(ok:(yj s a).2.2=0)(he:(yj s a).2.1<=hi):yj (pc s lo hi) (a-lo)=((yj s a).1,(yj s a).2.1-lo,0):=by
 unfold yj at ok he ⊢
 by_cases hh:(s.drop a).head?=some 34
 ·rw[if_pos hh]at ok he ⊢
  dsimp only at ok he ⊢
  cases hq:(Yy (s.drop (a+1))).2.2 with
  |false=>rw[hq]at ok;cases ok
  |true=>
   rw[hq]at he
   simp only[if_true]at he ⊢
   rw[zl2 h,zct (by omega),if_pos hh]
   have e1:(pc s lo hi).drop (a-lo+1)=(s.drop (a+1)).take (hi-(a+1)):=by
    rw[show a-lo+1=a+1-lo from by omega];exact zl2 (by omega)
   rw[e1,zzk _ _ _ rfl hq (by omega),hq]
   simp only[if_true]
   rw[show a-lo+1+(Yy (s.drop (a+1))).2.1=a+1+(Yy (s.drop (a+1))).2.1-lo from by omega]
 ·rw[if_neg hh]at ok;cases ok
theorem zfg{p:UInt8->Bool}:∀{l:Bs} {n:Nat},Zh p l<=n->Zh p (l.take n)=Zh p l
 |[],n,h=>by simp
 |c::l,n,h=>by
  unfold Zh at h ⊢
  cases hc:p c with
  |false=>
   cases n with
   |zero=>simp[hc]
   |succ n=>simp[hc]
  |true=>
   rw[List.takeWhile_cons,if_pos hc,Aw]at h
   obtain⟨m,rfl⟩:∃m,n=m+1:=⟨n-1,by omega⟩
   have:=zfg (p:=p) (l:=l) (n:=m) (by unfold Zh;omega)
   unfold Zh at this
   rw[Be,List.takeWhile_cons,if_pos hc,List.takeWhile_cons,if_pos hc,Aw,Aw,this]
theorem z2s(h:lo<=a)(ha:a<s.length)(ok:(Zi s a).2.2=0)(he:(Zi s a).2.1<=hi):Zi (pc s lo hi) (a-lo)=((Zi s a).1,(Zi s a).2.1-lo,0):=by
 have hd:s.drop a=s[a]::s.drop (a+1):=AF ha
 have Z:=(Ze ha ok).1
 have aa:(pc s lo hi).drop (a-lo)=s[a]::(s.drop (a+1)).take (hi-a-1):=by
  rw[zl2 h,hd]
  obtain⟨m,hm⟩:∃m,hi-a=m+1:=⟨hi-a-1,by omega⟩
  rw[hm,Be,Nat.add_sub_cancel]
 have hw:s[a]::(s.drop (a+1)).take (hi-a-1)=(s[a]::s.drop (a+1)).take (hi-a):=by
  obtain⟨m,hm⟩:∃m,hi-a=m+1:=⟨hi-a-1,by omega⟩
  rw[hm,Be,Nat.add_sub_cancel]
 unfold Zi at ok he Z ⊢
 rw[hd]at ok he Z ⊢
 rw[aa,hw]
 generalize hl:s[a]::s.drop (a+1)=l at *
 obtain⟨m,hm⟩:∃m,hi-a=m+1:=⟨hi-a-1,by omega⟩
 subst hl
 rw[hm,Be]
 dsimp only at ok he Z ⊢
 rw[<-Be,<-hm]
 split
 ·rename_i h1
  rw[show a-lo+1=a+1-lo from by omega]
 ·rename_i h1
  rw[if_neg h1]at ok he Z
  split
  ·rename_i h2
   rw[if_pos h2]at he
   dsimp only at he
   rw[zfg (by omega),show a-lo+Zh (xe zaa) (s[a]::s.drop (a+1))=a+Zh (xe zaa) (s[a]::s.drop (a+1))-lo from by omega]
  ·rename_i h2
   rw[if_neg h2]at ok he Z
   split
   ·rename_i h3
    rw[if_pos h3]at ok he Z
    split at ok
    ·rename_i h4
     rw[if_pos h4]at he
     rw[zzl h h4 he,if_pos rfl,if_pos h4]
    ·rename_i h4;exact absurd ok h4
   ·rename_i h3
    rw[if_neg h3]at ok he Z
    split
    ·rename_i h4
     rw[if_pos h4]at ok he Z
     split at ok
     ·rename_i h5
      rw[if_pos h5]at he
      dsimp only at he
      rw[zfg (by omega),CX,CF (by omega),if_pos h5,if_pos h5,show a-lo+Zh (xe zhh) (s[a]::s.drop (a+1))=a+Zh (xe zhh) (s[a]::s.drop (a+1))-lo from by omega]
     ·rename_i h5;exact absurd ok h5
    ·rename_i h4
     rw[if_neg h4]at ok he Z
     split at ok
     ·cases ok
     ·rename_i h5
      rw[if_neg h5]at he
      dsimp only at he
      rw[zfg (by omega),CX,CF (by omega),if_neg h5,if_neg h5,show a-lo+Zh (xe js) (s[a]::s.drop (a+1))=a+Zh (xe js) (s[a]::s.drop (a+1))-lo from by omega]
end
section
variable {s:Bs} {a b m lo hi:Nat}
inductive Lex (s:Bs):Nat->Nat->List Tk->Prop
 |nil {i:Nat}:Lex s i i []
 |cons {i j:Nat} {T:List Tk}:i<s.length->(Zi s i).2.2=0->Lex s (Zi s i).2.1 j T->Lex s i j (((Zi s i).1,((i:Int),((Zi s i).2.1:Int)))::T)
theorem zoy:∀(f:Nat) (s:Bs) (a:Nat) (o:List Tk),(Qj f s a o).2.2=0->s.length-a<=f->a<=s.length->∃T,(Qj f s a o).1=o++T/\Lex s a s.length T
 |0,s,a,o,h,hf,ha=>by
  have:a=s.length:=by omega
  subst this
  exact⟨[],by simp[Qj],.nil⟩
 |f+1,s,a,o,h,hf,ha=>by
  rw[Qj]at h ⊢
  split at h
  ·rename_i h1
   rw[if_pos h1]
   split at h
   ·rename_i h2
    rw[if_pos h2]
    have hp:=Ze h1 h2
    obtain⟨T,e,L⟩:=zoy f s _ _ h (by omega) hp.2
    exact⟨_::T,by rw[e];simp,.cons h1 h2 L⟩
   ·rename_i h2;exact absurd h h2
  ·rename_i h1
   rw[if_neg h1]
   have:a=s.length:=by omega
   subst this
   exact⟨[],by simp,.nil⟩
theorem Lex.le{T:List Tk}(H:Lex s a b T):a+T.length<=b/\(T≠[]->b<=s.length):=by
 induction H with
 |nil=>exact⟨by simp,λh=>absurd rfl h⟩
 | @cons a b T h1 h2 h3 ih=>
  have hp:=Ze h1 h2
  refine⟨by simp only[Aw];omega,λ_=>?_⟩
  cases h3 with
  |nil=>exact hp.2
  |cons=>exact ih.2 (by simp)
theorem zzm{T:List Tk}(H:Lex s a b T):∀(f:Nat) (o:List Tk),b=s.length->T.length<=f->Qj f s a o=(o++T,s.length,0):=by
 induction H with
 | @nil a=>
  intro f o hb hf
  subst hb
  cases f with
  |zero=>simp[Qj]
  |succ f=>rw[Qj,if_neg (by omega)];simp
 | @cons a b T h1 h2 h3 ih=>
  intro f o hb hf
  obtain⟨g,rfl⟩:∃g,f=g+1:=⟨f-1,by simp at hf;omega⟩
  rw[Qj,if_pos h1,if_pos h2,ih g _ hb (by simpa using hf)]
  simp
theorem zzn{T:List Tk}(H:Lex s 0 s.length T)(hs:s.length<=65536):ym s=(T,s.length,0):=by
 unfold ym
 rw[if_neg (by omega),zzm H _ _ rfl (by have:=H.le.1;omega),Bc]
theorem zhe(h:(ym s).2.2=0):s.length<=65536/\Lex s 0 s.length (ym s).1:=by
 unfold ym at h ⊢
 split at h
 ·cases h
 ·rename_i h1
  rw[if_neg h1]
  obtain⟨T,e,L⟩:=zoy _ _ _ _ h (by omega) (by omega)
  rw[e];exact⟨by omega,L⟩
theorem Lex.split{s:Bs}:∀{T1 T2:List Tk} {a b:Nat},Lex s a b (T1++T2)->∃m,Lex s a m T1/\Lex s m b T2
 |[],T2,a,b,H=>⟨a,.nil,H⟩
 |t::T1,T2,a,b,H=>by
  cases H with
  |cons h1 h2 h3=>
   obtain⟨m,L1,L2⟩:=Lex.split h3
   exact⟨m,.cons h1 h2 L1,L2⟩
theorem Lex.append{T1 T2:List Tk}(H:Lex s a m T1)(H2:Lex s m b T2):Lex s a b (T1++T2):=by
 induction H with
 |nil=>exact H2
 |cons h1 h2 _ ih=>exact .cons h1 h2 (ih H2)
theorem Lex.tok{T:List Tk}(H:Lex s a b T):∀t∈T,(a:Int)<=t.2.1/\t.2.1<t.2.2/\t.2.2<=(b:Int)/\b<=s.length:=by
 induction H with
 |nil=>intro t ht;cases ht
 | @cons a b T h1 h2 h3 ih=>
  have hp:=Ze h1 h2
  have Z:=h3.le
  intro t ht
  rcases Af.1 ht with rfl|ht
  ·refine⟨by dsimp only;omega,by dsimp only;omega,by dsimp only;omega,?_⟩
   cases h3 with
   |nil=>exact hp.2
   |cons=>exact Z.2 (by simp)
  ·have:=ih t ht
   exact⟨by omega,this.2.1,this.2.2.1,this.2.2.2⟩
theorem Lex.head{t:Tk}{T:List Tk}(H:Lex s a b (t::T)):t.2.1=(a:Int):=by
 cases H with
 |cons=>rfl
theorem Lex.last{t:Tk}{T:List Tk}(H:Lex s a b (T++[t])):t.2.2=(b:Int):=by
 obtain⟨m,_,L⟩:=H.split
 cases L with
 |cons h1 h2 h3=>
  cases h3
  rfl
def shT(k:Nat)(t:Tk):Tk:=(t.1,t.2.1-(k:Int),t.2.2-(k:Int))
theorem Lex.cut(hh:hi<=s.length){T:List Tk}(H:Lex s a b T):lo<=a->b<=hi->Lex (pc s lo hi) (a-lo) (b-lo) (T.map (shT lo)):=by
 induction H with
 |nil=>intro _ _;exact .nil
 | @cons a b T h1 h2 h3 ih=>
  intro ha hb
  have hp:=Ze h1 h2
  have Z:=h3.le.1
  have e:=z2s ha h1 h2 (hi:=hi) (by omega)
  have hl:=z4h (s:=s) (lo:=lo) hh
  have:=Lex.cons (s:=pc s lo hi) (i:=a-lo) (j:=b-lo) (T:=T.map (shT lo)) (by rw[hl];omega) (by rw[e]) (by rw[e];exact ih (by omega) hb)
  rw[A4]
  rw[e]at this
  have et:shT lo ((Zi s a).1,((a:Int),((Zi s a).2.1:Int)))=((Zi s a).1,(((a-lo:Nat):Int),(((Zi s a).2.1-lo:Nat):Int))):=by
   unfold shT
   dsimp only
   rw[show((a-lo:Nat):Int)=(a:Int)-(lo:Int)from by omega,show(((Zi s a).2.1-lo:Nat):Int)=((Zi s a).2.1:Int)-(lo:Int)from by omega]
  rw[et];exact this
theorem KidsG.map{K K':List Bs->List Bs->Bs×Tr->List Tk->Nat->Prop}{close:Int}{f:Tk->Tk}{G:Tk->Prop}(hf:∀t,(f t).1=t.1)(hK:∀had had' kv C m,K had had' kv C m->(∀t∈C,G t)->K' had had' kv (C.map f) m){had:List Bs}{kvs:List (Bs×Tr)}{D:List Tk}(H:KidsG K close had kvs D m):(∀t∈D,G t)->KidsG K' close had kvs (D.map f) m:=by
 induction H with
 |last hk hc=>
  intro hg
  rw[Cr]
  exact .last (hK _ _ _ _ _ hk λt ht=>hg t (Am _ ht)) (by rw[hf];exact hc)
 |more hk hq _ ih=>
  intro hg
  rw[Cr,A4]
  exact .more (hK _ _ _ _ _ hk λt ht=>hg t (Am _ ht)) (by rw[hf];exact hq) (ih λt ht=>hg t (Au _ (Ae _ ht)))
theorem z4i{s u:Bs}{f:Tk->Tk}{G:Tk->Prop}(hf:∀t,(f t).1=t.1)(hs:∀t,G t->qq u (f t).2=qq s t.2/\Q9 u (f t).2=Q9 s t.2):∀(d d2:Nat) (v:Tr) (C:List Tk) (m:Nat),d<=d2->PV s d v C m->(∀t∈C,G t)->PV u d2 v (C.map f) m
 |0,d2,v,C,m,_,h,_=>h.elim
 |d+1,d2,v,C,m,hd,h,hg=>by
  obtain⟨e,rfl⟩:∃e,d2=e+1:=⟨d2-1,by omega⟩
  have ih:=z4i hf hs d e
  have ah:∀had had' kv C m,KA (PV s d) had had' kv C m->(∀t∈C,G t)->KA (PV u e) had had' kv (C.map f) m:=λhad had' kv C m ⟨h1,h2⟩ hg=>⟨h1,ih _ _ _ (by omega) h2 hg⟩
  have af:∀had had' kv C m,KO s (PV s d) had had' kv C m->(∀t∈C,G t)->KO u (PV u e) had had' kv (C.map f) m:=by
   rintro had had' kv C m ⟨t,q,C',rfl,ht,hq,ae,aa,Z,ab,hp⟩ hg
   obtain⟨g1,g2⟩:=hs t (hg t Aj)
   exact⟨f t,f q,C'.map f,rfl,by rw[hf];exact ht,by rw[hf];exact hq,by rw[g2];exact ae,by rw[g1,g2];exact aa,Z,ab,ih _ _ _ (by omega) hp λx hx=>hg x (Ae _ (Ae _ hx))⟩
  obtain⟨t,hh|⟨c,hC,hh,hm⟩|⟨D,kvs,m',hC,ht,hD,hv,hm⟩|⟨D,kvs,m',hC,ht,hD,hv,hm⟩⟩:=h
  ·obtain⟨hC,k0,k5,k6,hv,hm⟩:=hh
   subst hC
   refine⟨f t,.inl ⟨rfl,by rw[hf];exact k0,by rw[hf];exact k5,by rw[hf];exact k6,?_,hm⟩⟩
   rw[hf,(hs t (hg t Aj)).1];exact hv
  ·subst hC
   exact⟨f t,.inr (.inl ⟨f c,rfl,by rw[hf,hf];exact hh,hm⟩)⟩
  ·subst hC
   exact⟨f t,.inr (.inr (.inl ⟨D.map f,kvs,m',rfl,by rw[hf];exact ht,hD.map hf ah λx hx=>hg x (Ae _ hx),hv,hm⟩))⟩
  ·subst hC
   exact⟨f t,.inr (.inr (.inr ⟨D.map f,kvs,m',rfl,by rw[hf];exact ht,hD.map hf af λx hx=>hg x (Ae _ hx),hv,hm⟩))⟩
theorem Y2{p:Sp}(h0:0<=p.1)(h1:p.1<p.2)(h2:p.2<=(s.length:Int)):qq s p=Q9 s p:=by
 unfold qq;rw[if_neg (by omega)]
theorem z8n{p:Sp}(h0:(lo:Int)<=p.1)(h1:p.1<p.2)(h2:p.2<=(hi:Int)):Q9 (pc s lo hi) (p.1-(lo:Int),p.2-(lo:Int))=Q9 s p:=by
 unfold Q9
 dsimp only
 rw[show(p.1-(lo:Int)).toNat=p.1.toNat-lo from by omega,zl2 (by omega),CX,show min ((p.2-(lo:Int)).toNat-(p.1.toNat-lo)) (hi-p.1.toNat)=p.2.toNat-p.1.toNat from by omega]
theorem zq4{T pre C post:List Tk}{c:Tk}(h:qc T=pre++(C++[c])++post){c0:Tk}{C0:List Tk}(h0:C++[c]=c0::C0):∃T1 T2 T3,T=T1++(c0::T2)++T3/\qc (c0::T2)=C++[c]/\∃T4,c0::T2=T4++[c]:=by
 unfold qc at h ⊢
 rw[AQ,AQ]at h
 obtain⟨A,B,hT,hA,hB⟩:=List.filter_eq_append_iff.1 h
 have af:List.filter (λt:Tk=>decide (t.1≠1)) B=c0::(C0++post):=by
  rw[hB,<-AQ,h0];rfl
 obtain⟨B1,B2,e1,e2,e3,e4⟩:=List.filter_eq_cons_iff.1 af
 have aa:List.filter (λt:Tk=>decide (t.1≠1)) (c0::B2)=C++(c::post):=by
  rw[List.filter_cons_of_pos (p:=λt:Tk=>decide (t.1≠1)) e3,e4,<-AO,<-h0];simp
 obtain⟨D1,D2,f1,f2,f3⟩:=List.filter_eq_append_iff.1 aa
 obtain⟨E1,E2,g1,g2,g3,g4⟩:=List.filter_eq_cons_iff.1 f3
 have ae:List.filter (λt:Tk=>decide (t.1≠1)) E1=[]:=by
  rw[List.filter_eq_nil_iff];exact g2
 have Z:c0::B2=(D1++E1++[c])++E2:=by rw[f1,g1];simp
 cases hd:D1++E1 with
 |nil=>
  rw[hd]at Z
  simp only[Bc,AO,Bu]at Z
  obtain⟨rfl,rfl⟩:=Z
  have ab:D1=[]:=(List.append_eq_nil_iff.1 hd).1
  rw[ab]at f2
  simp only[List.filter_nil]at f2
  refine⟨A++B1,[],B2,by rw[hT,e1];simp,?_,[],rfl⟩
  rw[<-f2]
  simp only[Bc]
  rw[List.filter_cons_of_pos (p:=λt:Tk=>decide (t.1≠1)) e3];rfl
 |cons x l=>
  rw[hd]at Z
  simp only[AO,Bu]at Z
  obtain⟨rfl,ah⟩:=Z
  refine⟨A++B1,l++[c],E2,by rw[hT,e1,ah];simp,?_,c0::l,rfl⟩
  rw[<-AO,<-hd,List.filter_append,List.filter_append,f2,ae,AW,List.filter_cons_of_pos (p:=λt:Tk=>decide (t.1≠1)) g3];rfl
theorem zq5{T:List Tk}{f:Tk->Tk}(hf:∀t,(f t).1=t.1):qc (T.map f)=(qc T).map f:=by
 unfold qc
 rw[List.filter_map]
 congr 1
 refine List.filter_congr λt _=>?_
 simp only[Function.comp,hf]
theorem zzo(he:(ju s).2.2=0):(ym s).2.2=0/\∃v C m,PV s 32 v C m/\m<=4096/\qc (ym s).1=C/\Made s 32 0 (0,0) (ju s).1.2 v C m:=by
 have ht:(ym s).2.2=0:=by
  unfold ju at he
  split at he
  ·assumption
  ·exact he
 refine⟨ht,?_⟩
 obtain⟨hs,L⟩:=zhe ht
 have hw:WfT s (qc (ym s).1):=λt h=>by
  have:=L.tok t (Dv.1 h).1
  exact Y2 (by omega) this.2.1 (by omega)
 unfold ju at he ⊢
 rw[if_pos ht]at he ⊢
 cases e:Y3 s 32 (0,0) ⟨qc (ym s).1,0,[]⟩with
 |inr x=>
  rw[e]at he
  dsimp only at he
  exfalso
  exact z1i s 32 _ _ _ e he
 |inl st=>
  rw[e]at he
  dsimp only at he ⊢
  split at he
  ·rename_i hr
   rw[if_pos hr]
   obtain⟨v,C,m,h1,h2,h3,h4⟩:=zjz 32 _ _ _ e hw (by simp)
   rw[hr,AW]at h2
   have h2:qc (ym s).1=C:=h2
   have hm:m<=4096:=by simp only[BE]at h3;omega
   obtain⟨_,_,g⟩:=zcs 32 v C m h1
   obtain⟨new,e2,M⟩:=g (0,0) ⟨qc (ym s).1,0,[]⟩ [] (by rw[h2];simp) (by simp at h3 ⊢;omega)
   rw[e2]at e
   simp only[Sum.inl.injEq]at e
   subst e
   simp only[Bc,BE]at h3 M ⊢
   exact⟨v,C,m,h1,hm,h2,M⟩
  ·cases he
theorem zuz(he:(ju s).2.2=0){k:Nat}{x:Nd}(hx:(ju s).1.2[k]?=some x):∃n:Int,Qq (qq s x.2.1)=(qw s (ju s).1.2 33 k,n,0):=by
 obtain⟨ht,v,C,m,hp,hm,hC,M⟩:=zzo he
 obtain⟨hs,L⟩:=zhe ht
 obtain⟨d',v',C',pre,post,m',g1,g2,g3,g4,g5⟩:=M.sub k (Av.1 hx).1
 obtain⟨gv,y,gy,gs⟩:=g5 (ju s).1.2 (λi y hy=>by rw[Ay];exact hy) 33 (by omega)
 rw[Ay]at gv gy
 have:y=x:=Aq (gy.symm.trans hx)
 subst this
 rw[gv,gs]
 obtain⟨q1,⟨c0,C0,ae,_⟩,q3⟩:=zcs d' v' C' m' g2
 have ak:C'≠[]:=by rw[ae];simp
 obtain⟨Cb,c,Z⟩:∃Cb c,C'=Cb++[c]:=⟨C'.dropLast,C'.getLast ak,(List.dropLast_concat_getLast ak).symm⟩
 obtain⟨T1,T2,T3,e1,e2,T4,e3⟩:=zq4 (T:=(ym s).1) (pre:=pre) (C:=Cb) (post:=post) (c:=c) (by rw[hC,g3,Z]) (by rw[<-Z];exact ae)
 rw[e1,AQ]at L
 obtain⟨a,L1,L⟩:=L.split
 obtain⟨b,L2,L3⟩:=L.split
 have ha:=L2.head
 have hb:c.2.2=(b:Int):=by rw[e3]at L2;exact L2.last
 have ah:=L2.le
 have am:b<=s.length:=ah.2 (by simp)
 have ar:a<=b:=by omega
 have ab:z2p C'=((a:Int),(b:Int)):=by
  unfold z2p
  rw[show C'.head?=some c0 from by rw[ae];rfl,show C'.getLast?=some c from by rw[Z];simp]
  simp only[Dw,Option.getD_some]
  rw[ha,hb]
 rw[ab]
 have au:a<b:=by simp only[Aw]at ah;omega
 have hu:qq s ((a:Int),(b:Int))=pc s a b:=by
  rw[Y2 (by dsimp only;omega) (by dsimp only;omega) (by dsimp only;omega)]
  unfold Q9 pc
  simp only[Ah]
 rw[hu]
 have af:=z4h (s:=s) (lo:=a) am
 have Lu:=L2.cut am (lo:=a) (hi:=b) (Ad _) (Ad _)
 rw[Ed,<-af]at Lu
 have hT:=zzn Lu (by rw[af];omega)
 have ap:qc (ym (pc s a b)).1=C'.map (shT a):=by
  rw[hT]
  dsimp only
  rw[zq5 (f:=shT a) λt=>rfl,e2,<-Z]
 have an:PV (pc s a b) 32 v' (C'.map (shT a)) m':=by
  refine z4i (s:=s) (f:=shT a) (G:=λt=>(a:Int)<=t.2.1/\t.2.1<t.2.2/\t.2.2<=(b:Int)) (λt=>rfl) (λt ⟨h1,h2,h3⟩=>?_) d' 32 v' C' m' g1 g2 λt ai=>?_
  ·have aa:=z8n (s:=s) h1 h2 h3
   have e4:qq (pc s a b) (shT a t).2=Q9 (pc s a b) (shT a t).2:=Y2 (by show 0<=t.2.1-(a:Int);omega) (by show t.2.1-(a:Int)<t.2.2-(a:Int);omega) (by rw[af];show t.2.2-(a:Int)<=_;omega)
   rw[e4]
   exact⟨aa.trans (Y2 (by omega) h2 (by omega)).symm,aa⟩
  ·rw[Z,<-e2]at ai
   have:=L2.tok t (Dv.1 ai).1
   exact⟨this.1,this.2.1,this.2.2.1⟩
 obtain⟨_,_,w3⟩:=zcs 32 v' _ m' an
 obtain⟨new,f1,f2⟩:=w3 (0,0) ⟨C'.map (shT a),0,[]⟩ [] (by simp) (by simp;omega)
 have aj:ju (pc s a b)=((pc s a b,new),((pc s a b).length:Int),0):=by
  unfold ju
  rw[ap,hT]
  dsimp only
  rw[if_pos rfl,f1]
  dsimp only
  rw[if_pos rfl,Bc]
 refine⟨((pc s a b).length:Int),?_⟩
 unfold Qq
 rw[aj]
 dsimp only
 rw[if_pos rfl]
 have:=f2.val new (λi y hy=>by simp only[BE,Ay];exact hy) 33 (by omega)
 simp only[BE]at this
 rw[this]
end
section
variable {l:Bs} {u:Nat}
theorem qbs{k:Nat}(h:k<10):(BX (48+k)).toNat=48+k:=by
 rw[UInt8.toNat_ofNat'];omega
theorem Xf:∀(n u:Nat),u<=n->(decDigits u).all qs=true/\decDigits u≠[]/\zk (decDigits u)=u/\(1<=u->(decDigits u).head?≠some 48)
 |0,u,h=>by
  have:u=0:=by omega
  subst this
  rw[decDigits,dif_pos (by omega)]
  exact⟨by decide,by simp,by decide,λh=>by omega⟩
 |n+1,u,h=>by
  by_cases hu:u<10
  ·rw[decDigits,dif_pos hu]
   refine⟨?_,by simp,?_,λh1=>?_⟩
   ·simp only[C6,List.all_nil,C7,qs,qbs hu]
    simp;omega
   ·simp only[zk,List.foldl_cons,List.foldl_nil,qbs hu];omega
   ·intro e
    simp only[List.head?_cons,Aa]at e
    have:=congrArg UInt8.toNat e
    rw[qbs hu]at this
    have Z:(48:UInt8).toNat=48:=rfl
    omega
  ·rw[decDigits,dif_neg hu]
   obtain⟨h1,h2,h3,h4⟩:=Xf n (u / 10) (by omega)
   have hm:u % 10<10:=Nat.mod_lt _ (by omega)
   refine⟨?_,by simp,?_,λ_=>?_⟩
   ·rw[D4,h1]
    simp only[C6,List.all_nil,C7,Cd,qs,qbs hm]
    simp;omega
   ·rw[zgx,h3,qbs hm];omega
   ·obtain⟨c,t,e⟩:=A6 h2
    have:=h4 (by omega)
    rw[e]at this ⊢
    exact this
theorem zfh{c:UInt8}(h:l.all qs=true)(hc:qs c=false):l.head?≠some c:=by
 cases l with
 |nil=>simp
 |cons b t=>
  simp only[C6,AY]at h
  simp only[List.head?_cons,ne_eq,Aa]
  rintro rfl
  rw[h.1]at hc;cases hc
theorem zs2(h:l.head?≠some 48):l.dropWhile (· == 48)=l:=by
 cases l with
 |nil=>rfl
 |cons b t=>
  simp only[List.head?_cons,ne_eq,Aa]at h
  rw[List.dropWhile_cons,if_neg (by simpa using h)]
theorem z8o(h:l.head?≠some 48)(h2:l.getLast?≠some 48):yu l=l:=by
 unfold yu
 rw[zs2 h,zs2 (by rw[List.head?_reverse];exact h2),List.reverse_reverse]
theorem Xg:∀(k u:Nat),u<10 ^ (k+1)->(decDigits u).length<=k+1
 |0,u,h=>by rw[decDigits,dif_pos (by omega)];exact Ad _
 |k+1,u,h=>by
  by_cases hu:u<10
  ·rw[decDigits,dif_pos hu];simp
  ·have:=Xg k (u / 10) (by rw[DV]at h;omega)
   rw[decDigits,dif_neg hu,Ap]
   simpa using this
theorem Zz(h:u<=1000000):(decDigits u).length<=9:=Xg 8 u (by omega)
theorem z8p(u:Nat):itoa (u:Int)=decDigits u:=by unfold itoa;rw[if_neg (by omega)];simp
theorem z8q(h:1<=u):itoa (-(u:Int))=45::decDigits u:=by unfold itoa;rw[if_pos (by omega)];simp
theorem zl3{n:Nm}(h:yr n=true):zn (ye n)=(n,0):=by
 obtain⟨neg,d,e⟩:=n
 by_cases aa:d=[]
 ·have hn:=zgu h aa
  subst aa
  unfold W5 at hn
  simp at hn
  obtain⟨rfl,rfl⟩:=hn
  rfl
 ·have hr:W5 (neg,d,e)=false:=by
   unfold W5
   cases d with
   |nil=>exact absurd rfl aa
   |cons c t=>simp
  have hx:=h
  unfold yr at hx
  rw[hr,Dx]at hx
  simp only[AY,decide_eq_true_eq,bne_iff_ne,ne_eq]at hx
  obtain⟨⟨⟨⟨⟨ax,hl⟩,hh⟩,an⟩,aM⟩,aN⟩:=hx
  have ae:=Xs ax
  obtain⟨u,hu,aA⟩:∃u:Nat,u<=1000000/\(e=(u:Int)\/e=-(u:Int)/\1<=u):=by
   by_cases h0:e<0
   ·exact⟨e.natAbs,by omega,.inr ⟨by omega,by omega⟩⟩
   ·exact⟨e.toNat,by omega,.inl (by omega)⟩
  obtain⟨f1,f2,f3,f4⟩:=Xf u u (Ad _)
  have ay:∀c∈d,isE c=false:=λc hc=>by
   have:=AX.1 ae c hc
   unfold qs at this
   simp at this
   unfold isE
   simp only[BZ,beq_eq_false_iff_ne,ne_eq]
   constructor <;> (rintro rfl;revert this;decide)
  have aJ:∀c∈d,zp4 c=false:=λc hc=>by
   have:=AX.1 ae c hc
   unfold qs at this
   simp at this
   unfold zp4
   simp only[beq_eq_false_iff_ne,ne_eq]
   rintro rfl;revert this;decide
  generalize hX:(if e=0 then []else 101::itoa e:Bs)=X
  have ah:ye (neg,d,e)=(if neg then [45]else [])++d++X:=by
   unfold ye
   rw[if_pos h,if_neg aa,hX]
  have ak:qs 45=false:=by decide
  have hS:zxe (ye (neg,d,e))=d++X:=by
   rw[ah]
   unfold zxe
   cases neg with
   |true=>simp
   |false=>
    have:(d++X).head?≠some 45:=by
     obtain⟨c,t,rfl⟩:=A6 aa
     exact zfh (l:=c::t) ae ak
    simp only[A3,if_false,Bc]
    rw[if_neg (by simpa using this)]
  have aB:((ye (neg,d,e)).head?==some 45)=neg:=by
   rw[ah]
   cases neg with
   |true=>simp
   |false=>
    have:(d++X).head?≠some 45:=by
     obtain⟨c,t,rfl⟩:=A6 aa
     exact zfh (l:=c::t) ae ak
    simpa using this
  have aE:cutAt zp4 d=(d,[],false):=Xr aJ
  have au:=zs2 hh
  have aF:=z8o hh an
  have am:∀(low:Bool) (ex:Bs) (af:Bool),Yv (ye (neg,d,e))=(d,(Yv (ye (neg,d,e))).2.1,af)->Q2 (ye (neg,d,e))=low->(af=true->J8 (zjg (ye (neg,d,e)))=true)->(if af then zjg (ye (neg,d,e))else [])=ex->(ex.dropWhile (· == 48)).length<=9->(if low then-(zk (ex.dropWhile (· == 48)):Int)else zk (ex.dropWhile (· == 48)))=e->zn (ye (neg,d,e))=((neg,d,e),0):=by
   intro low ex af hM Z az aH h9 aI
   have hW:Zw (ye (neg,d,e))=(d,[],false):=by unfold Zw;rw[hM];exact aE
   have aG:zgv (ye (neg,d,e))=true:=by
    unfold zgv
    rw[hW,hM,ax]
    cases af with
    |true=>rw[az rfl];simp;exact .inr hh
    |false=>simp;exact .inr hh
   have aL:zew (ye (neg,d,e))=⟨neg,d,[],low,ex⟩:=by
    unfold zew
    rw[hW,aB,Z,show(Yv (ye (neg,d,e))).2.2=af from by rw[hM],aH]
   unfold zn W6
   rw[if_pos aG,aL]
   dsimp only
   rw[if_neg (by simp;omega),if_neg (by omega),aI,AW,au,aF,if_neg aa,if_pos (by simp;omega)]
   simp
  by_cases h0:e=0
  ·subst h0
   have ap:X=[]:=by rw[<-hX];rfl
   subst ap
   have hM:Yv (ye (neg,d,0))=(d,[],false):=by unfold Yv;rw[hS,AW];exact Xr ay
   exact am false [] false (by rw[hM]) (by unfold Q2;rw[hM];rfl) (λh=>by cases h) rfl (by simp) (by simp[zk])
  ·have ap:X=101::itoa e:=by rw[<-hX,if_neg h0]
   subst ap
   have hM:Yv (ye (neg,d,e))=(d,itoa e,true):=by
    unfold Yv
    rw[hS]
    have:=zk8 (p:=isE) (l:=d++101::itoa e) (k:=d.length) (by simp) (λi hi=>by
     rw[CQ hi];exact ay _ (AL hi)) (by simp;decide)
    rw[this]
    simp
   have ar:1<=u:=by rcases aA with h|h <;> omega
   have ab:=zs2 (f4 ar)
   have aC:J8 (decDigits u)=true:=by
    unfold J8
    rw[f1,Cd]
    cases hq:decDigits u with
    |nil=>exact absurd hq f2
    |cons=>rfl
   rcases aA with aj|⟨ai,_⟩
   ·have hi:itoa e=decDigits u:=by rw[aj,z8p]
    have Z:Q2 (ye (neg,d,e))=false:=by
     unfold Q2;rw[hM,hi]
     have:=zfh f1 ak
     simpa using this
    have hE:zjg (ye (neg,d,e))=decDigits u:=by
     unfold zjg
     rw[Z,hM,hi]
     have:=zfh f1 (show qs 43=false by decide)
     simp only[A3,if_false]
     rw[if_neg (by simpa using this)]
    exact am false (decDigits u) true (by rw[hM]) Z (λ_=>by rw[hE];exact aC) (by rw[hE];rfl) (by rw[ab];exact Zz hu) (by rw[ab,f3];exact aj.symm)
   ·have hi:itoa e=45::decDigits u:=by rw[ai,z8q ar]
    have Z:Q2 (ye (neg,d,e))=true:=by
     unfold Q2;rw[hM,hi];rfl
    have hE:zjg (ye (neg,d,e))=decDigits u:=by
     unfold zjg
     rw[Z,hM,hi];rfl
    exact am true (decDigits u) true (by rw[hM]) Z (λ_=>by rw[hE];exact aC) (by rw[hE];rfl) (by rw[ab];exact Zz hu) (by rw[ab,f3];exact ai.symm)
end
section
variable {r a m:Nat} {s:Bs} {close:Int}
def z4j(r:Nat):Prop:=r<55296\/(57344<=r/\r<=1114111)
theorem zz1{x:Int}(h0:0<=x)(h1:x<256):(x.toNat.toUInt8).toNat=x.toNat:=by
 rw[Nat.toUInt8,UInt8.toNat_ofNat'];omega
theorem dec_enc(h:z4j r)(m:Bs):dec (encodeRune (r:Int)++m)=(r,(encodeRune (r:Int)).length)/\1<=(encodeRune (r:Int)).length/\(128<=r->2<=(encodeRune (r:Int)).length):=by
 unfold z4j at h
 by_cases h1:r<=127
 ·have e:encodeRune (r:Int)=[(r:Int).toNat.toUInt8]:=by unfold encodeRune;rw[encodeRuneZ_one (by omega) (by omega)];rfl
  rw[e]
  have b0:=zz1 (x:=(r:Int)) (by omega) (by omega)
  refine⟨?_,by simp,λh=>by omega⟩
  rw[Dz,Yq (by rw[b0];omega),b0];simp
 ·by_cases h2:r<=2047
  ·have e:encodeRune (r:Int)=[(192+(r:Int) / 64).toNat.toUInt8,(128+(r:Int) % 64).toNat.toUInt8]:=by unfold encodeRune;rw[encodeRuneZ_two (by omega) (by omega)];rfl
   rw[e]
   have b0:=zz1 (x:=192+(r:Int) / 64) (by omega) (by omega)
   have b1:=zz1 (x:=128+(r:Int) % 64) (by omega) (by omega)
   refine⟨?_,by simp,λh=>by simp⟩
   simp only[dec,AO,Bc,List.getD_cons_zero,List.getD_cons_succ,Aw,b0,b1]
   unfold decodeN
   rw[if_neg (by omega),if_pos ⟨by omega,by omega,by omega⟩,if_pos (by omega)]
   simp only[BE,A9,and_true];omega
  ·by_cases h3:r<=65535
   ·have e:encodeRune (r:Int)=[(224+(r:Int) / 4096).toNat.toUInt8,(128+(r:Int) / 64 % 64).toNat.toUInt8,(128+(r:Int) % 64).toNat.toUInt8]:=by unfold encodeRune;rw[encodeRuneZ_three (by omega)];rfl
    rw[e]
    have b0:=zz1 (x:=224+(r:Int) / 4096) (by omega) (by omega)
    have b1:=zz1 (x:=128+(r:Int) / 64 % 64) (by omega) (by omega)
    have b2:=zz1 (x:=128+(r:Int) % 64) (by omega) (by omega)
    refine⟨?_,by simp,λh=>by simp⟩
    simp only[dec,AO,Bc,List.getD_cons_zero,List.getD_cons_succ,Aw,b0,b1,b2]
    unfold decodeN
    rw[if_neg (by omega),if_neg (by omega),if_pos ⟨by omega,⟨by omega,by omega⟩,by omega,by omega⟩,if_pos (by omega)]
    simp only[BE,A9,and_true];omega
   ·have e:encodeRune (r:Int)=[(240+(r:Int) / 262144).toNat.toUInt8,(128+(r:Int) / 4096 % 64).toNat.toUInt8,(128+(r:Int) / 64 % 64).toNat.toUInt8,(128+(r:Int) % 64).toNat.toUInt8]:=by unfold encodeRune;rw[encodeRuneZ_four (by omega) (by omega)];rfl
    rw[e]
    have b0:=zz1 (x:=240+(r:Int) / 262144) (by omega) (by omega)
    have b1:=zz1 (x:=128+(r:Int) / 4096 % 64) (by omega) (by omega)
    have b2:=zz1 (x:=128+(r:Int) / 64 % 64) (by omega) (by omega)
    have b3:=zz1 (x:=128+(r:Int) % 64) (by omega) (by omega)
    refine⟨?_,by simp,λh=>by simp⟩
    simp only[dec,AO,Bc,List.getD_cons_zero,List.getD_cons_succ,Aw,b0,b1,b2,b3]
    unfold decodeN
    rw[if_neg (by omega),if_neg (by omega),if_neg (by omega),if_pos ⟨by omega,⟨by omega,by omega⟩,⟨by omega,by omega⟩,by omega,by omega⟩,if_pos (by omega)]
    simp only[BE,A9,and_true];omega
theorem z2t(h:z4j r)(m:Bs):wo (encodeRune (r:Int)++m)=wo m:=by
 obtain⟨h1,h2,h3⟩:=dec_enc h m
 have Z:encodeRune (r:Int)++m≠[]:=by
  intro e
  have:=(List.append_eq_nil_iff.1 e).1
  rw[this]at h2;simp at h2
 have hb:zej (dec (encodeRune (r:Int)++m))=false:=by
  rw[h1]
  unfold zej
  simp only[CJ,beq_eq_false_iff_ne,ne_eq]
  by_cases hr:r=65533
  ·exact .inr (by have:=h3 (by omega);omega)
  ·exact .inl hr
 rw[Zd Z,hb,h1]
 simp
theorem z2u(l:Bs):z4j (dec l).1:=by
 have h0:=(l.getD 0 0).toNat_lt
 have h1:=(l.getD 1 0).toNat_lt
 have h2:=(l.getD 2 0).toNat_lt
 have h3:=(l.getD 3 0).toNat_lt
 unfold z4j dec decodeN
 repeat' split
 all_goals omega
theorem zu0{l:Bs}{r n:Nat}(h:J9 l=some (r,n)):z4j r:=by
 unfold J9 at h
 split at h
 ·match l,h with
  |a::c::t,h=>
   unfold z6r at h
   dsimp only at h
   cases e:z1c c with
   |some q=>rw[e]at h;cases h;have:=zxq e;exact .inl (by omega)
   |none=>
    rw[e]at h
    dsimp only at h
    split at h
    ·unfold z1d at h
     cases e4:zex t with
     |none=>rw[e4]at h;cases h
     |some m=>
      have hm:=zdq e4
      rw[e4]at h
      dsimp only at h
      split at h
      ·cases h
      ·split at h
       ·cases h
        unfold z4j;omega
       ·split at h
        ·cases e5:zex (t.drop 6)with
         |none=>rw[e5]at h;cases h
         |some k=>
          rw[e5]at h
          dsimp only at h
          split at h
          ·simp only[Aa,A9]at h
           obtain⟨rfl,_⟩:=h
           have:=zdq e5
           unfold z4j;omega
          ·cases h
        ·cases h
    ·cases h
 ·split at h
  ·cases h
  ·have h:=Aq h
   have:r=(dec l).1:=by rw[h]
   rw[this];exact z2u l
theorem z2v:∀(k:Nat) (l:Bs),l.length=k->wo (Yy l).1=true:=by
 intro k
 induction k using Du with
 |_ k ih=>
  intro l hl
  by_cases h:l=[]
  ·subst h;exact Q1
  ·have hp:=Bn.2 h
   rw[Z4 h]
   split
   ·exact Q1
   ·cases e:J9 l with
    |none=>exact Q1
    |some x=>
     obtain⟨r,n⟩:=x
     obtain⟨n1,_,n2,_⟩:=wa h e
     dsimp only
     rw[z2t (zu0 e)]
     exact ih (l.drop n).length (by rw[AC];omega) _ rfl
theorem zzp(t:Bs):wo (Wh t).1=true:=by
 unfold Wh
 dsimp only
 split
 ·exact Q1
 ·unfold yj
  split
  ·dsimp only
   split
   ·exact z2v _ _ rfl
   ·exact Q1
  ·exact Q1
theorem zs3(t:Bs):(Wh t).1.length<=4*t.length:=by
 unfold Wh
 dsimp only
 split
 ·simp
 ·unfold yj
  split
  ·dsimp only
   split
   ·have:=(znw _ (t.drop (0+1)) rfl).2
    rw[AC]at this
    dsimp only;omega
   ·simp
  ·simp
def TkG(s:Bs)(t:Tk):Prop:=(t.1=10->qq s t.2=[116,114,117,101])/\(t.1=11->qq s t.2=[102,97,108,115,101])/\(t.1=9->(zn (qq s t.2)).2=0)
theorem zq6(w:Bs):(Wa w=10->w=[116,114,117,101])/\(Wa w=11->w=[102,97,108,115,101])/\Wa w≠9:=by
 unfold Wa
 split
 ·rename_i h;exact⟨λ_=>h,λh=>by omega,by omega⟩
 ·split
  ·rename_i h;exact⟨λh=>by omega,λ_=>h,by omega⟩
  ·split
   ·exact⟨λh=>by omega,λh=>by omega,by omega⟩
   ·exact⟨λh=>by omega,λh=>by omega,by omega⟩
theorem zzq(ha:a<s.length)(ok:(Zi s a).2.2=0):TkG s ((Zi s a).1,((a:Int),((Zi s a).2.1:Int))):=by
 have hp:=Ze ha ok
 have hs:qq s ((a:Int),((Zi s a).2.1:Int))=(s.drop a).take ((Zi s a).2.1-a):=by
  rw[Y2 (by dsimp only;omega) (by dsimp only;omega) (by dsimp only;omega)]
  unfold Q9
  simp only[Ah]
 unfold TkG
 dsimp only
 rw[hs]
 clear hs
 have hd:s.drop a=s[a]::s.drop (a+1):=AF ha
 rw[hd]
 unfold Zi at ok hp ⊢
 rw[hd]at ok hp ⊢
 dsimp only at ok hp ⊢
 have aa:=λh:s[a]∈X0=>wy s[a] X0
 split
 ·rename_i h1
  have Z:indexByte X0 s[a]<6:=by
   have:∀c∈X0,indexByte X0 c<6:=by decide
   exact this _ h1
  dsimp only
  exact⟨λh=>by omega,λh=>by omega,λh=>by omega⟩
 ·rename_i h1
  rw[if_neg h1]at ok hp
  split
  ·exact⟨λh=>(by cases h),λh=>(by cases h),λh=>(by cases h)⟩
  ·rename_i h2
   rw[if_neg h2]at ok hp
   split
   ·rename_i h3
    rw[if_pos h3]at ok
    split
    ·exact⟨λh=>(by cases h),λh=>(by cases h),λh=>(by cases h)⟩
    ·exact⟨λh=>(by cases h),λh=>(by cases h),λh=>(by cases h)⟩
   ·rename_i h3
    rw[if_neg h3]at ok hp
    split
    ·rename_i h4
     rw[if_pos h4]at ok hp
     split
     ·rename_i h5
      refine⟨λh=>(by cases h),λh=>(by cases h),λ_=>?_⟩
      dsimp only
      rw[C3];exact h5
     ·exact⟨λh=>(by cases h),λh=>(by cases h),λh=>(by cases h)⟩
    ·rename_i h4
     rw[if_neg h4]at ok hp
     split
     ·exact⟨λh=>(by cases h),λh=>(by cases h),λh=>(by cases h)⟩
     ·rename_i h5
      obtain⟨w1,w2,w3⟩:=zq6 ((s[a]::s.drop (a+1)).take (Zh (xe js) (s[a]::s.drop (a+1))))
      dsimp only
      rw[C3]
      exact⟨w1,w2,λh=>absurd h w3⟩
theorem Lex.good{a b:Nat}{T:List Tk}(H:Lex s a b T):∀t∈T,TkG s t:=by
 induction H with
 |nil=>intro t ht;cases ht
 |cons h1 h2 _ ih=>
  intro t ht
  rcases Af.1 ht with rfl|ht
  ·exact zzq h1 h2
  ·exact ih t ht
theorem zia(h:(zn s).2=0):yr (zn s).1=true:=by
 unfold zn at h ⊢
 cases e:W6 s with
 |none=>rfl
 |some x=>
  obtain⟨d1,d2,d3⟩:=zgz e
  rw[e]at h
  dsimp only at h ⊢
  generalize (if x.low=true then -((zk (List.dropWhile (· == 48) x.exp):Nat):Int)else((zk (List.dropWhile (· == 48) x.exp):Nat):Int))=ee at h ⊢
  split
  ·rfl
  ·rename_i c1
   rw[if_neg c1]at h
   split
   ·rfl
   ·rename_i c2
    rw[if_neg c2]at h
    split
    ·rfl
    ·rename_i c3
     rw[if_neg c3]at h
     split
     ·rename_i c4
      rw[zjh (by rw[D4,Xs d1,d2];rfl) c3 (by rw[Ap];omega)]
      simp;omega
     ·rfl
theorem zu1(n:Nm):(ye n).length<=1100:=by
 unfold ye
 split
 ·rename_i h
  obtain⟨h1,h2,h3⟩:=za0 h
  split
  ·simp
  ·have:(itoa n.2.2).length<=10:=by
    unfold itoa
    split
    ·have:=Zz (u:=n.2.2.natAbs) (by omega)
     simp only[Aw];omega
    ·have:=Zz (u:=n.2.2.toNat) (by omega)
     omega
   have a1:(if n.1 then [45]else []:Bs).length<=1:=by split <;> simp
   have a2:(if n.2.2=0 then []else 101::itoa n.2.2:Bs).length<=11:=by
    split
    ·simp
    ·simp only[Aw];omega
   simp only[Ap];omega
 ·simp
def okV(x:Tr):Bool:=decide (x.kind≠7)&&Zr x
mutual
theorem zoz{p q:Tr->Bool}(h:∀x,p x=true->q x=true):∀v:Tr,zh1 p v=true->zh1 q v=true
 |.mk k s ks xs,hv=>by
  rw[zh1,AY]at hv ⊢
  exact⟨h _ hv.1,zj0 h xs hv.2⟩
theorem zj0{p q:Tr->Bool}(h:∀x,p x=true->q x=true):∀l:List Tr,zdo p l=true->zdo q l=true
 |[],_=>rfl
 |x::l,hl=>by
  rw[zdo,AY]at hl ⊢
  exact⟨zoz h x hl.1,zj0 h l hl.2⟩
end
theorem z2w{l:List Bs}(h:l.Nodup):(l.map bl).Nodup:=by
 induction l with
 |nil=>simp
 |cons x l ih=>
  rw[C4]at h
  rw[A4,C4]
  refine⟨λhm=>?_,ih h.2⟩
  obtain⟨y,hy,e⟩:=En.1 hm
  have:=z3k.1 e
  subst this
  exact h.1 hy
structure GoodV (d:Nat) (v:Tr) (m:Nat):Prop where
 sz:tsz v=m
 dp:tdp v<=d
 ok:zh1 okV v=true
 tx:txB 1048576 v
structure GoodK (d:Nat) (xs:List Tr) (m:Nat):Prop where
 sz:zcf xs=m
 dp:zdn xs<=d
 ok:zdo okV xs=true
 tx:zu4 1048576 xs
theorem zo0{d:Nat}{P:List Bs->List Bs->Bs×Tr->List Tk->Nat->Prop}{G:Tk->Prop}{N:Nat}(hP:∀had had' kv C m,P had had' kv C m->(∀t∈C,G t)->m<=N->GoodV d kv.2 m){had:List Bs}{kvs:List (Bs×Tr)}{D:List Tk}(H:KidsG P close had kvs D m):(∀t∈D,G t)->m<=N->GoodK d (kvs.map (·.2)) m:=by
 induction H with
 |last hk hc=>
  intro hg hN
  have g:=hP _ _ _ _ _ hk (λt ht=>hg t (Am _ ht)) hN
  refine⟨?_,?_,?_,?_⟩
  ·simp only[A4,CU,zcf];rw[g.sz];omega
  ·simp only[A4,CU,zdn];have:=g.dp;omega
  ·simp only[A4,CU,zdo];rw[g.ok];rfl
  ·simp only[A4,CU,zu4];exact⟨g.tx,trivial⟩
 |more hk hq _ ih=>
  intro hg hN
  have g:=hP _ _ _ _ _ hk (λt ht=>hg t (Am _ ht)) (by omega)
  have k:=ih (λt ht=>hg t (Au _ (Ae _ ht))) (by omega)
  refine⟨?_,?_,?_,?_⟩
  ·simp only[A4,zcf];rw[g.sz,k.sz]
  ·simp only[A4,zdn];have:=g.dp;have:=k.dp;omega
  ·simp only[A4,zdo];rw[g.ok,k.ok];rfl
  ·simp only[A4,zu4];exact⟨g.tx,k.tx⟩
theorem zzr{P:Tr->List Tk->Nat->Prop}{had:List Bs}{kvs:List (Bs×Tr)}{D:List Tk}(hl:s.length<=65536)(H:KidsG (KO s P) close had kvs D m):(kvs.map (·.1)).Nodup/\(∀k∈kvs.map (·.1),k∉had/\wo k=true/\k.length<=262144):=by
 have one:∀{t:Tk},wo (Wh (Q9 s t.2)).1=true/\(Wh (Q9 s t.2)).1.length<=262144:=λ {t}=>⟨zzp _,by
  have:=zs3 (Q9 s t.2)
  have:(Q9 s t.2).length<=s.length:=by unfold Q9;rw[A1,AC];omega
  omega⟩
 induction H with
 |last hk hc=>
  obtain⟨t,q,C',rfl,ht,hq,Z,ae,aa,ab,hp⟩:=hk
  refine⟨by simp,λk hk=>?_⟩
  simp only[A4,CU,Bf]at hk
  subst hk
  exact⟨aa,by rw[Z];exact one.1,by rw[Z];exact one.2⟩
 |more hk hq _ ih=>
  obtain⟨t,q,C',rfl,ht,hq,Z,ae,aa,ab,hp⟩:=hk
  obtain⟨i1,i2⟩:=ih
  refine⟨?_,λk hk=>?_⟩
  ·rw[A4,C4]
   refine⟨λhm=>?_,i1⟩
   have:=(i2 _ hm).1
   rw[ab]at this
   exact this (by simp)
  ·rw[A4]at hk
   rcases Af.1 hk with rfl|hk
   ·exact⟨aa,by rw[Z];exact one.1,by rw[Z];exact one.2⟩
   ·obtain⟨j1,j2,j3⟩:=i2 k hk
    refine⟨λhm=>j1 ?_,j2,j3⟩
    rw[ab];exact Am _ hm
theorem z2x{k:Int}(h0:zz k≠0)(h5:zz k≠5)(h6:zz k≠6):(k=12/\zz k=1)\/(k=10/\zz k=2)\/(k=11/\zz k=2)\/(k=9/\zz k=3)\/(k=8/\zz k=4):=by
 unfold zz at *
 by_cases h1:k=12 <;> by_cases h2:k=10 <;> by_cases Z:k=11 <;> by_cases h3:k=9 <;> by_cases h4:k=8 <;> by_cases g5:k=4 <;> by_cases g6:k=2 <;> simp[*]at h0 h5 h6 ⊢
theorem zzs{s:Bs}(hs:s.length<=65536):∀(d:Nat) (v:Tr) (C:List Tk) (m:Nat),PV s d v C m->(∀t∈C,TkG s t)->m<=4096->GoodV d v m
 |0,v,C,m,h,_,_=>h.elim
 |d+1,v,C,m,h,hg,hC=>by
  have ih:=zzs hs d
  obtain⟨t,hh|⟨c,hC,hh,hm⟩|⟨D,kvs,m',Z,ht,hD,hv,hm⟩|⟨D,kvs,m',Z,ht,hD,hv,hm⟩⟩:=h
  ·obtain⟨rfl,k0,k5,k6,rfl,rfl⟩:=hh
   obtain⟨g1,g2,g3⟩:=hg t Aj
   have ae:=zds s t.2
   refine⟨by simp[tsz,zcf],by simp[tdp,zdn],?_,?_⟩
   ·rw[zdp]
    simp only[zdo,C7]
    unfold okV Zr
    rcases z2x k0 k5 k6 with⟨e,ek⟩|⟨e,ek⟩|⟨e,ek⟩|⟨e,ek⟩|⟨e,ek⟩ <;> simp only[Tr.kind,Tr.text,Tr.keys,Tr.items,ek,y9] <;> unfold Jx
    ·simp
    ·rw[g1 e];simp
    ·rw[g2 e];simp
    ·have hn:=zl3 (zia (g3 e))
     simp[zxn,hn]
    ·simp[zzp]
   ·rw[zns]
    simp only[Tr.text,Tr.keys,zu4,and_true,zj]
    refine⟨?_,by simp,by simp⟩
    unfold Jx
    have:=zu1 (zn (qq s t.2)).1
    have:=zs3 (qq s t.2)
    repeat' split
    all_goals first|omega|simp
  ·subst hC hm
   have:v=.mk 5 (bl []) [] []\/v=.mk 6 (bl []) [] []:=by
    rcases hh with⟨_,_,h⟩|⟨_,_,h⟩
    ·exact .inl h
    ·exact .inr h
   rcases this with rfl|rfl
   ·exact⟨by simp[tsz,zcf],by simp[tdp,zdn],rfl,by rw[txB,zu4];exact⟨by decide,trivial⟩⟩
   ·exact⟨by simp[tsz,zcf],by simp[tdp,zdn],rfl,by rw[txB,zu4];exact⟨by decide,trivial⟩⟩
  ·subst Z hm hv
   have k:=zo0 (d:=d) (N:=4096) (G:=TkG s) (P:=KA (PV s d)) (λhad had' kv C m ⟨_,hp⟩ hG hm=>ih _ _ _ hp hG hm) hD (λt ht=>hg t (Ae _ ht)) (by omega)
   refine⟨?_,?_,?_,?_⟩
   ·rw[tsz,k.sz];omega
   ·rw[tdp];have:=k.dp;omega
   ·rw[zdp]
    simp only[Tr.items,k.ok,C7]
    rfl
   ·rw[txB];exact⟨⟨by decide,by simp,by simp⟩,k.tx⟩
  ·subst Z hm hv
   have k:=zo0 (d:=d) (N:=4096) (G:=TkG s) (P:=KO s (PV s d)) (λhad had' kv C m ⟨_,_,_,e,_,_,_,_,_,_,hp⟩ hG hm=>ih _ _ _ hp (λt ht=>hG t (by rw[e];exact Ae _ (Ae _ ht))) hm) hD (λt ht=>hg t (Ae _ ht)) (by omega)
   obtain⟨n1,n2⟩:=zzr hs hD
   have ab:=zcg (kvs.map (·.2))
   rw[k.sz,A0]at ab
   have aa:(kvs.map λkv=>bl kv.1)=(kvs.map (·.1)).map bl:=by rw[List.map_map];rfl
   refine⟨?_,?_,?_,?_⟩
   ·rw[tsz,k.sz];omega
   ·rw[tdp];have:=k.dp;omega
   ·rw[zdp]
    simp only[Tr.items,k.ok,C7]
    unfold okV Zr W9
    simp only[Tr.kind,Tr.keys,Tr.items,Tr.text,aa]
    have e1:((kvs.map (·.1)).map bl).all (λk=>wo (lb k))=true:=by
     rw[AX]
     intro x hx
     obtain⟨y,hy,rfl⟩:=En.1 hx
     rw[y9];exact(n2 y hy).2.1
    have e2:((kvs.map (·.1)).map bl).Nodup:=z2w n1
    rw[e1,decide_eq_true e2]
    simp
   ·rw[txB]
    refine⟨⟨by decide,by rw[A0];omega,λx hx=>?_⟩,k.tx⟩
    rw[aa]at hx
    obtain⟨y,hy,rfl⟩:=En.1 hx
    rw[zj]
    have:=(n2 y hy).2.2;omega
theorem zo1(he:(ju s).2.2=0):z3p (qw s (ju s).1.2 33 0)=true/\Xz (qw s (ju s).1.2 33 0)=true/\Sm (qw s (ju s).1.2 33 0):=by
 obtain⟨ht,v,C,m,hp,hm,hC,M⟩:=zzo he
 obtain⟨hs,L⟩:=zhe ht
 have hv:qw s (ju s).1.2 33 0=v:=M.val _ (λi y hy=>by rw[Ay];exact hy) 33 (by omega)
 have g:=zzs hs 32 v C m hp (λt aa=>by rw[<-hC]at aa;exact L.good t (Dv.1 aa).1) hm
 rw[hv]
 have Z:Xa v=true:=by
  unfold Xa
  have:=g.sz
  have:=g.dp
  simp;omega
 have ho:zh1 Zr v=true:=zoz (λx hx=>by unfold okV at hx;simp at hx;exact hx.2) v g.ok
 refine⟨?_,?_,⟨by have:=g.sz;omega,g.tx⟩⟩
 ·unfold z3p;rw[Z];exact g.ok
 ·unfold Xz;rw[Z,ho];rfl
end
section
theorem zzt{t:Bs}{nodes:List Nd}{lvs:List Nat}(G:GoodN lvs nodes):∀(p:List Bt) (c l:Nat),lvs[c]?=some l->ze2 (qw t nodes 33 c) p=(atP t nodes c p).map (qw t nodes 33)
 |[],c,l,hl=>by rw[zy8,atP];rfl
 |s::p,c,l,hl=>by
  have af:c<nodes.length:=by have:=(Av.1 hl).1;rw[G.len]at this;exact this
  have hx:nodes[c]?=some nodes[c]:=Ai af
  have Z:z2g t nodes c s=if 0<=xf (qw t nodes 33 c) s then nodes[c].2.2.2.1.getD (xf (qw t nodes 33 c) s).toNat (-1)else -1:=by unfold z2g;rw[hx]
  rw[atP]
  rcases z8b (t:=t) hx s with e|⟨j,e,hj⟩
  ·rw[e,if_neg (by decide)]at Z
   rw[z2f (by omega),Z,if_neg (by decide)];rfl
  ·have hd:nodes[c].2.2.2.1.getD j (-1)=nodes[c].2.2.2.1[j]:=by simp[List.getD,hj]
   rw[e,if_pos (by omega),Ah,hd]at Z
   obtain⟨i,e1,_,e2⟩:=G.kid c l _ hx hl _ (AL hj)
   rw[e1]at Z
   have ab:(qw t nodes 33 c).items=nodes[c].2.2.2.1.map λc=>qw t nodes 32 c.toNat:=by rw[Z5 hx]
   have aa:j<(qw t nodes 33 c).items.length:=by rw[ab,A0];exact hj
   have ae:(qw t nodes 33 c).items[j]=qw t nodes 33 i:=by
    have:(qw t nodes 33 c).items[j]?=some (qw t nodes 32 i):=by
     rw[ab,BS,Ai hj,Dw,e1,Ah]
    rw[Ai aa]at this
    rw[Aq this]
    have:=G.lv c l hl
    exact zjr G 32 33 i (l+1) e2 (by omega) (by omega)
   rw[zy9 e aa,ae,Z,if_pos (by omega),Ah]
   exact zzt G p i (l+1) e2
theorem z4k{t:Bs}{nodes:List Nd}{lvs:List Nat}(G:GoodN lvs nodes):∀(p:List Bt) (c l k:Nat),lvs[c]?=some l->atP t nodes c p=some k->k<nodes.length
 |[],c,l,k,hl,h=>by
  rw[atP]at h
  cases h
  have:=(Av.1 hl).1
  rw[G.len]at this;exact this
 |s::p,c,l,k,hl,h=>by
  rw[atP]at h
  rcases zza (t:=t) G hl s with e|⟨j,e,hj,Z⟩
  ·rw[e,if_neg (by decide)]at h;cases h
  ·rw[e,if_pos (by omega),Ah]at h
   exact z4k G p j (l+1) k Z h
theorem zzu{s:Bs}(he:(ju s).2.2=0)(p:List Bt):(atR s (ju s).1.2 p=(0,false)/\(zzb (Qq s).1 p).2=false)\/∃k:Nat,k<(ju s).1.2.length/\atR s (ju s).1.2 p=((k:Int),true)/\zzb (Qq s).1 p=(qw s (ju s).1.2 33 k,true):=by
 obtain⟨lvs,G,_,_,_,_⟩:=zck he
 have hr:(Qq s).1=qw s (ju s).1.2 33 0:=by unfold Qq;rw[if_pos he]
 have ho:=(zo1 he).2.1
 have hn:(ju s).1.2.length≠0:=by have:=G.len;simp at this;omega
 have hf:=zzt (t:=s) G p 0 1 rfl
 rw[hr]
 unfold atR zzb
 rw[ho]
 cases hp:zab p with
 |false=>exact .inl ⟨by rw[if_pos (.inr rfl)],rfl⟩
 |true=>
  rw[if_neg (by rintro(h|h);exact hn h;cases h)]
  simp only[Bool.and_self,if_true]
  rw[hf]
  cases ha:atP s (ju s).1.2 0 p with
  |none=>exact .inl ⟨rfl,rfl⟩
  |some k=>exact .inr ⟨k,z4k G p 0 1 k rfl ha,rfl,rfl⟩
end
end Go.X
end
section
namespace Go.X
open Go Go.X Go.Proofs Go.RowKit
section
variable {gl:Fr}
theorem zzv{t:Bs}{nodes:List Nd}{p:Sp}{R:Bt->Prop}(h:R (bl (qq t p))):PC Tp gl 31 [Arg.mk zqt (bl t,nodes),Arg.mk (.pair (.int .i64) (.int .i64)) (p.1,p.2)] [.str] R:=zlu h
theorem zzw(hg:GL gl){sb:Bt}{p:List Bt}{R:Bool->Prop}(hR:R true):PC Tp gl 6 [Arg.mk .str sb,Arg.mk (.row .str) p] [.bool] R:=by
 obtain⟨s,rfl⟩:∃s:Bs,sb=bl s:=⟨lb sb,(zhs sb).symm⟩
 apply J0
 refine(zzi hg).mono λr hr=>?_
 have hr:r=true:=hr
 subst hr
 refine z1q λb hb=>⟨λ_=>hR,λhc=>?_⟩
 have ai:((bl s).size:Int)=(s.length:Int):=by rw[<-zgp,y9]
 have ah:s.length<=4096/\b=true:=by
  rw[ai]at hc
  simp only[Bool.cond_eq_ite]at hc
  split at hc
  ·cases hc
  ·rename_i h1
   exact⟨by simp at h1;omega,by simpa using hc⟩
 obtain⟨hs,an⟩:=ah
 have hp:=PS.sl (hb an)
 refine zhb hg (zq1 hg ?_)
 refine⟨λhx=>?_,λhx=>?_⟩
 ·have:(Qq s).2.2=(ju s).2.2:=by
   unfold Qq
   split
   ·rename_i h;exact h.symm
   ·rfl
  simp only[this]
  simpa using hR
 have he:(ju s).2.2=0:=by simpa using hx
 obtain⟨lvs,G,e1,e2,e3,e4⟩:=zck he
 obtain⟨au,ax⟩:=zq0 (zoo he)
 obtain⟨_,ho,ak⟩:=zo1 he
 have ab:∀x∈(ju s).1.2,x.2.2.2.1.length<=200000:=λx hx=>by have:=e4 x hx;unfold ndW at this;omega
 have Z:=λ {k:Nat} {x:Nd} (h:(ju s).1.2[k]?=some x)=>zuz he h
 have ae:=zzu he p
 have ap:(Qq s).1=qw s (ju s).1.2 33 0:=by unfold Qq;rw[if_pos he]
 rw[ap]at ae ⊢
 rw[e1]
 generalize ar:(ju s).1.2=ns at *
 have af:s.length<=65536:=by omega
 refine qbn hg af G (λ_=>rfl) ab hp ?_
 rw[J5]
 refine z8j hg ak hp ?_
 rcases ae with⟨ha,hf⟩|⟨k,hk,ha,hf⟩
 ·rw[ha,hf]
  exact⟨λ_=>by simpa using hR,λhx=>by cases hx⟩
 ·rw[ha,hf]
  have aa:ns[k]?=some ns[k]:=Ai hk
  refine⟨λhx=>(by cases hx),λ_=>⟨λhx=>?_,λ_=>?_⟩⟩
  ·exfalso
   simp only[Bool.cond_eq_ite]at hx
   split at hx
   ·rename_i h1;simp at h1;omega
   ·simp at hx;omega
  refine zy7 hg af G ab ?_
  have am:zy6 s ns (k:Int)=(qw s ns 33 k,true):=by unfold zy6;rw[if_pos ⟨by omega,by omega⟩,Ah]
  rw[am]
  refine⟨ns[k],⟨by omega,by rw[Ah];exact aa⟩,zzv (zq1 hg ?_)⟩
  obtain⟨n,aj⟩:=Z aa
  rw[aj]
  refine⟨λb=>b=true,λ_=>zsn _ _ λb hb=>hb.2 rfl,λb hb=>?_⟩
  have hb:=hb rfl
  subst hb
  refine⟨λb=>b=true,λ_=>zsn _ _ λb hb=>hb.2 rfl,λb hb=>?_⟩
  have hb:=hb rfl
  subst hb
  exact hR
end
end Go.X
end
