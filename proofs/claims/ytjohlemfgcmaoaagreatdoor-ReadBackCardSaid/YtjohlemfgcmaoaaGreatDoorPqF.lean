/- A part of the proof: nothing is stated here for its own sake. -/
import Derived.Test.YtjohlemfgcmaoaaGreatDoorPqE
import Derived.Sort.KeysCollected
import Derived.Sort.OwnSorted
open _root_.Go.Addr renaming add->Ai
open _root_.Array renaming getElem?_eq_some_iff->Ad,getElem?_push->BV,getElem?_setIfInBounds_ne->AC,getElem?_setIfInBounds_self_of_lt->Cn,push->CZ,size->AR,size_push->Am,size_setIfInBounds->AU
open _root_.Bool renaming and_eq_false_iff->Cz,and_eq_true->As,and_true->Dg,eq_iff_iff->AJ,false_eq_true->A5,false_or->Du,not_eq_true'->CY,or_eq_false_iff->BX,or_eq_true->Br,true_and->BZ
open _root_.Go.Builtin renaming append_->AB
open _root_.Go.Extern.AbiNoEscape renaming same->Ez
open _root_.Go.Instr renaming keyThatStays->Eb,lookup->Ed,mapUpdate->CN,next->Dm,range->Ev,storeAt->An,sureAddr->Dh
open _root_.Int renaming toNat_natCast->Al
open _root_.Go.IntKind renaming wrap->Aa
open _root_.List renaming all_append->Ea,all_cons->C5,all_eq_true->AD,append_assoc->AM,append_nil->A3,cons_append->AE,drop_drop->Bj,drop_eq_getElem_cons->Ba,drop_eq_nil_of_le->BL,drop_left->DD,drop_zero->Cc,eq_nil_of_length_eq_zero->AO,exists_cons_of_ne_nil->A9,ext_getElem?->BC,filter_cons->DY,getElem?_append_left->Bv,getElem?_append_right->Bi,getElem?_eq_getElem->Aq,getElem?_eq_none->BS,getElem?_eq_some_iff->AF,getElem?_map->BN,getElem?_modify->BF,getElem?_take->AL,getElem_append_left->De,getElem_map->DR,getElem_mem->AN,length->Cr,length_append->Ag,length_cons->Ap,length_drop->AI,length_map->AH,length_nil->AZ,length_pos_iff->Bf,length_replicate->Da,length_take->Bb,map_append->BW,map_cons->Az,map_map->BG,map_nil->Cm,mem_append->Aw,mem_append_left->Ar,mem_append_right->Ay,mem_cons->Af,mem_cons_of_mem->Ae,mem_cons_self->Aj,mem_filter->D5,mem_map->Bc,mem_range->Bw,mem_singleton->A6,nil_append->A8,nodup_append->CG,nodup_cons->BE,nodup_nil->Di,not_mem_nil->DX,range->Cb,replicate->C8,singleton_append->Dw,size_toArray->Dx,take_append_drop->BQ,take_left->CH,take_length->AW,take_succ_cons->C3,take_succ_eq_append_getElem->Av,zip_cons_cons->CB
open _root_.List.cons renaming injEq->BM
open _root_.Nat renaming add_assoc->Dv,add_mul->BU,add_sub_cancel_left->CC,add_zero->CW,blt_eq->Cu,eq_or_lt_of_le->Dn,le_of_lt->DW,le_refl->Ac,le_trans->CV,lt_of_lt_of_le->C7,lt_or_ge->A1,mul_one->Cw,pow_succ->DU,strongRecOn->Dt,sub_self->Ei,zero_add->AK,zero_le->Cv
open _root_.Option renaming map_eq_some_iff->Cs,map_some->D6
open _root_.Option.some renaming inj->Au,injEq->Ab
open _root_.Prod.mk renaming injEq->Be
open _root_.Go.Proofs.Tryz renaming isAgg0->CX,isAgg3->Co,isAgg4->Cy,isAgg5->Cp,isAgg9->Cq,prog->AY,sizeOf0->CK,sizeOf3->Ce,sizeOf4->Ck,sizeOf5->Cf,sizeOf9->Cg,underlying0->Cd,underlying181->C9,underlying3->Bo,underlying4->BD,underlying5->Bq,underlying9->Bm,zeroValue0->Ci,zeroValue3->BI,zeroValue4->BO,zeroValue5->BJ,zeroValue9->BK
open _root_.UInt8 renaming ofNat->A4
open _root_.Go.Utf8 renaming decode->Ew
open _root_.Go.Value.slice renaming injEq->AX
open _root_.Go.Value renaming string->Bl
set_option linter.unusedVariables false
set_option maxRecDepth 100000
namespace Go.X
end Go.X
namespace Go.Proofs
end Go.Proofs
open Go Go.X Go.Proofs
section
namespace Go.X
open Go Go.X Go.Proofs Go.RowKit
section
variable {s:Bs} {M:Fr}
theorem z2l(h:(Z8 s).2.2=0):(y5 s).2.2=0:=by
 unfold Z8 at h
 split at h
 ·assumption
 ·exact h
theorem qe4{x:Bs×List Nd}{i j:Int}{v:Value}(h:zcx M [.pair .str (.row tNd),.int .i64,.int .i64] ((bl x.1,x.2),i,j) v):∃sl:Sl,v=.tuple #[.agg #[.string (bl x.1),slV sl],.int .i64 i,.int .i64 j]/\Rd M (.row tNd) x.2 [slV sl]:=by
 obtain⟨vs,⟨v1,rest,rfl,hx,v2,Z,rfl,hy,v3,rfl,hz⟩,rfl⟩:=h
 rw[qo hy,qo hz]
 obtain⟨cs,rfl,c1,c2,rfl,e1,e2⟩:=hx
 have e1:c1=[.string (bl x.1)]:=e1
 subst e1
 obtain⟨sl,rfl⟩:∃sl:Sl,c2=[slV sl]:=by
  obtain⟨w,e,a,c,q,_⟩:=e2
  exact⟨⟨a,_,c⟩,by rw[e,q];rfl⟩
 exact⟨sl,rfl,e2⟩
set_option maxRecDepth 100000 in
set_option maxHeartbeats 2000000 in
theorem qe5{gl:Fr}(hg:GL gl){h:za}(hM:Fr.le gl M)(ag:AgM M h){K:Value->za->Prop}
  (hK:∀(h':za) (bs:List Nat) (sk si:Sl),Keep h.size h h'->OT h' (Qf s).1 bs (Z4 (Qf s).1 sk si)->(∀b∈bs,h.size<=b)->K (.tuple #[.agg #[.int .i64 (Qf s).1.kind,.string (Qf s).1.text,slV sk,slV si],.int .i64 (Qf s).2.1,.int .i64 (Qf s).2.2]) h'):
  XC Tp 15 #[.string (bl s)] h K:=by
 apply zqs
 intro h1
 have k1:Keep h.size h h1:=Keep.push _ _ (Ac _)
 have z1:h1.size=h.size+1:=Am _
 have R1:Blk h1 h.size #[.int .i64 0,.string ⟨#[]⟩,.slice none 0 0,.slice none 0 0]:=Blk.new _ _ _
 clear_value h1
 refine(zqr hg (s:=s) (R:=λr=>r=((bl (Z8 s).1.1,(Z8 s).1.2),(Z8 s).2.1,(Z8 s).2.2)) rfl).go hM (ag.keep k1) (yj (a:=Arg.mk .str _) (rdStr _) jy) λv h3 M' r L hv hr=>?_
 subst hr
 obtain⟨sl,rfl,rd⟩:=qe4 hv
 refine⟨_,sl,_,_,rfl,?_⟩
 have k3:=L.keep
 have z3:=k3.size
 have ab:Keep h.size h h3:=k1.trans (c:=h3) (m:=h.size) ⟨z3,λj hj=>k3.get j (by omega)⟩ (Ac _)
 have R3:=R1.keep (k3.get h.size (by omega))
 intro h8
 have k8:Keep h3.size h3 h8:=Keep.push _ _ (Ac _)
 have z8:h8.size=h3.size+1:=Am _
 have D8:Blk h8 h3.size #[.string ⟨#[]⟩,.slice none 0 0]:=Blk.new _ _ _
 clear_value h8
 refine zd2 (u:=bl (Z8 s).1.1) (v:=sl) D8 λh9 f9 z9 D9=>?_
 have k9:Keep h3.size h3 h9:=⟨by omega,λj hj=>(f9 j (by omega)).trans (k8.get j hj)⟩
 have aa:Keep h.size h h9:=ab.trans (c:=h9) (m:=h.size) ⟨k9.size,λj hj=>k9.get j (by omega)⟩ (Ac _)
 have R9:=R3.keep (k9.get h.size (by omega))
 refine⟨λhx=>?_,λhx=>?_⟩
 ·have hx:¬(Z8 s).2.2=0:=by simpa using hx
  have eR:Qf s=(.mk 0 (bl []) [] [],(Z8 s).2.1,(Z8 s).2.2):=by unfold Qf;rw[if_neg hx]
  rw[eR]at hK
  refine Yd (k:=0) (s:=⟨#[]⟩) (sk:=⟨none,0,0⟩) (si:=⟨none,0,0⟩) R9 λg f z B=>⟨_,_,_,_,B.ld (cs:=[.int .i64 0,.string ⟨#[]⟩,slV ⟨none,0,0⟩,slV ⟨none,0,0⟩]),?_⟩
  obtain⟨bs,ot,ae⟩:=(Own.new (lo:=h.size) (hi:=g.size) (b0:=h.size) (k:=0) (s:=bl []) B (Ac _) (Ac _)).ot
  exact hK g bs ⟨none,0,0⟩ ⟨none,0,0⟩ (aa.trans (c:=g) (m:=h.size) ⟨by omega,λj hj=>f j (by omega)⟩ (Ac _)) ot (λb hb=>(ae b hb).1)
 ·have hx:(Z8 s).2.2=0:=by simpa using hx
  obtain⟨lvs,G,e1,e2,e3,e4⟩:=zqf hx
  obtain⟨hs,ai⟩:=z2k (z2l hx)
  have eR:Qf s=(j6 s (Z8 s).1.2 33 0,(s.length:Int),0):=by unfold Qf;rw[if_pos hx]
  rw[eR]at hK
  rw[e1]at D9
  rw[e2]
  refine⟨_,sl,D9.ld (cs:=[.string (bl s),slV sl]),?_⟩
  have af:AgM M' h9:=L.ag.keep k9
  refine z2f hg hs G (λx hx=>by have:=e4 x hx;unfold ndW at this;omega) 33 0 1 1 rfl (by omega) (by omega) (by omega) h9 M' sl (hM.trans L.le) af rd _ λah bs sk si Z ot hb=>⟨_,_,sk,si,rfl,?_⟩
  have aj:=Z.size
  refine Yd (R9.keep (Z.get h.size (by omega))) λg f z B=>⟨_,_,sk,si,B.ld (cs:=[_,_,slV sk,slV si]),?_⟩
  exact hK g bs sk si (aa.trans (c:=g) (m:=h.size) ⟨by omega,λj hj=>by rw[f j (by omega)];exact Z.get j (by omega)⟩ (Ac _)) (ot.frame λc hc=>f c (by have:=hb c hc;omega)) (λc hc=>by have:=hb c hc;omega)
end
section
theorem qhk{M:Fr}{t:Bs}{nodes:List Nd}{u:Value}(h:RdV M zva (bl t,nodes) u):∃sl:Sl,u=.agg #[.string (bl t),slV sl]/\Rd M (.row tNd) nodes [slV sl]:=by
 obtain⟨cs,rfl,c1,c2,rfl,e1,e2⟩:=h
 have e1:c1=[.string (bl t)]:=e1
 subst e1
 obtain⟨sl,rfl⟩:∃sl:Sl,c2=[slV sl]:=by
  obtain⟨w,e,a,c,q,_⟩:=e2
  exact⟨⟨a,_,c⟩,by rw[e,q];rfl⟩
 exact⟨sl,rfl,e2⟩
section
variable {t : Bs} {nodes : List Nd} {lvs : List Nat} {gl : Fr}
theorem z2m(hg:GL gl)(ht:t.length<=65536)(G:GoodN lvs nodes)(Z:∀x∈nodes,x.2.2.2.1.length<=200000){k l:Nat}{L:Int}(hl:lvs[k]?=some l)(h1:1<=L)(h2:L<=(l:Int)){R:Tr->Prop}(hR:R (j6 t nodes 33 k)):PC Tp gl 59 [Arg.mk zva (bl t,nodes),Arg.mk (.int .i64) (k:Int),Arg.mk (.int .i64) L] [.tree] R:=by
 intro h M vs hM ag ha
 match vs,ha with
 |[u1,u2,u3],⟨a1,a2,a3,_⟩=>
  obtain⟨sl,rfl,rd⟩:=qhk a1
  obtain rfl:=qo (i:=(k:Int)) a2
  obtain rfl:=qo (i:=L) a3
  apply PX.of
  exact z2f hg ht G Z 33 k l L hl (by omega) h1 h2 h M sl hM ag rd _ λh' bs sk si k' ot hb=>⟨MxL M h' bs,_,MxL.later ag k' hb,zdo.2 ot.rdv,hR⟩
def qb6(t:Bs)(nodes:List Nd)(k:Int):Tr×Bool:=if 0<=k/\k<(nodes.length:Int)then(j6 t nodes 33 k.toNat,true)else(.mk 0 (bl []) [] [],false)
theorem qb7(hg:GL gl)(ht:t.length<=65536)(G:GoodN lvs nodes)(Z:∀x∈nodes,x.2.2.2.1.length<=200000){k:Int}{R:Tr×Bool->Prop}(hR:R (qb6 t nodes k)):PC Tp gl 21 [Arg.mk zva (bl t,nodes),Arg.mk (.int .i64) k] [.tree,.bool] R:=by
 apply zp2
 unfold qb6 at hR
 have e:(bif (decide ((k:Int)<0))then true else(decide ((k:Int)>=((Cr nodes:Nat):Int))))=decide (¬(0<=k/\k<(nodes.length:Int))):=by
  rw[AJ]
  simp only[Bool.cond_eq_ite,Bool.if_true_left,Br,decide_eq_true_eq]
  omega
 dsimp only
 rw[e]
 refine⟨λhx=>?_,λhx=>?_⟩
 ·rw[if_neg (of_decide_eq_true hx)]at hR;exact hR
 ·have hx:0<=k/\k<(nodes.length:Int):=Decidable.not_not.1 (of_decide_eq_false hx)
  rw[if_pos hx]at hR
  obtain⟨j,rfl⟩:∃j:Nat,k=(j:Int):=⟨k.toNat,by omega⟩
  rw[Al]at hR
  have hj:j<lvs.length:=by rw[G.len];omega
  have aa:=G.lv j _ (Aq hj)
  refine z2m hg ht G Z (Aq hj) (by omega) (by omega) ?_
  have et:Tr.mk (j6 t nodes 33 j).kind (j6 t nodes 33 j).text (j6 t nodes 33 j).keys (j6 t nodes 33 j).items=j6 t nodes 33 j:=by cases j6 t nodes 33 j;rfl
  rw[et];exact hR
theorem ziu(hg:GL gl){s:Bs}{R:Tr×Int×Int->Prop}(hR:R (Qf s)):PC Tp gl 15 [Arg.mk .str (bl s)] [.tree,.int .i64,.int .i64] R:=by
 intro h M vs hM ag ha
 match vs,ha with
 |[u1],⟨a1,_⟩=>
  obtain rfl:=Ql (s:=bl s) a1
  apply PX.of
  exact qe5 hg hM ag λh' bs sk si k' ot hb=>⟨MxL M h' bs,_,MxL.later ag k' hb,⟨[_,_,_],⟨_,_,rfl,ot.rdv,_,_,rfl,Jf _ _,_,rfl,Jf _ _⟩,rfl⟩,hR⟩
end
end
end Go.X
end
section
namespace Go.X
open Go Go.Lib
section
theorem zvg(x:Bt):∀(l:List Bt) (i:Nat),(idxFromS l x i=-1/\x∉l)\/∃k:Nat,idxFromS l x i=((i+k:Nat):Int)/\k<l.length/\l[k]?=some x
 |[],i=>.inl ⟨rfl,by simp⟩
 |z::l,i=>by
  unfold idxFromS
  by_cases h:z=x
  ·rw[if_pos h];exact .inr ⟨0,rfl,by simp,by simp[h]⟩
  ·rw[if_neg h]
   rcases zvg x l (i+1)with⟨h1,h2⟩|⟨k,h1,h2,h3⟩
   ·exact .inl ⟨h1,by simp[h2];exact λe=>h e.symm⟩
   ·exact .inr ⟨k+1,by rw[h1];congr 1;omega,by simp;omega,by simpa using h3⟩
def zqt(v:Tr)(s:Bt):Int:=if v.kind=6 then idxOfS v.keys s else if v.kind=5 then(if(zp9 (lb s)).2=true/\(zp9 (lb s)).1<v.items.length then(zp9 (lb s)).1 else -1)else -1
end
section
variable {t:Bs} {k:Nat}
def qb8(t:Bs)(nodes:List Nd)(k:Nat)(s:Bt):Int:=match nodes[k]? with
 |none=>-1
 |some x=>if 0<=zqt (j6 t nodes 33 k) s then x.2.2.2.1.getD (zqt (j6 t nodes 33 k) s).toNat (-1)else -1
def atP(t:Bs)(nodes:List Nd):Nat->List Bt->Option Nat
 |k,[]=>some k
 |k,s::p=>if 0<=qb8 t nodes k s then atP t nodes (qb8 t nodes k s).toNat p else none
def atR(t:Bs)(nodes:List Nd)(p:List Bt):Int×Bool:=if nodes.length=0\/zpz p=false then(0,false)else match atP t nodes 0 p with
 |some k=>((k:Int),true)
 |none=>(0,false)
theorem Jq{nodes:List Nd}{k f:Nat}{x:Nd}(h:nodes[k]?=some x):j6 t nodes (f+1) k=.mk x.1 (bl (Ym x.1 (ya t x.2.1))) (if x.1=6 then x.2.2.2.1.map λc=>bl (zim t nodes c)else []) (x.2.2.2.1.map λc=>j6 t nodes f c.toNat):=by
 rw[j6,h]
theorem qe6{nodes:List Nd}{x:Nd}(h:nodes[k]?=some x)(s:Bt):zqt (j6 t nodes 33 k) s=-1\/∃j:Nat,zqt (j6 t nodes 33 k) s=(j:Int)/\j<x.2.2.2.1.length:=by
 rw[Jq h]
 unfold zqt
 by_cases h6:x.1=6
 ·simp only[Tr.kind,Tr.keys,h6,if_true]
  rcases zvg s (x.2.2.2.1.map λc=>bl (zim t nodes c)) 0 with⟨h1,_⟩|⟨j,h1,h2,_⟩
  ·exact .inl h1
  ·exact .inr ⟨j,by unfold idxOfS;rw[h1];simp,by simpa using h2⟩
 ·simp only[Tr.kind,if_neg h6]
  by_cases h5:x.1=5
  ·rw[if_pos h5]
   split
   ·rename_i hc
    have:=zlc hc.1
    simp only[Tr.items,AH]at hc
    exact .inr ⟨(zp9 (lb s)).1.toNat,by omega,by omega⟩
   ·exact .inl rfl
  ·rw[if_neg h5];exact .inl rfl
theorem qb9{nodes:List Nd}{lvs:List Nat}(G:GoodN lvs nodes){k l:Nat}(hl:lvs[k]?=some l)(s:Bt):qb8 t nodes k s=-1\/∃j:Nat,qb8 t nodes k s=(j:Int)/\j<nodes.length/\lvs[j]?=some (l+1):=by
 unfold qb8
 cases hx:nodes[k]? with
 |none=>exact .inl rfl
 |some x=>
  dsimp only
  rcases qe6 (t:=t) hx s with e|⟨j,e,hj⟩
  ·rw[e];exact .inl rfl
  ·rw[e,if_pos (by omega),Al]
   have hd:x.2.2.2.1.getD j (-1)=x.2.2.2.1[j]:=by simp[List.getD,hj]
   rw[hd]
   obtain⟨i,e1,_,e2⟩:=G.kid k l x hx hl _ (AN hj)
   have:=(AF.1 e2).1
   rw[G.len]at this
   exact .inr ⟨i,e1,this,e2⟩
end
end Go.X
end
section
namespace Go.X
open Go Go.X Go.Proofs Go.RowKit
section
variable {k:Nat}
theorem zvh{gl:Fr}{t:Bs}{nodes:List Nd}{k:Int}{R:Bool->Prop}(hR:R (decide (0<=k/\k<(nodes.length:Int)))):PC Tp gl 72 [Arg.mk zva (bl t,nodes),Arg.mk (.int .i64) k] [.bool] R:=by
 apply zm9
 have e:(bif (decide ((k:Int)>=0))then(decide ((k:Int)<((Cr nodes:Nat):Int)))else false)=decide (0<=k/\k<(nodes.length:Int)):=by
  rw[AJ]
  simp only[Bool.cond_eq_ite,decide_eq_true_eq]
  split <;> simp <;> omega
 dsimp only
 rw[e];exact hR
theorem z6w{l:List Int}(h:k<l.length):l[((k:Int)).toNat]?=some l[k]:=by rw[Al,Aq h]
section
variable {t : Bs} {nodes : List Nd} {lvs : List Nat} {gl : Fr}
theorem qe7(hg:GL gl)(ht:t.length<=65536)(G:GoodN lvs nodes)(an:∀x∈nodes,x.2.2.2.1.length<=200000){k l:Nat}(hl:lvs[k]?=some l){s:Bt}(hs:(lb s).length<=1048576){R:Int->Prop}(hR:R (qb8 t nodes k s)):PC Tp gl 71 [Arg.mk zva (bl t,nodes),Arg.mk (.int .i64) (k:Int),Arg.mk .str s] [.int .i64] R:=by
 have ai:k<nodes.length:=by have:=(AF.1 hl).1;rw[G.len]at this;exact this
 have hx:nodes[k]?=some nodes[k]:=Aq ai
 have ah:=an _ (AN ai)
 apply zsu
 unfold qb8 at hR
 rw[hx]at hR
 dsimp only at hR
 have aa:=qe6 (t:=t) hx s
 rw[Jq hx]at hR aa
 generalize nodes[k]=x at hx ah hR aa
 refine⟨x,⟨by omega,by rw[Al];exact hx⟩,x,⟨by omega,by rw[Al];exact hx⟩,λh5=>?_,λh5=>⟨λh6=>?_,λh6=>?_⟩⟩
 ·have h5:x.1=5:=by simpa using h5
  have h6:¬x.1=6:=by omega
  have hi:=z1f hg (l:=lb s) hs (R:=λr=>r=zp9 (lb s)) rfl
  rw[Y0]at hi
  refine hi.mono λr hr=>?_
  subst hr
  unfold zqt at hR
  simp only[Tr.kind,Tr.keys,Tr.items,h5,if_true,AH]at hR
  rw[if_neg (show¬((5:Int)=6)by decide)]at hR
  refine⟨λhc=>?_,λhc=>?_⟩
  ·have Z:(zp9 (lb s)).2=true/\(zp9 (lb s)).1<(x.2.2.2.1.length:Int):=by
    simp only[Bool.cond_eq_ite]at hc
    split at hc
    ·rename_i h1;exact⟨h1,of_decide_eq_true hc⟩
    ·cases hc
   have hr:=zlc Z.1
   obtain⟨j,hj⟩:∃j:Nat,(zp9 (lb s)).1=(j:Int):=⟨(zp9 (lb s)).1.toNat,by omega⟩
   rw[if_pos Z,if_pos hr.1]at hR
   rw[hj]at hR Z ⊢
   have ak:j<x.2.2.2.1.length:=by omega
   refine⟨x.2.2.2.1[j],⟨by omega,z6w ak⟩,?_⟩
   rw[Al]at hR
   have hd:x.2.2.2.1.getD j (-1)=x.2.2.2.1[j]:=by simp[List.getD,ak]
   rw[hd]at hR;exact hR
  ·have Z:¬((zp9 (lb s)).2=true/\(zp9 (lb s)).1<(x.2.2.2.1.length:Int)):=λh1=>by
    rw[h1.1,cond_true,decide_eq_true h1.2]at hc;cases hc
   rw[if_neg Z,if_neg (by decide)]at hR;exact hR
 ·have h6:x.1=6:=by simpa using h6
  unfold zqt at hR aa
  simp only[Tr.kind,Tr.keys,Tr.items,h6,if_true]at hR aa
  generalize af:(x.2.2.2.1.map λc=>bl (zim t nodes c))=ks at hR aa
  have ar:ks.length=x.2.2.2.1.length:=by rw[<-af,AH]
  refine⟨λi=>∃n:Nat,i=(n:Int)/\n<=x.2.2.2.1.length/\∀j,j<n->ks.getD j ByteArray.empty≠s,λi=>x.2.2.2.1.length-i.toNat,⟨0,rfl,by omega,λj hj=>by omega⟩,?_⟩
  rintro i ⟨n,rfl,hn,ab⟩
  refine⟨λhc=>?_,λhc=>?_⟩
  ·have Z:n<x.2.2.2.1.length:=by have:=of_decide_eq_true hc;omega
   refine⟨x.2.2.2.1[n],⟨by omega,z6w Z⟩,?_⟩
   obtain⟨j,e1,_,e2⟩:=G.kid k l x hx hl _ (AN Z)
   have hj:=(AF.1 e2).1
   rw[G.len]at hj
   refine zvh ⟨x.2.2.2.1[n],λ_=>⟨by omega,z6w Z⟩,?_⟩
   have am:decide (0<=x.2.2.2.1[n]/\x.2.2.2.1[n]<(nodes.length:Int))=true:=decide_eq_true ⟨by omega,by omega⟩
   rw[am]
   have ae:nodes[j]?=some nodes[j]:=Aq hj
   refine⟨λr=>r=bl (zx7 t nodes[j]),λ_=>?_,λr hr=>?_⟩
   ·rw[e1];exact z1x hg ht ae rfl
   ·have hr:=hr rfl
    subst hr
    have aj:ks.getD n ByteArray.empty=bl (zx7 t nodes[j]):=by
     rw[<-af]
     simp only[List.getD,BN,Aq Z,D6,Option.getD_some]
     rw[e1];unfold zim;rw[Al,ae]
    refine⟨λhq=>?_,λhq=>?_⟩
    ·rw[cond_true]at hq
     have hq:bl (zx7 t nodes[j])=s:=by rw[Ji,Ji]at hq;exact zpj.1 (eq_of_beq hq)
     have:=Lib.idxOfS_hit ks ks.length n s (by omega) (Ac _) (by rw[aj,hq]) ab
     rw[AW]at this
     rw[this,if_pos (by omega),Al]at hR
     have hd:x.2.2.2.1.getD n (-1)=x.2.2.2.1[n]:=by simp[List.getD,Z]
     rw[hd]at hR
     exact⟨x.2.2.2.1[n],⟨by omega,z6w Z⟩,hR⟩
    ·rw[cond_true]at hq
     have hq:bl (zx7 t nodes[j])≠s:=by intro e;rw[e]at hq;simp at hq
     have hw:=Yk Z (by omega)
     rw[hw]
     refine⟨⟨n+1,rfl,by omega,λi hi=>?_⟩,by simp only[Al];omega⟩
     by_cases ap:i=n
     ·subst ap;rw[aj];exact hq
     ·exact ab i (by omega)
  ·have Z:n=ks.length:=by have:=of_decide_eq_false hc;omega
   subst Z
   have:=Lib.idxOfS_miss ks ks.length s ab
   rw[AW]at this
   rw[this,if_neg (by decide)]at hR
   exact hR
 ·have h5:¬x.1=5:=by simpa using h5
  have h6:¬x.1=6:=by simpa using h6
  unfold zqt at hR
  simp only[Tr.kind,if_neg h5,if_neg h6]at hR
  rw[if_neg (by decide)]at hR;exact hR
theorem qhl(hg:GL gl)(ht:t.length<=65536)(G:GoodN lvs nodes)(h0:nodes.length≠0->lvs[0]?=some 1)(af:∀x∈nodes,x.2.2.2.1.length<=200000){p:List Bt}(hp:SL p){R:Int×Bool->Prop}(hR:R (atR t nodes p)):PC Tp gl 23 [Arg.mk zva (bl t,nodes),Arg.mk (.row .str) p] [.int .i64,.bool] R:=by
 have ai:=hp.n
 apply zxk
 unfold atR at hR
 dsimp only
 refine⟨λr=>r=zpz p,λ_=>z6b hg hp rfl,λr hr=>⟨λhc=>?_,λhc=>?_⟩⟩
 ·rw[if_pos ?_]at hR
  ·exact hR
  ·cases hn:(((Cr nodes:Nat):Int)==0)with
   |true=>exact .inl (by have:=eq_of_beq hn;omega)
   |false=>
    rw[hn]at hr hc
    have:=hr rfl
    subst this
    rw[cond_false]at hc
    exact .inr (by simpa using hc)
 ·have hn:(((Cr nodes:Nat):Int)==0)=false:=by
   cases hn:(((Cr nodes:Nat):Int)==0)with
   |true=>rw[hn]at hc;cases hc
   |false=>rfl
  rw[hn]at hr hc
  have:=hr rfl
  subst this
  rw[cond_false]at hc
  have hn:nodes.length≠0:=λe=>by rw[e]at hn;exact absurd hn (by decide)
  rw[if_neg (by rintro(h|h);exact hn h;rw[h]at hc;cases hc)]at hR
  refine⟨λkk i=>∃n c l:Nat,i=(n:Int)/\kk=(c:Int)/\n<=p.length/\lvs[c]?=some l/\atP t nodes 0 p=atP t nodes c (p.drop n),λkk i=>p.length-i.toNat,⟨0,0,1,rfl,rfl,by omega,h0 hn,rfl⟩,?_⟩
  rintro kk i ⟨n,c,l,rfl,rfl,ah,hl,Z⟩
  refine⟨λhc=>?_,λhc=>?_⟩
  ·have aa:n<p.length:=by have:=of_decide_eq_true hc;omega
   have ab:p.drop n=p[n]::p.drop (n+1):=Ba aa
   refine⟨p[n],⟨by omega,z5x aa⟩,?_⟩
   refine qe7 hg ht G af hl (by have:=hp.s _ (AN aa);omega) (zvh ?_)
   rw[ab,atP]at Z
   rcases qb9 (t:=t) G hl p[n]with e|⟨j,e,hj,ae⟩
   ·rw[e]at Z ⊢
    rw[if_neg (by decide)]at Z
    rw[Z]at hR
    exact⟨λ_=>hR,λhx=>by simp at hx⟩
   ·rw[e]at Z ⊢
    rw[if_pos (by omega),Al]at Z
    have hw:=Yk aa (by omega)
    rw[hw]
    have hd:decide (0<=(j:Int)/\(j:Int)<(nodes.length:Int))=true:=decide_eq_true ⟨by omega,by omega⟩
    rw[hd]
    exact⟨λhx=>(by cases hx),λ_=>⟨⟨n+1,j,l+1,rfl,rfl,by omega,ae,Z⟩,by simp only[Al];omega⟩⟩
  ·have aa:n=p.length:=by have:=of_decide_eq_false hc;omega
   subst aa
   rw[List.drop_length,atP]at Z
   rw[Z]at hR
   exact hR
end
end
end Go.X
end
section
namespace Go.X.U
section
def zg1(o:Oper):Option Bool:=match o.op with
 |.fieldAddr _ _ _=>some true
 |.indexAddr _ _ _=>some true
 |.move _=>some true
 |.assign _=>some true
 |.load _ _=>some false
 |.binOp _ _ _ _ _=>some true
 |.call c=>match c.callee with
  |.builtin .len=>some true
  |_=>none
 |_=>none
def zf(o:Oper):Bool:=match zg1 o with
 |some _=>true
 |none=>false
def zn(o:Oper):Bool:=match zg1 o with
 |some b=>!b
 |none=>false
def zx:Nat->List Oper->List Nat
 |_,[]=>[]
 |k,o::l=>bif zf o then zx (k+1) l else k::zx (k+1) l
def zc0(ops:Array Oper):List Nat->Bool
 |[]=>true
 |[_]=>true
 |i::j::l=>bif Region.waitsFor .any ops j i then zc0 ops (j::l)else false
def Yz(ops:Array Oper)(i:Nat):List Nat->Bool
 |[]=>false
 |j::l=>bif Region.waitsFor .any ops j i then true else Yz ops i l
def zrr(ops:Array Oper)(T:List Nat):Nat->Bool
 |0=>false
 |k+1=>bif (match ops[k]? with
  |some o=>bif zn o then !(Yz ops k T)else false
  |none=>false)then true else zrr ops T k
def Qk(l:List Oper):Bool:=l.all λo=>match o.guard with
 |none=>we o.op
 |some _=>false
def zba(ops:Array Oper):Nat->Bool
 |0=>true
 |k+1=>bif (match ops[k]? with
  |some o=>bif ww ops k (tmpsOf o.op.operands.toList) ops.size then(bif zf o then(zx 0 ops.toList).all λj=>!(Region.waitsFor .any ops k j)||(match yn ops j with
   |some t=>!(memN (tmpsOf o.op.operands.toList) t)
   |none=>true)else true)else false
  |none=>true)then zba ops k else false
def z4f(ops:Array Oper):Bool:=bif Qk ops.toList then(bif qg ops ops.size then(bif wj ops ops.size then(bif zc0 ops (zx 0 ops.toList)then zba ops ops.size else false)else false)else false)else false
def qS(P:Program)(o:Oper)(ρ:Operand->Value)(h:za)(K:Value->Prop):Prop:=match o.op with
 |.call _=>zd9 P (execOp ρ o) K
 |_=>Yh P o ρ none h K
def z2n(ops:Array Oper)(T:List Nat)(e:Env)(h0 h':za):Nat->Prop
 |0=>True
 |k+1=>match ops[k]? with
  |some o=>bif zn o then(bif Yz ops k T then z2n ops T e h0 h' k else(match o.op with
   |.load _ x=>(match W9 e [] x with
    |some (.pointer (some c))=>h'[c.block]?=h0[c.block]?/\z2n ops T e h0 h' k
    |_=>False)
   |_=>False))else z2n ops T e h0 h' k
  |none=>z2n ops T e h0 h' k
def wU(P:Program)(n:Nat)(h:za)(K:Env->Prop):List Oper->Env->Prop
 |[],e=>K e
 |o::l,e=>bif zf o then(bif qk n [] o.dst then(bif we o.op then(bif known e [] o.op.operands.toList then qS P o (rho e []) h λv=>wU P n h K l (putO e o.dst [] v)else False)else False)else False)else wU P n h K l e
def wT(P:Program)(n:Nat)(ops:Array Oper)(h0:za)(K:Env->za->Prop):List Nat->List Nat->Env->za->Prop
 |_,[],e,h=>K (clean e) h
 |T,j::l,e,h=>match ops[j]? with
  |some o=>bif qk n [] o.dst then opW P o e [] h λv h'=>(bif zrr ops (j::T) ops.size then z2n ops (j::T) (putO e o.dst [] v) h0 h' ops.size/\wT P n ops h0 K (j::T) l (putO e o.dst [] v) h' else wT P n ops h0 K (j::T) l (putO e o.dst [] v) h')else False
  |none=>False
def jv:Nat->List Oper->(Nat->Value)->Act->Act
 |_,[],_,a=>a
 |k,o::l,f,a=>jv (k+1) l f (bif zf o then a.put o.dst (f k)else a)
theorem yf{j:Nat}:∀{l:List Oper} {k:Nat},j∈zx k l↔k<=j/\∃o,l[j-k]?=some o/\zf o=false
 |[],k=>by simp[zx]
 |o::l,k=>by
  unfold zx
  cases hq:zf o with
  |true=>
   rw[cond_true,yf (l:=l)]
   constructor
   ·rintro⟨h1,o',h2,h3⟩
    exact⟨by omega,o',by rw[show j-k=(j-(k+1))+1 by omega];simpa using h2,h3⟩
   ·rintro⟨h1,o',h2,h3⟩
    rcases Dn h1 with e|e
    ·subst e
     simp at h2;subst h2;rw[hq]at h3;cases h3
    ·exact⟨by omega,o',by rw[show j-k=(j-(k+1))+1 by omega]at h2;simpa using h2,h3⟩
  |false=>
   rw[cond_false,Af,yf (l:=l)]
   constructor
   ·rintro(rfl|⟨h1,o',h2,h3⟩)
    ·exact⟨Ac _,o,by simp,hq⟩
    ·exact⟨by omega,o',by rw[show j-k=(j-(k+1))+1 by omega];simpa using h2,h3⟩
   ·rintro⟨h1,o',h2,h3⟩
    rcases Dn h1 with e|e
    ·exact .inl e.symm
    ·exact .inr ⟨by omega,o',by rw[show j-k=(j-(k+1))+1 by omega]at h2;simpa using h2,h3⟩
theorem jc:∀{l:List Oper} {k:Nat},(zx k l).Nodup
 |[],_=>Di
 |o::l,k=>by
  unfold zx
  cases zf o with
  |true=>exact jc
  |false=>exact BE.2 ⟨λh=>by have:=(yf.1 h).1;omega,jc⟩
theorem Yo{o:Oper}:∀{l:List Oper},o∈l->∀i,o.dst=some i->i∈y8 l
 |[],h,_,_=>by cases h
 |x::l,h,i,hi=>by
  unfold y8
  rcases Af.1 h with rfl|h
  ·rw[hi];exact Aj
  ·have:=Yo h i hi
   split
   ·exact Ae _ this
   ·exact this
end
end Go.X.U
end
section
namespace Go.X
open Go Go.X Go.Proofs Go.RowKit
section
theorem qca:Qf [32,91,49,46,48,44,32,34,92,117,48,48,54,49,34,93,32]=(.mk 5 (bl []) [] [.mk 3 (bl [49]) [] [],.mk 4 (bl [97]) [] []],17,0):=by kernel_rfl
theorem ztg:Z8 [123,34,97,34,58,91,49,44,50,93,125]=(([123,34,97,34,58,91,49,44,50,93,125],[(6,(0,11),(0,0),[1],[(1,10)]),(5,(5,10),(1,4),[2,3],[(6,7),(8,9)]),(3,(6,7),(0,0),[],[]),(3,(8,9),(0,0),[],[])]),11,0):=by kernel_rfl
end
end Go.X
end
section
namespace Go.X
section
theorem qiw:qz (zi (Lib.itoa 1)).1=[49]:=by kernel_rfl
theorem z6x{l:List Bt}(h:l.length<=1000000)(h2:∀x∈l,x.size<=1048576):SL l:=⟨h,λx hx=>by rw[zhz];exact h2 x hx⟩
end
section
theorem zcs(h:za)(R:Value->za->Prop)
  (H:XC Tp 15 #[.string (⟨#[32,91,49,46,48,44,32,34,92,117,48,48,54,49,34,93,32]⟩:Bt)] h (λb c=>∃d e f g i j,b=.tuple #[.agg #[.int .i64 d,.string e,slV f,slV g],.int .i64 i,.int .i64 j]/\let k:=c.push (.cells #[.int .i64 0,.string (⟨#[]⟩:Bt),.slice none 0 0,.slice none 0 0] 26);zk Tp (An 26 (.pointer (some ⟨c.size,0,none⟩)) (.agg #[.int .i64 d,.string e,slV f,slV g])) k (λl=>XC Tp 19 #[.string (⟨#[123,34,97,34,58,91,49,44,50,93,125]⟩:Bt)] l (λm n=>∃o p q r,m=.tuple #[.agg #[.string o,slV p],.int .i64 q,.int .i64 r]/\let s:=n.push (.cells #[.string (⟨#[]⟩:Bt),.slice none 0 0] 36);zk Tp (An 36 (.pointer (some ⟨n.size,0,none⟩)) (.agg #[.string o,slV p])) s (λt=>∃u v,zd t ⟨n.size,0,none⟩ 0 [.string u,slV v]/\let w:=t.push (.cells #[.string (⟨#[97]⟩:Bt),.string (⟨#[49]⟩:Bt)] 9);XC Tp 23 #[.agg #[.string u,slV v],.slice (some ⟨t.size,0,none⟩) 2 2] w (λx y=>∃z A,x=.tuple #[.int .i64 z,.bool A]/\∃B C,zd y ⟨n.size,0,none⟩ 0 [.string B,slV C]/\XC Tp 21 #[.agg #[.string B,slV C],.int .i64 3] y (λD E=>∃F G I J L,D=.tuple #[.agg #[.int .i64 F,.string G,slV I,slV J],.bool L]/\let M:=E.push (.cells #[.int .i64 0,.string (⟨#[]⟩:Bt),.slice none 0 0,.slice none 0 0] 26);zk Tp (An 26 (.pointer (some ⟨E.size,0,none⟩)) (.agg #[.int .i64 F,.string G,slV I,slV J])) M (λN=>(∃O P Q S,((bif (j==0)then(i==17)else false)=true->zd N ⟨c.size,0,none⟩ 0 [.int .i64 O,.string P,slV Q,slV S])/\∃T:Value->za->Prop,((bif (j==0)then(i==17)else false)=true->XC Tp 58 #[.int .i64 1] N (λU V=>∃W X Y Z,U=.agg #[.int .i64 W,.string X,slV Y,slV Z]/\T (.agg #[.int .i64 W,.string X,slV Y,slV Z]) V))/\((bif (j==0)then(i==17)else false)=false->∃aa ab ac ad,T (.agg #[.int .i64 aa,.string ab,slV ac,slV ad]) N)/\((bif (j==0)then(i==17)else false)=true->∀ae af,T ae af->∃ag ah ai aj,ae=.agg #[.int .i64 ag,.string ah,slV ai,slV aj])/\∀ak:Int,∀al:Bt,∀am an:Sl,∀ao,T (.agg #[.int .i64 ak,.string al,slV am,slV an]) ao->∃ap:Value->za->Prop,((bif (j==0)then(i==17)else false)=true->XC Tp 28 #[.string (⟨#[97]⟩:Bt)] ao (λaq ar=>∃au av aw ax,aq=.agg #[.int .i64 au,.string av,slV aw,slV ax]/\ap (.agg #[.int .i64 au,.string av,slV aw,slV ax]) ar))/\((bif (j==0)then(i==17)else false)=false->∃ay az aA aB,ap (.agg #[.int .i64 ay,.string az,slV aA,slV aB]) ao)/\((bif (j==0)then(i==17)else false)=true->∀aC aD,ap aC aD->∃aE aF aG aH,aC=.agg #[.int .i64 aE,.string aF,slV aG,slV aH])/\∀aI:Int,∀aJ:Bt,∀aL aM:Sl,∀aN,ap (.agg #[.int .i64 aI,.string aJ,slV aL,slV aM]) aN->∃aO:Value->za->Prop,((bif (j==0)then(i==17)else false)=true->let aP:=aN.push (.cells #[.int .i64 ak,.string al,slV am,slV an,.int .i64 aI,.string aJ,slV aL,slV aM] 26);aO (.slice (some ⟨aN.size,0,none⟩) 2 2) aP)/\((bif (j==0)then(i==17)else false)=false->∃aQ,aO (slV aQ) aN)/\((bif (j==0)then(i==17)else false)=true->∀aS aT,aO aS aT->∃aU,aS=slV aU)/\∀aV:Sl,∀aW,aO (slV aV) aW->∃aX:Value->za->Prop,((bif (j==0)then(i==17)else false)=true->XC Tp 29 #[slV aV] aW (λaY aZ=>∃a0 a1 a2 a3,aY=.agg #[.int .i64 a0,.string a1,slV a2,slV a3]/\aX (.agg #[.int .i64 a0,.string a1,slV a2,slV a3]) aZ))/\((bif (j==0)then(i==17)else false)=false->∃a4 a5 a6 a7,aX (.agg #[.int .i64 a4,.string a5,slV a6,slV a7]) aW)/\((bif (j==0)then(i==17)else false)=true->∀a8 a9,aX a8 a9->∃ba bb bc bd,a8=.agg #[.int .i64 ba,.string bb,slV bc,slV bd])/\∀be:Int,∀bf:Bt,∀bg bh:Sl,∀bi,aX (.agg #[.int .i64 be,.string bf,slV bg,slV bh]) bi->∃bj:Value->za->Prop,((bif (j==0)then(i==17)else false)=true->XC Tp 16 #[.agg #[.int .i64 O,.string P,slV Q,slV S],.agg #[.int .i64 be,.string bf,slV bg,slV bh]] bi (λbk bl=>∃bm,bk=.bool bm/\bj (.bool bm) bl))/\((bif (j==0)then(i==17)else false)=false->∃bn,bj (.bool bn) bi)/\((bif (j==0)then(i==17)else false)=true->∀bo bp,bj bo bp->∃bq,bo=.bool bq)/\∀br:Bool,∀bs,bj (.bool br) bs->∃bt,((bif (bif (bif (bif (bif (bif (j==0)then(i==17)else false)then br else false)then(r==0)else false)then(z==3)else false)then A else false)then L else false)=true->zc bs (Ai ⟨E.size,0,none⟩ 1)=some (.string bt))/\R (.bool (bif (bif (bif (bif (bif (bif (bif (j==0)then(i==17)else false)then br else false)then(r==0)else false)then(z==3)else false)then A else false)then L else false)then(bt.toList==(⟨#[50]⟩:Bt).toList)else false)) bs)/\(∃bu:Value->za->Prop,((bif (j==0)then(i==17)else false)=true->XC Tp 58 #[.int .i64 1] N (λbv bw=>∃bx bz bA bB,bv=.agg #[.int .i64 bx,.string bz,slV bA,slV bB]/\bu (.agg #[.int .i64 bx,.string bz,slV bA,slV bB]) bw))/\((bif (j==0)then(i==17)else false)=false->∃bC bD bE bF,bu (.agg #[.int .i64 bC,.string bD,slV bE,slV bF]) N)/\((bif (j==0)then(i==17)else false)=true->∀bG bH,bu bG bH->∃bI bJ bL bM,bG=.agg #[.int .i64 bI,.string bJ,slV bL,slV bM])/\∀bN:Int,∀bO:Bt,∀bP bQ:Sl,∀bS,bu (.agg #[.int .i64 bN,.string bO,slV bP,slV bQ]) bS->(∃bT bU bV bW,((bif (j==0)then(i==17)else false)=true->zd bS ⟨c.size,0,none⟩ 0 [.int .i64 bT,.string bU,slV bV,slV bW])/\∃bX:Value->za->Prop,((bif (j==0)then(i==17)else false)=true->XC Tp 28 #[.string (⟨#[97]⟩:Bt)] bS (λbY bZ=>∃b0 b1 b2 b3,bY=.agg #[.int .i64 b0,.string b1,slV b2,slV b3]/\bX (.agg #[.int .i64 b0,.string b1,slV b2,slV b3]) bZ))/\((bif (j==0)then(i==17)else false)=false->∃b4 b5 b6 b7,bX (.agg #[.int .i64 b4,.string b5,slV b6,slV b7]) bS)/\((bif (j==0)then(i==17)else false)=true->∀b8 b9,bX b8 b9->∃ca cb cc cd,b8=.agg #[.int .i64 ca,.string cb,slV cc,slV cd])/\∀ce:Int,∀cf:Bt,∀cg ch:Sl,∀ci,bX (.agg #[.int .i64 ce,.string cf,slV cg,slV ch]) ci->∃cj:Value->za->Prop,((bif (j==0)then(i==17)else false)=true->let ck:=ci.push (.cells #[.int .i64 bN,.string bO,slV bP,slV bQ,.int .i64 ce,.string cf,slV cg,slV ch] 26);cj (.slice (some ⟨ci.size,0,none⟩) 2 2) ck)/\((bif (j==0)then(i==17)else false)=false->∃cl,cj (slV cl) ci)/\((bif (j==0)then(i==17)else false)=true->∀cm cn,cj cm cn->∃co,cm=slV co)/\∀cp:Sl,∀cq,cj (slV cp) cq->∃cr:Value->za->Prop,((bif (j==0)then(i==17)else false)=true->XC Tp 29 #[slV cp] cq (λcs ct=>∃cu cv cw cx,cs=.agg #[.int .i64 cu,.string cv,slV cw,slV cx]/\cr (.agg #[.int .i64 cu,.string cv,slV cw,slV cx]) ct))/\((bif (j==0)then(i==17)else false)=false->∃cy cz cA cB,cr (.agg #[.int .i64 cy,.string cz,slV cA,slV cB]) cq)/\((bif (j==0)then(i==17)else false)=true->∀cC cD,cr cC cD->∃cE cF cG cH,cC=.agg #[.int .i64 cE,.string cF,slV cG,slV cH])/\∀cI:Int,∀cJ:Bt,∀cL cM:Sl,∀cN,cr (.agg #[.int .i64 cI,.string cJ,slV cL,slV cM]) cN->∃cO:Value->za->Prop,((bif (j==0)then(i==17)else false)=true->XC Tp 16 #[.agg #[.int .i64 bT,.string bU,slV bV,slV bW],.agg #[.int .i64 cI,.string cJ,slV cL,slV cM]] cN (λcP cQ=>∃cS,cP=.bool cS/\cO (.bool cS) cQ))/\((bif (j==0)then(i==17)else false)=false->∃cT,cO (.bool cT) cN)/\((bif (j==0)then(i==17)else false)=true->∀cU cV,cO cU cV->∃cW,cU=.bool cW)/\∀cX:Bool,∀cY,cO (.bool cX) cY->∃cZ,((bif (bif (bif (bif (bif (bif (j==0)then(i==17)else false)then cX else false)then(r==0)else false)then(z==3)else false)then A else false)then L else false)=true->zc cY (Ai ⟨E.size,0,none⟩ 1)=some (.string cZ))/\R (.bool (bif (bif (bif (bif (bif (bif (bif (j==0)then(i==17)else false)then cX else false)then(r==0)else false)then(z==3)else false)then A else false)then L else false)then(cZ.toList==(⟨#[50]⟩:Bt).toList)else false)) cY)/\(∃c0:Value->za->Prop,((bif (j==0)then(i==17)else false)=true->XC Tp 28 #[.string (⟨#[97]⟩:Bt)] bS (λc1 c2=>∃c3 c4 c5 c6,c1=.agg #[.int .i64 c3,.string c4,slV c5,slV c6]/\c0 (.agg #[.int .i64 c3,.string c4,slV c5,slV c6]) c2))/\((bif (j==0)then(i==17)else false)=false->∃c7 c8 c9 da,c0 (.agg #[.int .i64 c7,.string c8,slV c9,slV da]) bS)/\((bif (j==0)then(i==17)else false)=true->∀db dc,c0 db dc->∃dd de df dg,db=.agg #[.int .i64 dd,.string de,slV df,slV dg])/\∀dh:Int,∀di:Bt,∀dj dk:Sl,∀dl,c0 (.agg #[.int .i64 dh,.string di,slV dj,slV dk]) dl->(∃dm dn dp dq,((bif (j==0)then(i==17)else false)=true->zd dl ⟨c.size,0,none⟩ 0 [.int .i64 dm,.string dn,slV dp,slV dq])/\∃dr:Value->za->Prop,((bif (j==0)then(i==17)else false)=true->let ds:=dl.push (.cells #[.int .i64 bN,.string bO,slV bP,slV bQ,.int .i64 dh,.string di,slV dj,slV dk] 26);dr (.slice (some ⟨dl.size,0,none⟩) 2 2) ds)/\((bif (j==0)then(i==17)else false)=false->∃dt,dr (slV dt) dl)/\((bif (j==0)then(i==17)else false)=true->∀du dv,dr du dv->∃dw,du=slV dw)/\∀dx:Sl,∀dy,dr (slV dx) dy->∃dz:Value->za->Prop,((bif (j==0)then(i==17)else false)=true->XC Tp 29 #[slV dx] dy (λdA dB=>∃dC dD dE dF,dA=.agg #[.int .i64 dC,.string dD,slV dE,slV dF]/\dz (.agg #[.int .i64 dC,.string dD,slV dE,slV dF]) dB))/\((bif (j==0)then(i==17)else false)=false->∃dG dH dI dJ,dz (.agg #[.int .i64 dG,.string dH,slV dI,slV dJ]) dy)/\((bif (j==0)then(i==17)else false)=true->∀dL dM,dz dL dM->∃dN dO dP dQ,dL=.agg #[.int .i64 dN,.string dO,slV dP,slV dQ])/\∀dS:Int,∀dT:Bt,∀dU dV:Sl,∀dW,dz (.agg #[.int .i64 dS,.string dT,slV dU,slV dV]) dW->∃dX:Value->za->Prop,((bif (j==0)then(i==17)else false)=true->XC Tp 16 #[.agg #[.int .i64 dm,.string dn,slV dp,slV dq],.agg #[.int .i64 dS,.string dT,slV dU,slV dV]] dW (λdY dZ=>∃d0,dY=.bool d0/\dX (.bool d0) dZ))/\((bif (j==0)then(i==17)else false)=false->∃d1,dX (.bool d1) dW)/\((bif (j==0)then(i==17)else false)=true->∀d2 d3,dX d2 d3->∃d4,d2=.bool d4)/\∀d5:Bool,∀d6,dX (.bool d5) d6->∃d7,((bif (bif (bif (bif (bif (bif (j==0)then(i==17)else false)then d5 else false)then(r==0)else false)then(z==3)else false)then A else false)then L else false)=true->zc d6 (Ai ⟨E.size,0,none⟩ 1)=some (.string d7))/\R (.bool (bif (bif (bif (bif (bif (bif (bif (j==0)then(i==17)else false)then d5 else false)then(r==0)else false)then(z==3)else false)then A else false)then L else false)then(d7.toList==(⟨#[50]⟩:Bt).toList)else false)) d6)/\(∃d8:Value->za->Prop,((bif (j==0)then(i==17)else false)=true->let d9:=dl.push (.cells #[.int .i64 bN,.string bO,slV bP,slV bQ,.int .i64 dh,.string di,slV dj,slV dk] 26);d8 (.slice (some ⟨dl.size,0,none⟩) 2 2) d9)/\((bif (j==0)then(i==17)else false)=false->∃ea,d8 (slV ea) dl)/\((bif (j==0)then(i==17)else false)=true->∀eb ec,d8 eb ec->∃ed,eb=slV ed)/\∀ee:Sl,∀ef,d8 (slV ee) ef->(∃eg eh ei ej,((bif (j==0)then(i==17)else false)=true->zd ef ⟨c.size,0,none⟩ 0 [.int .i64 eg,.string eh,slV ei,slV ej])/\∃ek:Value->za->Prop,((bif (j==0)then(i==17)else false)=true->XC Tp 29 #[slV ee] ef (λel em=>∃en eo ep eq,el=.agg #[.int .i64 en,.string eo,slV ep,slV eq]/\ek (.agg #[.int .i64 en,.string eo,slV ep,slV eq]) em))/\((bif (j==0)then(i==17)else false)=false->∃er es et eu,ek (.agg #[.int .i64 er,.string es,slV et,slV eu]) ef)/\((bif (j==0)then(i==17)else false)=true->∀ev ew,ek ev ew->∃ex ey ez eA,ev=.agg #[.int .i64 ex,.string ey,slV ez,slV eA])/\∀eB:Int,∀eC:Bt,∀eD eE:Sl,∀eF,ek (.agg #[.int .i64 eB,.string eC,slV eD,slV eE]) eF->∃eG:Value->za->Prop,((bif (j==0)then(i==17)else false)=true->XC Tp 16 #[.agg #[.int .i64 eg,.string eh,slV ei,slV ej],.agg #[.int .i64 eB,.string eC,slV eD,slV eE]] eF (λeH eI=>∃eJ,eH=.bool eJ/\eG (.bool eJ) eI))/\((bif (j==0)then(i==17)else false)=false->∃eL,eG (.bool eL) eF)/\((bif (j==0)then(i==17)else false)=true->∀eM eN,eG eM eN->∃eO,eM=.bool eO)/\∀eP:Bool,∀eQ,eG (.bool eP) eQ->∃eS,((bif (bif (bif (bif (bif (bif (j==0)then(i==17)else false)then eP else false)then(r==0)else false)then(z==3)else false)then A else false)then L else false)=true->zc eQ (Ai ⟨E.size,0,none⟩ 1)=some (.string eS))/\R (.bool (bif (bif (bif (bif (bif (bif (bif (j==0)then(i==17)else false)then eP else false)then(r==0)else false)then(z==3)else false)then A else false)then L else false)then(eS.toList==(⟨#[50]⟩:Bt).toList)else false)) eQ)/\(∃eT:Value->za->Prop,((bif (j==0)then(i==17)else false)=true->XC Tp 29 #[slV ee] ef (λeU eV=>∃eW eX eY eZ,eU=.agg #[.int .i64 eW,.string eX,slV eY,slV eZ]/\eT (.agg #[.int .i64 eW,.string eX,slV eY,slV eZ]) eV))/\((bif (j==0)then(i==17)else false)=false->∃e0 e1 e2 e3,eT (.agg #[.int .i64 e0,.string e1,slV e2,slV e3]) ef)/\((bif (j==0)then(i==17)else false)=true->∀e4 e5,eT e4 e5->∃e6 e7 e8 e9,e4=.agg #[.int .i64 e6,.string e7,slV e8,slV e9])/\∀fa:Int,∀fb:Bt,∀fc fd:Sl,∀fe,eT (.agg #[.int .i64 fa,.string fb,slV fc,slV fd]) fe->∃ff fg fh fi,((bif (j==0)then(i==17)else false)=true->zd fe ⟨c.size,0,none⟩ 0 [.int .i64 ff,.string fg,slV fh,slV fi])/\∃fj:Value->za->Prop,((bif (j==0)then(i==17)else false)=true->XC Tp 16 #[.agg #[.int .i64 ff,.string fg,slV fh,slV fi],.agg #[.int .i64 fa,.string fb,slV fc,slV fd]] fe (λfk fl=>∃fm,fk=.bool fm/\fj (.bool fm) fl))/\((bif (j==0)then(i==17)else false)=false->∃fn,fj (.bool fn) fe)/\((bif (j==0)then(i==17)else false)=true->∀fo fp,fj fo fp->∃fq,fo=.bool fq)/\∀fr:Bool,∀fs,fj (.bool fr) fs->∃ft,((bif (bif (bif (bif (bif (bif (j==0)then(i==17)else false)then fr else false)then(r==0)else false)then(z==3)else false)then A else false)then L else false)=true->zc fs (Ai ⟨E.size,0,none⟩ 1)=some (.string ft))/\R (.bool (bif (bif (bif (bif (bif (bif (bif (j==0)then(i==17)else false)then fr else false)then(r==0)else false)then(z==3)else false)then A else false)then L else false)then(ft.toList==(⟨#[50]⟩:Bt).toList)else false)) fs)))))))))))):
  XC Tp 13 #[] h R:=
 XF ⟨[(5,8000)],[],[]⟩ [.tmp 0] 65 Tryz.func13 H
end
section
theorem zth(gl:Fr)(Z:Bt)(R:Tr->Prop)
  (H:R (Tr.mk 4 Z [] [])):
  PC Tp gl 28 [Arg.mk .str Z] [.tree] R:=
 PF ⟨[],[],[],[]⟩ [.cell 2 26] 5 Tryz.func28 H
end
end Go.X
end
section
namespace Go.X
open Go Go.X Go.Proofs Go.RowKit
section
variable {k k':Int} {s s':Bt} {a b a' b':Sl} {f:FuncId} {args:Array Value} {h:za} {g:Bool} {M:Fr}
def trV(k:Int)(s:Bt)(a b:Sl):Value:=.agg #[.int .i64 k,.string s,slV a,slV b]
theorem qcb(h:trV k s a b=trV k' s' a' b'):k=k'/\s=s'/\a=a'/\b=b':=by
 unfold trV slV at h
 injection h with h
 simp only[Array.mk.injEq,BM,and_true]at h
 obtain⟨h1,h2,h3,h4⟩:=h
 injection h1 with _ h1
 injection h2 with h2
 injection h3 with e1 e2 e3
 injection h4 with f1 f2 f3
 refine⟨h1,h2,?_,?_⟩
 ·cases a;cases a';simp_all
 ·cases b;cases b';simp_all
theorem zbf(hg:g=true){Kt:Int->Bt->Sl->Sl->za->Prop}(E:XC Tp f args h λv h'=>∃k s a b,v=trV k s a b/\Kt k s a b h'):
  ∃J:Value->za->Prop,(g=true->XC Tp f args h λv h'=>∃k:Int,∃s:Bt,∃a:Sl,∃b:Sl,v=trV k s a b/\J (trV k s a b) h')/\(g=false->∃k:Int,∃s:Bt,∃a:Sl,∃b:Sl,J (trV k s a b) h) /\
   (g=true->∀v h',J v h'->∃k:Int,∃s:Bt,∃a:Sl,∃b:Sl,v=trV k s a b)/\∀k:Int,∀s:Bt,∀a:Sl,∀b:Sl,∀h',J (trV k s a b) h'->Kt k s a b h':=by
 refine⟨λv h'=>∃k s a b,v=trV k s a b/\Kt k s a b h',λ_=>XC.mono E λv h' ⟨k,s,a,b,e,H⟩=>⟨k,s,a,b,e,k,s,a,b,rfl,H⟩,λhx=>(by rw[hg]at hx;cases hx),λ_ v h' ⟨k,s,a,b,e,_⟩=>⟨k,s,a,b,e⟩,λk s a b h' ⟨k',s',a',b',e,H⟩=>?_⟩
 obtain⟨rfl,rfl,rfl,rfl⟩:=qcb e
 exact H
theorem zqu(hg:g=true){Kt:Bool->za->Prop}(E:XC Tp f args h λv h'=>∃r,v=.bool r/\Kt r h'):
  ∃J:Value->za->Prop,(g=true->XC Tp f args h λv h'=>∃r:Bool,v=.bool r/\J (.bool r) h')/\(g=false->∃r:Bool,J (.bool r) h)/\(g=true->∀v h',J v h'->∃r:Bool,v=.bool r)/\∀r:Bool,∀h',J (.bool r) h'->Kt r h':=by
 refine⟨λv h'=>∃r,v=.bool r/\Kt r h',λ_=>XC.mono E λv h' ⟨r,e,H⟩=>⟨r,e,r,rfl,H⟩,λhx=>(by rw[hg]at hx;cases hx),λ_ v h' ⟨r,e,_⟩=>⟨r,e⟩,λr h' ⟨r',e,H⟩=>?_⟩
 injection e with e
 subst e;exact H
theorem z6y{h h1:za}{s:Sl}(hg:g=true){Kt:Sl->za->Prop}(E:Kt s h1):
  ∃J:Value->za->Prop,(g=true->J (slV s) h1)/\(g=false->∃x:Sl,J (slV x) h)/\(g=true->∀v h',J v h'->∃x:Sl,v=slV x)/\∀x:Sl,∀h',J (slV x) h'->Kt x h':=by
 refine⟨λv h'=>∃x,v=slV x/\Kt x h',λ_=>⟨s,rfl,E⟩,λhx=>(by rw[hg]at hx;cases hx),λ_ v h' ⟨x,e,_⟩=>⟨x,e⟩,λx h' ⟨x',e,H⟩=>?_⟩
 have:x=x':=by
  unfold slV at e
  injection e with e1 e2 e3
  cases x;cases x';simp_all
 subst this;exact H
theorem qhm{b:Nat}(hb:M b=none){t1 t2:Tr}{w1 w2:List Value}(h1:Rd M .tree t1 w1)(h2:Rd M .tree t2 w2)(l1:w1.length=4)(l2:w2.length=4):Rd (Mx M b (w1++w2).toArray) (.row .tree) [t1,t2] [slV ⟨some ⟨b,0,none⟩,2,2⟩]:=by
 have le:Fr.le M (Mx M b (w1++w2).toArray):=λc cs e=>by
  unfold Mx
  by_cases hc:c=b
  ·subst hc;rw[hb]at e;cases e
  ·rw[if_neg hc];exact e
 refine⟨_,rfl,_,_,rfl,by simp,.inr ⟨b,0,_,rfl,by unfold Mx;rw[if_pos rfl],λi hi=>?_⟩⟩
 have hi:i<2:=hi
 rcases(by omega:i=0\/i=1)with rfl|rfl
 ·have:cut (w1++w2).toArray (0+0*sz .tree) (sz .tree)=w1:=by
   show List.take 4 (List.drop 0 (w1++w2))=w1
   rw[Cc,<-l1,CH]
  rw[this];exact Rd.mono le h1
 ·have:cut (w1++w2).toArray (0+1*sz .tree) (sz .tree)=w2:=by
   show List.take 4 (List.drop 4 (w1++w2))=w2
   rw[List.drop_left' l1,<-l2,AW]
  rw[this];exact Rd.mono le h2
theorem qhn{b:Nat}{s1 s2:Bt}:Rd (Mx M b #[.string s1,.string s2]) (.row .str) [s1,s2] [slV ⟨some ⟨b,0,none⟩,2,2⟩]:=by
 refine⟨_,rfl,_,_,rfl,by simp,.inr ⟨b,0,_,rfl,by unfold Mx;rw[if_pos rfl],λi hi=>?_⟩⟩
 have hi:i<2:=hi
 rcases(by omega:i=0\/i=1)with rfl|rfl <;> rfl
theorem z2o{b:Bool}{w:Value}(h:RdV M .bool b w):w=.bool b:=by
 rw[zw6 rfl]at h;simpa[Rd]using h
theorem z2p{T:Tr}(h:RdV M .tree T (trV k s a b)):Rd M .tree T [.int .i64 k,.string s,slV a,slV b]:=by
 unfold RdV at h
 simp only[zjf,if_true]at h
 obtain⟨cs,e,hr⟩:=h
 unfold trV at e
 injection e with e
 have:cs=[.int .i64 k,.string s,slV a,slV b]:=by have:=congrArg Array.toList e;simpa using this.symm
 rw[<-this];exact hr
def smA:Tr:=.mk 5 (bl []) [] [.mk 3 (bl [49]) [] [],.mk 4 (bl [97]) [] []]
structure Cx (gl:Fr) (b2 b29:Nat) (k2 k29:Int) (s2:Bt) (a2 c2 a29 c29:Sl) (h:za) (M:Fr):Prop where
 hM:Fr.le gl M
 ag:AgM M h
 V:Blk h b2 #[.int .i64 k2,.string s2,slV a2,slV c2]
 rv:RdV M .tree smA (trV k2 s2 a2 c2)
 X:Blk h b29 #[.int .i64 k29,.string (bl [50]),slV a29,slV c29]
section
variable {gl : Fr} {b2 b29 : Nat} {k2 k29 : Int} {s2 : Bt} {a2 c2 a29 c29 : Sl} {h : za} {M : Fr}
theorem Cx.later(c:Cx gl b2 b29 k2 k29 s2 a2 c2 a29 c29 h M){h':za}{M':Fr}(L:Later h M h' M'):Cx gl b2 b29 k2 k29 s2 a2 c2 a29 c29 h' M':=
 ⟨c.hM.trans L.le,L.ag,c.V.keep (L.keep.get b2 c.V.lt),RdV.mono L.le c.rv,c.X.keep (L.keep.get b29 c.X.lt)⟩
theorem Cx.num(c:Cx gl b2 b29 k2 k29 s2 a2 c2 a29 c29 h M)(hg:GL gl){K:Int->Bt->Sl->Sl->za->Prop}(hK:∀k s a b h' M',Later h M h' M'->RdV M' .tree (.mk 3 (bl [49]) [] []) (trV k s a b)->K k s a b h'):XC Tp 58 #[.int .i64 1] h λv h'=>∃k s a b,v=trV k s a b/\K k s a b h':=by
 refine(qea hg (n:=1) (by decide) (by decide) (R:=λr=>r=.mk 3 (bl [49]) [] []) (by rw[qiw])).go c.hM c.ag (yj (a:=Arg.mk (.int .i64) 1) (Jf _ _) jy) λv h' M' r L hv hr=>?_
 subst hr
 have rv:=zdo.1 hv
 obtain⟨a,b,rfl,_⟩:=wn rv
 exact⟨_,_,a,b,rfl,hK _ _ _ _ _ _ L rv⟩
theorem Cx.of(c:Cx gl b2 b29 k2 k29 s2 a2 c2 a29 c29 h M){K:Int->Bt->Sl->Sl->za->Prop}(hK:∀k s a b h' M',Later h M h' M'->RdV M' .tree (.mk 4 (bl [97]) [] []) (trV k s a b)->K k s a b h'):XC Tp 28 #[.string ⟨#[97]⟩] h λv h'=>∃k s a b,v=trV k s a b/\K k s a b h':=by
 refine(show PC Tp gl 28 [Arg.mk .str ⟨#[97]⟩] [.tree] (λr=>r=.mk 4 (bl [97]) [] [])from by apply zth;rfl).go c.hM c.ag (yj (a:=Arg.mk .str _) (rdStr _) jy) λv h' M' r L hv hr=>?_
 subst hr
 have rv:=zdo.1 hv
 obtain⟨a,b,rfl,_⟩:=wn rv
 exact⟨_,_,a,b,rfl,hK _ _ _ _ _ _ L rv⟩
theorem Cx.row(c:Cx gl b2 b29 k2 k29 s2 a2 c2 a29 c29 h M){x:Sl}(hx:Rd M (.row .tree) [.mk 3 (bl [49]) [] [],.mk 4 (bl [97]) [] []] [slV x]){K:Int->Bt->Sl->Sl->za->Prop}(hK:∀k s a b h' M',Later h M h' M'->RdV M' .tree smA (trV k s a b)->K k s a b h'):XC Tp 29 #[slV x] h λv h'=>∃k s a b,v=trV k s a b/\K k s a b h':=by
 refine(qd9 (gl:=gl) (l:=[.mk 3 (bl [49]) [] [],.mk 4 (bl [97]) [] []]) (R:=λr=>r=smA) rfl).go c.hM c.ag (yj (a:=Arg.mk (.row .tree) _) ((zw6 rfl).2 hx) jy) λv h' M' r L hv hr=>?_
 subst hr
 have rv:=zdo.1 hv
 obtain⟨a,b,rfl,_⟩:=wn rv
 exact⟨_,_,a,b,rfl,hK _ _ _ _ _ _ L rv⟩
theorem Cx.eq(c:Cx gl b2 b29 k2 k29 s2 a2 c2 a29 c29 h M)(hx:RdV M .tree smA (trV k s a b)){K:Bool->za->Prop}(hK:∀h' M',Later h M h' M'->K true h'):XC Tp 16 #[trV k2 s2 a2 c2,trV k s a b] h λv h'=>∃r,v=.bool r/\K r h':=by
 refine(zp0 (gl:=gl) smA smA (R:=λr=>r=true) λr hr=>hr.2 rfl).go c.hM c.ag (yj (a:=Arg.mk .tree _) c.rv (yj (a:=Arg.mk .tree _) hx jy)) λv h' M' r L hv hr=>?_
 have hr:r=true:=hr
 subst hr
 exact⟨true,zn1 hv,hK _ _ L⟩
theorem Cx.lit(c:Cx gl b2 b29 k2 k29 s2 a2 c2 a29 c29 h M){T:TypeId}(h1:RdV M .tree (.mk 3 (bl [49]) [] []) (trV k s a b))(h2:RdV M .tree (.mk 4 (bl [97]) [] []) (trV k' s' a' b')):
  ∃M',Later h M (h.push (.cells #[.int .i64 k,.string s,slV a,slV b,.int .i64 k',.string s',slV a',slV b'] T)) M'/\Rd M' (.row .tree) [.mk 3 (bl [49]) [] [],.mk 4 (bl [97]) [] []] [slV ⟨some ⟨h.size,0,none⟩,2,2⟩]:=by
 refine⟨_,Later.frz c.ag _ T,qhm (w1:=[_,_,_,_]) (w2:=[_,_,_,_]) ?_ (z2p h1) (z2p h2) rfl rfl⟩
 cases e:M h.size with
 |none=>rfl
 |some cs=>have:=c.ag.lt e;omega
end
def tb9:Bs:=[123,34,97,34,58,91,49,44,50,93,125]
def ns9:List Nd:=[(6,(0,11),(0,0),[1],[(1,10)]),(5,(5,10),(1,4),[2,3],[(6,7),(8,9)]),(3,(6,7),(0,0),[],[]),(3,(8,9),(0,0),[],[])]
theorem at9:atR tb9 ns9 [⟨#[97]⟩,⟨#[49]⟩]=(3,true):=by kernel_rfl
theorem nd9:qb6 tb9 ns9 3=(.mk 3 (bl [50]) [] [],true):=by kernel_rfl
theorem qho{t:Bs}{nodes:List Nd}{sl:Sl}(h:Rd M (.row tNd) nodes [slV sl]):RdV M zva (bl t,nodes) (.agg #[.string (bl t),slV sl]):=⟨[.string (bl t),slV sl],rfl,[_],[_],rfl,rfl,h⟩
set_option maxRecDepth 100000 in
set_option maxHeartbeats 4000000 in
theorem z2q{gl:Fr}(hg:GL gl):PC Tp gl 13 [] [.bool] (λr=>r=true):=by
 intro h M vs hM ag ha
 match vs,ha with
 |[],_=>
 apply PX.of
 apply zcs
 refine(ziu hg (s:=[32,91,49,46,48,44,32,34,92,117,48,48,54,49,34,93,32]) (R:=λr=>r=(smA,17,0)) qca).go hM ag (yj (a:=Arg.mk .str _) (rdStr _) jy) λv1 h2 M2 r L2 hv hr=>?_
 subst hr
 obtain⟨_,⟨u1,_,rfl,hx,u2,_,rfl,hy,u3,rfl,hz⟩,rfl⟩:=hv
 obtain⟨sk,si,rfl,_⟩:=wn hx
 obtain rfl:=qo hy
 obtain rfl:=qo hz
 refine⟨_,_,sk,si,_,_,rfl,?_⟩
 have aQ:=hM.trans L2.le
 intro h9
 have k9:Keep h2.size h2 h9:=Keep.push _ _ (Ac _)
 have z9:h9.size=h2.size+1:=Am _
 have V9:Blk h9 h2.size #[.int .i64 0,.string ⟨#[]⟩,.slice none 0 0,.slice none 0 0]:=Blk.new _ _ _
 clear_value h9
 refine Yd V9 λbm bF cJ bB=>?_
 have bC:Keep h2.size h2 bm:=⟨by omega,λj hj=>(bF j (by omega)).trans (k9.get j hj)⟩
 have ak:=Later.same L2.ag bC
 refine(zqr hg (s:=tb9) (R:=λr=>r=((bl tb9,ns9),11,0)) (by rw[show Z8 tb9=_ from ztg];rfl)).go aQ ak.ag (yj (a:=Arg.mk .str _) (rdStr _) jy) λv aa am r ab hv hr=>?_
 subst hr
 obtain⟨sl,rfl,rd⟩:=qe4 (x:=(tb9,ns9)) hv
 refine⟨_,sl,_,_,rfl,?_⟩
 have cz:=ab.keep.size
 have bL:=bB.keep (ab.keep.get h2.size (by omega))
 have az:=aQ.trans ab.le
 intro ap
 have bU:Keep aa.size aa ap:=Keep.push _ _ (Ac _)
 have cO:ap.size=aa.size+1:=Am _
 have bQ:Blk ap aa.size #[.string ⟨#[]⟩,.slice none 0 0]:=Blk.new _ _ _
 clear_value ap
 refine zd2 (u:=bl tb9) (v:=sl) bQ λay br dA aO=>?_
 have aF:Keep aa.size aa ay:=⟨by omega,λj hj=>(br j (by omega)).trans (bU.get j hj)⟩
 have bo:=bL.keep (aF.get h2.size (by omega))
 refine⟨_,sl,aO.ld (cs:=[.string _,slV sl]),?_⟩
 intro ax
 have Z:Later ay am ax (Mx am ay.size #[.string ⟨#[97]⟩,.string ⟨#[49]⟩]):=Later.frz (ab.ag.keep aF) _ _
 have cB:ax.size=ay.size+1:=Am _
 clear_value ax
 have cc:=aO.keep (Z.keep.get aa.size (by omega))
 have bS:=bo.keep (Z.keep.get h2.size (by omega))
 have he:(Z8 tb9).2.2=0:=by rw[show Z8 tb9=_ from ztg]
 obtain⟨lvs,G,_,_,_,_⟩:=zqf he
 have bM:(Z8 tb9).1.2=ns9:=by rw[show Z8 tb9=_ from ztg];rfl
 rw[bM]at G
 have aM:∀x∈ns9,x.2.2.2.1.length<=200000:=by decide
 have aL:∀{M':Fr},Fr.le am M'->RdV M' zva (bl tb9,ns9) (.agg #[.string (bl tb9),slV sl]):=λle=>qho (rd.mono le)
 refine(qhl hg (t:=tb9) (by decide) G (λ_=>rfl) aM (p:=[⟨#[97]⟩,⟨#[49]⟩]) (z6x (by decide) (by decide)) (R:=λr=>r=(3,true)) at9).go (az.trans Z.le) Z.ag (yj (a:=Arg.mk zva _) (aL Z.le) (yj (a:=Arg.mk (.row .str) _) ((zw6 rfl).2 qhn) jy)) λv cy dw r ae hv hr=>?_
 subst hr
 obtain⟨_,⟨u1,_,rfl,aG,u2,rfl,aJ⟩,rfl⟩:=hv
 obtain rfl:=qo aG
 obtain rfl:=z2o aJ
 refine⟨_,_,rfl,?_⟩
 have cG:=ae.keep.size
 have ca:=cc.keep (ae.keep.get aa.size (by omega))
 have bG:=bS.keep (ae.keep.get h2.size (by omega))
 have aB:=(az.trans Z.le).trans ae.le
 refine⟨_,sl,ca.ld (cs:=[.string _,slV sl]),?_⟩
 refine(qb7 hg (t:=tb9) (by decide) G aM (k:=3) (R:=λr=>r=(.mk 3 (bl [50]) [] [],true)) nd9).go aB ae.ag (yj (a:=Arg.mk zva _) (aL (Z.le.trans ae.le)) (yj (a:=Arg.mk (.int .i64) 3) (Jf _ _) jy)) λv af aE r ah hv hr=>?_
 subst hr
 obtain⟨_,⟨u1,_,rfl,aG,u2,rfl,aJ⟩,rfl⟩:=hv
 obtain⟨xk,xi,rfl,_⟩:=wn aG
 obtain rfl:=z2o aJ
 refine⟨_,_,xk,xi,_,rfl,?_⟩
 have dh:=ah.keep.size
 have cb:=bG.keep (ah.keep.get h2.size (by omega))
 have bj:=aB.trans ah.le
 intro au
 have bu:Keep af.size af au:=Keep.push _ _ (Ac _)
 have db:au.size=af.size+1:=Am _
 have bJ:Blk au af.size #[.int .i64 0,.string ⟨#[]⟩,.slice none 0 0,.slice none 0 0]:=Blk.new _ _ _
 clear_value au
 refine Yd bJ λar bZ cp bO=>?_
 have aS:Keep af.size af ar:=⟨by omega,λj hj=>(bZ j (by omega)).trans (bu.get j hj)⟩
 have bA:=cb.keep (aS.get h2.size (by omega))
 have aZ:Later h M aa am:=L2.trans (ak.trans ab)
 have aC:Later h M ar aE:=aZ.trans ((Later.same ab.ag aF).trans (Z.trans (ae.trans (ah.trans (Later.same ah.ag aS)))))
 have c:Cx gl h2.size af.size _ _ _ sk si xk xi ar aE:=⟨bj,aC.ag,bA,RdV.mono (ab.le.trans (Z.le.trans (ae.le.trans ah.le))) hx,bO⟩
 have hR:∀{h':za} {M':Fr},Later ar aE h' M'->∃M' r,Later h M h' M'/\zcx M' [.bool] r (.bool true)/\r=true:=λL=>⟨_,true,aC.trans L,zdo.2 (rdBool true),rfl⟩
 refine⟨?_,?_⟩
 ·refine⟨_,_,_,_,λ_=>c.V.ld (cs:=[_,_,slV _,slV _]),?_⟩
  refine zbf rfl (c.num hg λk2 s2 a2 b2 h2 M2 L2 q2=>?_)
  have c2:=c.later L2
  refine zbf rfl (c2.of λk3 s3 a3 b3 h3 M3 L3 q3=>?_)
  have c3:=c2.later L3
  have bn:=RdV.mono L3.le q2
  obtain⟨M4,L4,q4⟩:=c3.lit (T:=26) bn q3
  have c4:=c3.later L4
  refine z6y (s:=⟨some ⟨_,0,none⟩,2,2⟩) rfl ?_
  refine zbf rfl (c4.row q4 λk5 s5 a5 b5 h5 M5 L5 q5=>?_)
  have c5:=c4.later L5
  refine zqu rfl (c5.eq q5 λh6 M6 L6=>?_)
  have c6:=c5.later L6
  refine⟨⟨#[50]⟩,λ_=>c6.X.cell (o:=1) rfl,?_⟩
  simp only[beq_self_eq_true,cond_true]
  exact hR (L2.trans (L3.trans (L4.trans (L5.trans (L6)))))
 ·refine zbf rfl (c.num hg λk7 s7 a7 b7 h7 M7 L7 q7=>?_)
  have c7:=c.later L7
  refine⟨?_,?_⟩
  ·refine⟨_,_,_,_,λ_=>c7.V.ld (cs:=[_,_,slV _,slV _]),?_⟩
   refine zbf rfl (c7.of λk9 s9 a9 b9 h9 M9 L9 q9=>?_)
   have c9:=c7.later L9
   have bT:=RdV.mono L9.le q7
   obtain⟨cE,ak,bI⟩:=c9.lit (T:=26) bT q9
   have aV:=c9.later ak
   refine z6y (s:=⟨some ⟨_,0,none⟩,2,2⟩) rfl ?_
   refine zbf rfl (aV.row bI λcM de cn co cA du bh bD=>?_)
   have aN:=aV.later bh
   refine zqu rfl (aN.eq bD λaa am ab=>?_)
   have bV:=aN.later ab
   refine⟨⟨#[50]⟩,λ_=>bV.X.cell (o:=1) rfl,?_⟩
   simp only[beq_self_eq_true,cond_true]
   exact hR (L7.trans (L9.trans (ak.trans (bh.trans (ab)))))
  ·refine zbf rfl (c7.of λcq cj dm dr cL cH ai bi=>?_)
   have aj:=c7.later ai
   have aA:=RdV.mono ai.le q7
   refine⟨?_,?_⟩
   ·refine⟨_,_,_,_,λ_=>aj.V.ld (cs:=[_,_,slV _,slV _]),?_⟩
    obtain⟨cQ,bg,b8⟩:=aj.lit (T:=26) aA bi
    have aP:=aj.later bg
    refine z6y (s:=⟨some ⟨_,0,none⟩,2,2⟩) rfl ?_
    refine zbf rfl (aP.row b8 λcu dx cY cF cg dy aU bY=>?_)
    have a8:=aP.later aU
    refine zqu rfl (a8.eq bY λap cC aT=>?_)
    have bz:=a8.later aT
    refine⟨⟨#[50]⟩,λ_=>bz.X.cell (o:=1) rfl,?_⟩
    simp only[beq_self_eq_true,cond_true]
    exact hR (L7.trans (ai.trans (bg.trans (aU.trans (aT)))))
   ·obtain⟨cV,aH,be⟩:=aj.lit (T:=26) aA bi
    have an:=aj.later aH
    refine z6y (s:=⟨some ⟨_,0,none⟩,2,2⟩) rfl ?_
    refine⟨?_,?_⟩
    ·refine⟨_,_,_,_,λ_=>an.V.ld (cs:=[_,_,slV _,slV _]),?_⟩
     refine zbf rfl (an.row be λcZ cP dz di cT ck aY bH=>?_)
     have ba:=an.later aY
     refine zqu rfl (ba.eq bH λax dq Z=>?_)
     have bP:=ba.later Z
     refine⟨⟨#[50]⟩,λ_=>bP.X.cell (o:=1) rfl,?_⟩
     simp only[beq_self_eq_true,cond_true]
     exact hR (L7.trans (ai.trans (aH.trans (aY.trans (Z)))))
    ·refine zbf rfl (an.row be λcd dt df da dl cm a1 bE=>?_)
     have aI:=an.later a1
     refine⟨_,_,_,_,λ_=>aI.V.ld (cs:=[_,_,slV _,slV _]),?_⟩
     refine zqu rfl (aI.eq bE λc8 dv a6=>?_)
     have bq:=aI.later a6
     refine⟨⟨#[50]⟩,λ_=>bq.X.cell (o:=1) rfl,?_⟩
     simp only[beq_self_eq_true,cond_true]
     exact hR (L7.trans (ai.trans (aH.trans (a1.trans (a6)))))
end
section
variable {b:Nat} {h h':za} {s:Sl} {ln:Bool} {nd:Int} {l:Bs} {K:Value -> za -> Prop}
def nU(o:Obj):Bool:=match o with
 |.cells _ T _=>!(Nat.beq T 5) && !(Nat.beq T 128)
 |_=>true
def Otk(h h':za):Prop:=∀(i:Nat) (o:Obj),h[i]?=some o->nU o=true->h'[i]?=some o
theorem Otk.trans{a b c:za}(x:Otk a b)(y:Otk b c):Otk a c:=λi o e n=>y i o (x i o e n) n
theorem Otk.keep(k:Keep h.size h h'):Otk h h':=λi o e _=>by
 have hi:i<h.size:=(Ad.1 e).1
 rw[k.get i hi];exact e
theorem Otk.ne{cs:Array Value}{m:Nat×Nat}(e:h[b]?=some (.cells cs 128 m))(f:∀i,i≠b->h'[i]?=h[i]?):Otk h h':=λi o ei n=>by
 by_cases hi:i=b
 ·subst hi
  rw[e]at ei;cases ei
  cases n
 ·rw[f i hi];exact ei
theorem Otk.own{base:Nat}{sz:Nat}{xs:List Value}(H:Owns h base 5 sz s xs)(f:∀i,i<h.size->(∀p,s.a=some p->i≠p.block)->h'[i]?=h[i]?):Otk h h':=λi o ei n=>by
 have hi:i<h.size:=(Ad.1 ei).1
 rw[f i hi λq hq Z=>?_]
 ·exact ei
 ·rcases H.2 with⟨hv,_⟩|⟨g,cap,aa,hv,_,hg,_⟩
  ·rw[hq]at hv;cases hv
  ·have hg:h[g]?=some (.cells aa 5 (0,0)):=hg
   rw[hq]at hv
   injection hv with e1 _ _
   injection e1 with e1
   rw[Z,e1]at ei
   rw[hg]at ei;cases ei
   cases n
theorem qcc:liesAt Tp AY.depth 128 (4 / AY.cellsOf 128) 0 112 1=true:=by kernel_rfl
def Prn(h:za)(b:Nat)(ln:Bool)(nd:Int)(l:Bs):Prop:=∃(p:Option Addr) (s:Sl),h[b]?=some (.cells #[.pointer p,slV s,.bool ln,.int .i64 nd] 128 (0,0))/\(p=none\/p=some ⟨b,0,none⟩)/\Owns h (b+1) 5 1 s (Lib.byteCells l)
theorem Prn.lt(H:Prn h b ln nd l):b<h.size:=by
 obtain⟨p,s,e,_⟩:=H
 rcases A1 b h.size with q|q
 ·exact q
 ·rw[Array.getElem?_eq_none q]at e;cases e
theorem Prn.keep(H:Prn h b ln nd l)(k:Keep h.size h h'):Prn h' b ln nd l:=by
 have Z:=H.lt
 obtain⟨p,s,e,hp,ho⟩:=H
 exact⟨p,s,by rw[k.get b Z];exact e,hp,ho.keepN k⟩
theorem Prn.new(h:za)(ln:Bool)(nd:Int):Prn (h.push (.cells #[.pointer none,.slice none 0 0,.bool ln,.int .i64 nd] 128)) h.size ln nd []:=
 ⟨none,⟨none,0,0⟩,yb _ _,.inl rfl,Owns.nil _ _ _ _⟩
set_option maxHeartbeats 1000000 in
set_option maxRecDepth 100000 in
theorem zqv(b:Nat)(w:World)(h0:w.cell? ⟨b,0,none⟩=some (.pointer none))(Z:w.shape? b=some (128,4))(ab:w.frozen? ⟨b,0,none⟩=false):
  Calls Tp 152 #[.pointer (some ⟨b,0,none⟩)] w λe w'=>e=.returned (.tuple #[])/\w'=w.setCell ⟨b,0,none⟩ (.pointer (some ⟨b,0,none⟩)):=by
 obtain⟨j,hj,aa⟩:=Cs.1 zss
 have mixed:=Tryz.mixed
 go_enter Tryz.func152,Tryz.ntmps152
 go_wp2
 rw[Lib.run_to_unsafe w ⟨b,0,none⟩ zp1 zm6 hj (by rw[aa];decide) Z (Nat.zero_lt_succ 3)]
 simp only[Result.andThen]
 rw[Oper.upon_value]
 go_wp2
 rw[run_callFunc_extern Tryz.func219 (by kernel_rfl) (by kernel_rfl) (by kernel_rfl) (e:=Ez) (by kernel_rfl)]
 rw[Lib.run_noEscape]
 simp only[Result.andThen]
 rw[Oper.upon_value]
 go_wp2
 rw[Lib.run_from_unsafe w ⟨b,0,none⟩ zm6 zp1 hj Z qcc]
 simp only[Result.andThen]
 rw[Oper.upon_value]
 go_wp2
 go_end0
 exact⟨rfl,rfl⟩
theorem qh3(H:Prn h b ln nd l)(hK:∀h',Prn h' b ln nd l->Keep b h h'->h'.size=h.size->Otk h h'->K (.tuple #[]) h'):XC Tp 152 #[.pointer (some ⟨b,0,none⟩)] h K:=by
 have aa:=H.lt
 obtain⟨p,s,e,hp,ho⟩:=H
 have Z:∀B d,(mk B d h).cell? ⟨b,0,none⟩=some (.pointer p):=λB d=>by
  have:(mk B d h).heap[b]?=some (.cells #[.pointer p,slV s,.bool ln,.int .i64 nd] 128 (0,0)):=e
  simp[World.cell?,this]
 rcases hp with rfl|rfl
 ·refine XC.of_calls λB d=>(zqv b (mk B d h) (Z B d) ?_ ?_).mono ?_
  ·have:(mk B d h).heap[b]?=some (.cells #[.pointer none,slV s,.bool ln,.int .i64 nd] 128 (0,0)):=e
   simp[World.shape?,this]
  ·exact zej ⟨_,e⟩ B d
  ·rintro e' w' ⟨rfl,rfl⟩
   rw[zla e]
   refine⟨_,rfl,rfl,rfl,rfl,?_⟩
   show K _ (h.setIfInBounds b _)
   refine hK _ ⟨_,s,?_,.inr rfl,?_⟩ ?_ (by simp) (Otk.ne e λi hi=>AC (Ne.symm hi))
   ·rw[Cn aa];rfl
   ·refine ho.keep λq hq=>?_
    have:=ho.base_le q hq
    rw[AC (by omega)]
   ·exact Keep.setBlk _ (Ac _)
 ·refine XC.of_calls λB d=>(zk9 b (mk B d h) (Z B d)).mono ?_
  rintro e' w' ⟨rfl,rfl⟩
  exact⟨_,rfl,rfl,rfl,rfl,hK _ ⟨_,s,e,.inr rfl,ho⟩ (Keep.refl _ _) rfl (Otk.keep (Keep.refl _ _))⟩
theorem z2r{p:Option Addr}{s s0:Sl}(e:h[b]?=some (.cells #[.pointer p,slV s0,.bool ln,.int .i64 nd] 128 (0,0)))(hp:p=none\/p=some ⟨b,0,none⟩)(ho:Owns h (b+1) 5 1 s (Lib.byteCells l)){K:za->Prop}
  (hK:∀h',Prn h' b ln nd l->Keep b h h'->h'.size=h.size->Otk h h'->K h'):zk Tp (An 110 (.pointer (some ⟨b,1,none⟩)) (.slice s.a s.len s.cap)) h K:=by
 intro B d
 obtain⟨h',r1,r2,r3,r4⟩:=Q1 (P:=Tp) z02 z03 e (o:=1) (v:=slV s) rfl (by simp) (by simp[slV,Value.cells,Value.oneCell']) B d
 refine⟨d,h',r1,hK h' ⟨p,s,?_,hp,?_⟩ (Keep.ne r3 r4) r3 (Otk.ne e r4)⟩
 ·rw[r2];rfl
 ·refine ho.keep λq hq=>?_
  have:=ho.base_le q hq
  exact r4 _ (by omega)
theorem Qv(H:Prn h b ln nd l)(hl:l.length<140737488355328)(c:UInt8)(hK:∀h',Prn h' b ln nd (l++[c])->Keep b h h'->Otk h h'->K .nilIface h'):
  XC Tp 81 #[.pointer (some ⟨b,0,none⟩),.int .u8 (c.toNat:Int)] h K:=by
 apply ju
 refine qh3 H λh2 H2 k2 z2 i2=>⟨rfl,_,rfl,?_⟩
 have aa:=H2.lt
 obtain⟨p,s,e,hp,ho⟩:=H2
 have Z:=ho.1
 rw[Lib.byteCells_length,Cw]at Z
 refine⟨s,Blk.cellAdd (o:=0) (k:=1) (cs:=#[.pointer p,slV s,.bool ln,.int .i64 nd]) ⟨_,e⟩ rfl,?_⟩
 intro h5
 have k5:Keep h2.size h2 h5:=Keep.push _ _ (Ac _)
 have s5:h5.size=h2.size+1:=Am _
 have b5:Blk h5 h2.size #[.int .u8 (c.toNat:Int)]:=Blk.new _ _ _
 have e5:h5[b]?=some (.cells #[.pointer p,slV s,.bool ln,.int .i64 nd] 128 (0,0)):=by rw[k5.get b aa];exact e
 have o5:=ho.keepN k5
 clear_value h5
 refine zei elemU8 o5 (src:=⟨some ⟨h2.size,0,none⟩,1,1⟩) (news:=[.int .u8 (c.toNat:Int)]) (n:=h5.size) ?_ rfl (by simp[Value.oneCell']) (by simp only;omega) (by simp only;omega) (by omega) λs' h6 q1 q2 q3 q4 q5=>⟨s',rfl,_,rfl,?_⟩
 ·refine .inr ⟨h2.size,0,rfl,by omega,λi v hv=>?_⟩
  match i,hv with
  |0,hv=>cases hv;exact b5.cell rfl
 ·have e6:h6[b]?=some (.cells #[.pointer p,slV s,.bool ln,.int .i64 nd] 128 (0,0)):=by
   rw[q3 b (by omega) λq hq=>by have:=ho.base_le q hq;omega];exact e5
  have o6:Owns h6 (b+1) 5 1 s' (Lib.byteCells (l++[c])):=by
   have:Lib.byteCells (l++[c])=Lib.byteCells l++[.int .u8 (c.toNat:Int)]:=by unfold Lib.byteCells;rw[BW];rfl
   rw[this];exact q2
  have kk:Keep b h h6:=k2.trans ⟨by omega,λi hi=>by
   rw[q3 i (by omega) λq hq=>by have:=ho.base_le q hq;omega]
   exact k5.get i (by omega)⟩ (Ac _)
  refine z2r e6 hp o6 λh7 H7 k7 z7 i7=>hK h7 H7 (kk.trans k7 (Ac _)) (i2.trans ((Otk.keep k5).trans ((Otk.own o5 q3).trans i7)))
theorem Yx(H:Prn h b ln nd l)(t:Bs)(hl:l.length+t.length<=140737488355328)(hK:∀h',Prn h' b ln nd (l++t)->Keep b h h'->Otk h h'->K (.tuple #[.int .i64 (t.length:Int),.nilIface]) h'):
  XC Tp 85 #[.pointer (some ⟨b,0,none⟩),.string (bl t)] h K:=by
 apply je
 refine qh3 H λh2 H2 k2 z2 i2=>⟨rfl,_,rfl,?_⟩
 have ab:=H2.lt
 obtain⟨p,s,e,hp,ho⟩:=H2
 have aa:=ho.1
 rw[Lib.byteCells_length,Cw]at aa
 refine⟨s,Blk.cellAdd (o:=0) (k:=1) (cs:=#[.pointer p,slV s,.bool ln,.int .i64 nd]) ⟨_,e⟩ rfl,?_⟩
 have Z:=ze t
 refine zav elemU8 ho (x:=.string (bl t)) (m:=(bl t).size) (news:=Lib.byteCells t) (λB d=>?_) (by rw[Z];omega) (by rw[Z];omega) (by omega) λs' h6 q1 q2 q3 q4 q5=>⟨s',rfl,_,rfl,?_⟩
 ·have:=Src.ofString (P:=Tp) (w:=mk B d h2) qgw (bl t)
  have e2:byteCells (bl t)=Lib.byteCells t:=by
   unfold byteCells Lib.byteCells
   have:(bl t).data.toList=t:=yp t
   rw[this]
  rw[e2]at this;exact this
 ·have e6:h6[b]?=some (.cells #[.pointer p,slV s,.bool ln,.int .i64 nd] 128 (0,0)):=by
   rw[q3 b (by omega) λq hq=>by have:=ho.base_le q hq;omega];exact e
  have o6:Owns h6 (b+1) 5 1 s' (Lib.byteCells (l++t)):=by
   have:Lib.byteCells (l++t)=Lib.byteCells l++Lib.byteCells t:=by unfold Lib.byteCells;rw[BW]
   rw[this];exact q2
  have kk:Keep b h h6:=k2.trans ⟨by omega,λi hi=>q3 i (by omega) λq hq=>by have:=ho.base_le q hq;omega⟩ (Ac _)
  refine z2r e6 hp o6 λh7 H7 k7 z7 i7=>?_
  rw[Z]
  exact hK h7 H7 (kk.trans k7 (Ac _)) (i2.trans ((Otk.own ho q3).trans i7))
theorem zti(b:Nat)(p:Value)(ln:Bool)(nd:Int)(v:Value)(l:Bs)(w:World)(ab:w.heap[b]?=some (.cells #[p,v,.bool ln,.int .i64 nd] 128 (0,0)))(aa:w.ownsRow (b+1) 5 1 v l.length (Lib.byteCells l))(h0:l≠[]):
  Calls Tp 87 #[.pointer (some ⟨b,0,none⟩)] w λe w'=>e=.returned (.string ⟨l.toArray⟩)/\Below (b+1) w w':=by
 have ai:l.length≠0:=by simpa using h0
 obtain⟨g,cap,Z,rfl,ae,hg,am,an,ak,ah⟩:∃g cap Z,v=.slice (some ⟨g,0,none⟩) l.length cap/\b+1<=g/\w.heap[g]?=some (.cells Z 5 (0,0))/\_:=by
  rcases aa.2 with⟨_,hz⟩|⟨g,cap,Z,hv,r⟩
  ·exact absurd hz ai
  ·exact⟨g,cap,Z,hv,r⟩
 have c1:w.drew.cell? ⟨b,1,none⟩=some (.slice (some ⟨g,0,none⟩) l.length cap):=by
  have:w.drew.heap[b]?=some (.cells #[p,.slice (some ⟨g,0,none⟩) l.length cap,.bool ln,.int .i64 nd] 128 (0,0)):=ab
  rw[Lib.cell_of_heap this];rfl
 have aj:(Builtin.unsafeSliceData_ #[110] 181 #[.slice (some ⟨g,0,none⟩) l.length cap]).run Tp w.drew=.ok (.pointer (some ⟨g,0,none⟩)) w.drew:=
  Lib.run_unsafeSliceData_row _ _ _ _ _ _ (by omega)
 have ap:(Builtin.unsafeString_ #[181,3] 9 #[.pointer (some ⟨g,0,none⟩),.int .i64 l.length]).run Tp w.drew=.ok (.string ⟨l.toArray⟩) (w.drew.freeze ⟨g,0,none⟩ l.length):=by
  refine Lib.run_unsafeString_row w.drew 181 3 9 5 C9 (by kernel_rfl) g Z.size (by have af:w.drew.heap[g]?=some (.cells Z 5 (0,0)):=hg;simp[World.shape?,af]) l h0 (by omega) (by have:maxLen=9223372036854775807:=rfl;omega) ?_
  intro j x hx
  have:=aa.cells (g:=g) rfl j (.int .u8 x.toNat) (by simp[Lib.byteCells,hx])
  exact this
 have mixed:=Tryz.mixed
 go_enter Tryz.func87,Tryz.ntmps87
 go_wp2
 go_region_o
 all_goals (go_wp2;go_ret;exact⟨rfl,Lib.below_freeze (Below.drew (Below.refl (b+1) w)) (p:=⟨g,0,none⟩) ae _⟩)
theorem qcd(H:Prn h b ln nd l)(h0:l≠[])(hK:∀h',Keep b h h'->K (.string (bl l)) h'):XC Tp 87 #[.pointer (some ⟨b,0,none⟩)] h K:=by
 obtain⟨p,s,e,hp,ho⟩:=H
 have aa:=ho.1
 rw[Lib.byteCells_length,Cw]at aa
 refine XC.of_calls λB d=>(zti b (.pointer p) ln nd (slV s) l (mk B d h) e (by rw[aa];exact ho) h0).mono ?_
 rintro e' w' ⟨rfl,Z⟩
 exact⟨_,rfl,Z.os,Z.tape,Z.output,hK _ ⟨Z.size,λi hi=>Z.block i (by omega)⟩⟩
end
end Go.X
end
section
namespace Go.X
section
theorem zf4(b:Int)(c:Bt)(d:Sl)(e:Sl)(h:za)(R:Value->za->Prop)
  (H:let f:=h.push (.cells #[.int .i64 b,.string c,slV d,slV e] 26);∃g i j k,zd f ⟨h.size,0,none⟩ 0 [.int .i64 g,.string i,slV j,slV k]/\XC Tp 33 #[.agg #[.int .i64 g,.string i,slV j,slV k]] f (λl m=>∃n,l=.bool n/\((!n)=true->R (.tuple #[.string (⟨#[]⟩:Bt),.int .i64 1]) m)/\((!n)=false->let o:=m.push (.cells #[.pointer none,.slice none 0 0,.bool false,.int .i64 0] 128);∃p q r s,zd o ⟨h.size,0,none⟩ 0 [.int .i64 p,.string q,slV r,slV s]/\XC Tp 97 #[.pointer (some ⟨m.size,0,none⟩),.agg #[.int .i64 p,.string q,slV r,slV s],.int .i64 0] o (λt u=>t=.tuple #[]/\XC Tp 87 #[.pointer (some (Ai ⟨m.size,0,none⟩ 0))] u (λv w=>∃x,v=.string x/\R (.tuple #[.string x,.int .i64 0]) w))))):
  XC Tp 34 #[.agg #[.int .i64 b,.string c,.slice d.a d.len d.cap,.slice e.a e.len e.cap]] h R:=
 XF ⟨[],[],[]⟩ [.tmp 2,.tmp 3] 12 Tryz.func34 H
theorem zj1(b:Int)(c:Bt)(d:Sl)(e:Sl)(h:za)(R:Value->za->Prop)
  (H:let f:=h.push (.cells #[.int .i64 b,.string c,slV d,slV e] 26);∃g i j k,zd f ⟨h.size,0,none⟩ 0 [.int .i64 g,.string i,slV j,slV k]/\XC Tp 37 #[.agg #[.int .i64 g,.string i,slV j,slV k]] f (λl m=>∃n o p q,l=.agg #[.int .i64 n,.string o,slV p,slV q]/\XC Tp 34 #[.agg #[.int .i64 n,.string o,slV p,slV q]] m (λr s=>∃t u,r=.tuple #[.string t,.int .i64 u]/\R (.tuple #[.string t,.int .i64 u]) s))):
  XC Tp 35 #[.agg #[.int .i64 b,.string c,.slice d.a d.len d.cap,.slice e.a e.len e.cap]] h R:=
 XF ⟨[],[],[]⟩ [.tmp 2,.tmp 3] 9 Tryz.func35 H
theorem ziv(b:Int)(c:Bt)(d:Sl)(e:Sl)(Z:Int)(aa:Int)(h:za)(R:Value->za->Prop)
  (H:let f:=h.push (.cells #[.int .i64 b,.string c,slV d,slV e] 26);∃g i j k,zd f ⟨h.size,0,none⟩ 0 [.int .i64 g,.string i,slV j,slV k]/\XC Tp 33 #[.agg #[.int .i64 g,.string i,slV j,slV k]] f (λl m=>∃n,l=.bool n/\((bif (bif (bif (bif (!n)then true else(decide (Z<0)))then true else(decide (Z>8)))then true else(decide (aa<0)))then true else(decide (aa>32)))=true->R (.tuple #[.string (⟨#[]⟩:Bt),.int .i64 1]) m)/\((bif (bif (bif (bif (!n)then true else(decide (Z<0)))then true else(decide (Z>8)))then true else(decide (aa<0)))then true else(decide (aa>32)))=false->let o:=m.push (.cells #[.pointer none,.slice none 0 0,.bool false,.int .i64 0] 128);zk Tp (An 128 (.pointer (some ⟨m.size,0,none⟩)) (.agg #[.pointer none,.slice none 0 0,.bool true,.int .i64 Z])) o (λp=>∃q r s t,zd p ⟨h.size,0,none⟩ 0 [.int .i64 q,.string r,slV s,slV t]/\XC Tp 97 #[.pointer (some ⟨m.size,0,none⟩),.agg #[.int .i64 q,.string r,slV s,slV t],.int .i64 aa] p (λu v=>u=.tuple #[]/\XC Tp 87 #[.pointer (some (Ai ⟨m.size,0,none⟩ 0))] v (λw x=>∃y,w=.string y/\R (.tuple #[.string y,.int .i64 0]) x)))))):
  XC Tp 36 #[.agg #[.int .i64 b,.string c,.slice d.a d.len d.cap,.slice e.a e.len e.cap],.int .i64 Z,.int .i64 aa] h R:=
 XF ⟨[],[],[]⟩ [.tmp 6,.tmp 7] 35 Tryz.func36 H
theorem Xg(p0:Option Addr)(b:Int)(c:Bt)(d:Sl)(e:Sl)(Z:Int)(h:za)(R:Value->za->Prop)
  (H:let f:=h.push (.cells #[.int .i64 b,.string c,slV d,slV e] 26);∃g,zc f (Ai ⟨h.size,0,none⟩ 0)=some (.int .i64 g)/\((g==1)=true->∃i,p0=some i/\XC Tp 85 #[.pointer (some (Ai i 0)),.string (⟨#[110,117,108,108]⟩:Bt)] f (λj k=>∃l,∃m:Value,j=.tuple #[.int .i64 l,m]/\R (.tuple #[]) k))/\((g==1)=false->((g==4)=true->∃n,zc f (Ai ⟨h.size,0,none⟩ 1)=some (.string n)/\XC Tp 168 #[.pointer p0,.string n] f (λo p=>o=.tuple #[]/\R (.tuple #[]) p))/\((g==4)=false->((g==5)=true->∃q r s t,zd f ⟨h.size,0,none⟩ 0 [.int .i64 q,.string r,slV s,slV t]/\XC Tp 169 #[.pointer p0,.agg #[.int .i64 q,.string r,slV s,slV t],.int .i64 Z,.string (⟨#[91,93]⟩:Bt),.func (.func 170) #[.pointer p0] #[]] f (λu v=>u=.tuple #[]/\R (.tuple #[]) v))/\((g==5)=false->((g==6)=true->∃w x y z,zd f ⟨h.size,0,none⟩ 0 [.int .i64 w,.string x,slV y,slV z]/\XC Tp 169 #[.pointer p0,.agg #[.int .i64 w,.string x,slV y,slV z],.int .i64 Z,.string (⟨#[123,125]⟩:Bt),.func (.func 171) #[.pointer p0] #[]] f (λA B=>A=.tuple #[]/\R (.tuple #[]) B))/\((g==6)=false->∃C,p0=some C/\∃D,zc f (Ai ⟨h.size,0,none⟩ 1)=some (.string D)/\XC Tp 85 #[.pointer (some (Ai C 0)),.string D] f (λE F=>∃G,∃I:Value,E=.tuple #[.int .i64 G,I]/\R (.tuple #[]) F)))))):
  XC Tp 97 #[.pointer p0,.agg #[.int .i64 b,.string c,.slice d.a d.len d.cap,.slice e.a e.len e.cap],.int .i64 Z] h R:=
 XF ⟨[(2,8000)],[],[]⟩ [] 42 Tryz.func97 H
theorem Ww(p0:Option Addr)(s1:Bt)(h:za)(R:Value->za->Prop)
  (H:XC Tp 27 #[.string s1] h (λa b=>∃c d,a=.tuple #[.string c,.int .i64 d]/\∃e,p0=some e/\XC Tp 85 #[.pointer (some (Ai e 0)),.string c] b (λf g=>∃i,∃j:Value,f=.tuple #[.int .i64 i,j]/\R (.tuple #[]) g))):
  XC Tp 168 #[.pointer p0,.string s1] h R:=
 XF ⟨[],[],[]⟩ [] 16 Tryz.func168 H
theorem Xh(p0:Option Addr)(b:Int)(c:Bt)(d:Sl)(e:Sl)(Z:Int)(aa:Bt)(ab:FuncId)(af:Array Value)(ae:Array Value)(h:za)(R:Value->za->Prop)
  (H:let f:=h.push (.cells #[.int .i64 b,.string c,slV d,slV e] 26);∃g,p0=some g/\(0<=(0:Int)/\(0:Int)<(aa.size:Int))/\XC Tp 81 #[.pointer (some (Ai g 0)),.int .u8 (zb aa (0:Int).toNat)] f (λi j=>∃k:Value,i=k/\∃l,zc j (Ai ⟨h.size,0,none⟩ 3)=some (slV l)/\∃(m:Int->za->Prop) (n:Int->za->Nat),m 0 j/\∀o:Int,∀p:za,m o p->((decide (o<l.len)=true->∀q:za->Prop,(∀r:za,(XC Tp 235 #[.pointer p0,.int .i64 (Aa .i64 (Z+1))] r (λs t=>s=.tuple #[]/\∃u v w x,zd t ⟨h.size,0,none⟩ 0 [.int .i64 u,.string v,slV w,slV x]/\zj Tp ab=true/\XC Tp ab (af++#[.agg #[.int .i64 u,.string v,slV w,slV x],.int .i64 o,.int .i64 (Aa .i64 (Z+1))]++ae) t (λy z=>y=.tuple #[]/\(m (Aa .i64 (o+1)) z/\n (Aa .i64 (o+1)) z<n o p))))->q r)->(decide (o>0)=true->∃A,p0=some A/\XC Tp 81 #[.pointer (some (Ai A 0)),.int .u8 44] p (λB C=>∃D:Value,B=D/\q C))/\(decide (o>0)=false->q p))/\(decide (o<l.len)=false->∀E:za->Prop,(∀F:za,(∃G,p0=some G/\(0<=(1:Int)/\(1:Int)<(aa.size:Int))/\XC Tp 81 #[.pointer (some (Ai G 0)),.int .u8 (zb aa (1:Int).toNat)] F (λI J=>∃L:Value,I=L/\R (.tuple #[]) J))->E F)->∃M,zc p (Ai ⟨h.size,0,none⟩ 3)=some (slV M)/\(decide ((M.len:Int)>0)=true->XC Tp 235 #[.pointer p0,.int .i64 Z] p (λN O=>N=.tuple #[]/\E O))/\(decide ((M.len:Int)>0)=false->E p))))):
  XC Tp 169 #[.pointer p0,.agg #[.int .i64 b,.string c,.slice d.a d.len d.cap,.slice e.a e.len e.cap],.int .i64 Z,.string aa,.func (.func ab) af ae] h R:=
 XF ⟨[(1,8000),(12,8000)],[(3,[(20,.one (.int .i64))])],[(7,[]),(12,[])]⟩ [] 53 Tryz.func169 H
theorem zad(p0:Option Addr)(b:Int)(c:Bt)(d:Sl)(e:Sl)(i2:Int)(Z:Int)(h:za)(R:Value->za->Prop)
  (H:let f:=h.push (.cells #[.int .i64 b,.string c,slV d,slV e] 26);∃g,zc f (Ai ⟨h.size,0,none⟩ 3)=some (slV g)/\∃i,(g.a=some i/\0<=i2/\i2<g.len)/\∃j k l m,zd f (i.add (i2.toNat*4)) 0 [.int .i64 j,.string k,slV l,slV m]/\XC Tp 97 #[.pointer p0,.agg #[.int .i64 j,.string k,slV l,slV m],.int .i64 Z] f (λn o=>n=.tuple #[]/\R (.tuple #[]) o)):
  XC Tp 170 #[.pointer p0,.agg #[.int .i64 b,.string c,.slice d.a d.len d.cap,.slice e.a e.len e.cap],.int .i64 i2,.int .i64 Z] h R:=
 XF ⟨[],[],[]⟩ [] 16 Tryz.func170 H
theorem Wx(p0:Option Addr)(b:Int)(c:Bt)(d:Sl)(e:Sl)(i2:Int)(Z:Int)(h:za)(R:Value->za->Prop)
  (H:let f:=h.push (.cells #[.int .i64 b,.string c,slV d,slV e] 26);∃g,zc f (Ai ⟨h.size,0,none⟩ 2)=some (slV g)/\∃i,(g.a=some i/\0<=i2/\i2<g.len)/\∃j,zc f (i.add (i2.toNat*1))=some (.string j)/\XC Tp 168 #[.pointer p0,.string j] f (λk l=>k=.tuple #[]/\∃m,p0=some m/\XC Tp 81 #[.pointer (some (Ai m 0)),.int .u8 58] l (λn o=>∃p:Value,n=p/\∀q:za->Prop,(∀r:za,(∃s,zc r (Ai ⟨h.size,0,none⟩ 3)=some (slV s)/\∃t,(s.a=some t/\0<=i2/\i2<s.len)/\∃u v w x,zd r (t.add (i2.toNat*4)) 0 [.int .i64 u,.string v,slV w,slV x]/\XC Tp 97 #[.pointer p0,.agg #[.int .i64 u,.string v,slV w,slV x],.int .i64 Z] r (λy z=>y=.tuple #[]/\R (.tuple #[]) z))->q r)->∃A,p0=some A/\∃B,zc o (Ai A 2)=some (.bool B)/\(B=true->∃C,p0=some C/\XC Tp 81 #[.pointer (some (Ai C 0)),.int .u8 32] o (λD E=>∃F:Value,D=F/\q E))/\(B=false->q o)))):
  XC Tp 171 #[.pointer p0,.agg #[.int .i64 b,.string c,.slice d.a d.len d.cap,.slice e.a e.len e.cap],.int .i64 i2,.int .i64 Z] h R:=
 XF ⟨[],[],[(5,[])]⟩ [] 35 Tryz.func171 H
theorem zae(p0:Option Addr)(Z:Int)(h:za)(R:Value->za->Prop)
  (H:∃a,p0=some a/\∃b,zc h (Ai a 2)=some (.bool b)/\(b=true->∃c,p0=some c/\XC Tp 81 #[.pointer (some (Ai c 0)),.int .u8 10] h (λd e=>∃f:Value,d=f/\∃g,p0=some g/\∃i,p0=some i/\∃j,zc e (Ai i 3)=some (.int .i64 j)/\XC Tp 86 #[.string (⟨#[32]⟩:Bt),.int .i64 (Aa .i64 (j*Z))] e (λk l=>∃m,k=.string m/\XC Tp 85 #[.pointer (some (Ai g 0)),.string m] l (λn o=>∃p,∃q:Value,n=.tuple #[.int .i64 p,q]/\R (.tuple #[]) o))))/\(b=false->R (.tuple #[]) h)):
  XC Tp 235 #[.pointer p0,.int .i64 Z] h R:=
 XF ⟨[(2,8000)],[],[]⟩ [] 23 Tryz.func235 H
theorem ziw(b:Int)(c:Bt)(d:Sl)(e:Sl)(h:za)(R:Value->za->Prop)
  (H:let f:=h.push (.cells #[.int .i64 b,.string c,slV d,slV e] 26);let g:=f.push (.cells #[.int .i64 0,.string (⟨#[]⟩:Bt),.slice none 0 0,.slice none 0 0] 26);∃i j k l,zd g ⟨h.size,0,none⟩ 0 [.int .i64 i,.string j,slV k,slV l]/\XC Tp 88 #[.agg #[.int .i64 i,.string j,slV k,slV l]] g (λm n=>∃o,m=.bool o/\((!o)=true->zk Tp (An 26 (.pointer (some ⟨f.size,0,none⟩)) (.agg #[.int .i64 0,.string (⟨#[]⟩:Bt),.slice none 0 0,.slice none 0 0])) n (λp=>∃q r s t,zd p ⟨f.size,0,none⟩ 0 [.int .i64 q,.string r,slV s,slV t]/\R (.agg #[.int .i64 q,.string r,slV s,slV t]) p))/\((!o)=false->∃u v w x,zd n ⟨h.size,0,none⟩ 0 [.int .i64 u,.string v,slV w,slV x]/\XC Tp 98 #[.agg #[.int .i64 u,.string v,slV w,slV x]] n (λy z=>∃A B C D,y=.agg #[.int .i64 A,.string B,slV C,slV D]/\zk Tp (An 26 (.pointer (some ⟨f.size,0,none⟩)) (.agg #[.int .i64 A,.string B,slV C,slV D])) z (λE=>∃F G I J,zd E ⟨f.size,0,none⟩ 0 [.int .i64 F,.string G,slV I,slV J]/\R (.agg #[.int .i64 F,.string G,slV I,slV J]) E))))):
  XC Tp 37 #[.agg #[.int .i64 b,.string c,.slice d.a d.len d.cap,.slice e.a e.len e.cap]] h R:=
 XF ⟨[],[],[]⟩ [.cell 2 26] 9 Tryz.func37 H
theorem zix(b:Int)(c:Bt)(d:Sl)(e:Sl)(h:za)(R:Value->za->Prop)
  (H:let f:=h.push (.cells #[.int .i64 b,.string c,slV d,slV e] 26);let g:=f.push (.cells #[.int .i64 0,.string (⟨#[]⟩:Bt),.slice none 0 0,.slice none 0 0] 26);∃i,zc g (Ai ⟨h.size,0,none⟩ 0)=some (.int .i64 i)/\∃j,zc g (Ai ⟨h.size,0,none⟩ 1)=some (.string j)/\let k:=g.push (.cells #[.int .i64 0,.string (⟨#[]⟩:Bt),.slice none 0 0,.slice none 0 0] 26);zk Tp (An 26 (.pointer (some ⟨g.size,0,none⟩)) (.agg #[.int .i64 i,.string j,.slice none 0 0,.slice none 0 0])) k (λl=>∃m,zc l (Ai ⟨h.size,0,none⟩ 0)=some (.int .i64 m)/\((m != 6)=true->∃n,zc l (Ai ⟨h.size,0,none⟩ 3)=some (slV n)/\∃(o:Int->za->Prop) (p:Int->za->Nat),o 0 l/\∀q:Int,∀r:za,o q r->((decide (q<n.len)=true->∃s,(n.a=some s/\0<=q/\q<n.len)/\∃t u v w,zd r (s.add (q.toNat*4)) 0 [.int .i64 t,.string u,slV v,slV w]/\let x:=r.push (.cells #[.int .i64 0,.string (⟨#[]⟩:Bt),.slice none 0 0,.slice none 0 0] 26);zk Tp (An 26 (.pointer (some ⟨r.size,0,none⟩)) (.agg #[.int .i64 t,.string u,slV v,slV w])) x (λy=>∃z,zc y (Ai ⟨g.size,0,none⟩ 3)=some (slV z)/\∃A B C D,zd y ⟨r.size,0,none⟩ 0 [.int .i64 A,.string B,slV C,slV D]/\XC Tp 98 #[.agg #[.int .i64 A,.string B,slV C,slV D]] y (λE F=>∃G I J L,E=.agg #[.int .i64 G,.string I,slV J,slV L]/\(F)[((Ai ⟨g.size,0,none⟩ 3):Addr).block]?=(y)[((Ai ⟨g.size,0,none⟩ 3):Addr).block]?/\let M:=F.push (.cells #[.int .i64 G,.string I,slV J,slV L] 26);(M)[((Ai ⟨g.size,0,none⟩ 3):Addr).block]?=(y)[((Ai ⟨g.size,0,none⟩ 3):Addr).block]?/\Z5 Tp (AB #[24,24] 24 #[slV z,.slice (some ⟨F.size,0,none⟩) 1 1]) M (λN O=>∃P,N=slV P/\zk Tp (An 24 (.pointer (some (Ai ⟨g.size,0,none⟩ 3))) (slV P)) O (λQ=>(o (Aa .i64 (q+1)) Q/\p (Aa .i64 (q+1)) Q<p q r))))))/\(decide (q<n.len)=false->∃S T U V,zd r ⟨g.size,0,none⟩ 0 [.int .i64 S,.string T,slV U,slV V]/\zk Tp (An 26 (.pointer (some ⟨f.size,0,none⟩)) (.agg #[.int .i64 S,.string T,slV U,slV V])) r (λW=>∃X Y Z aa,zd W ⟨f.size,0,none⟩ 0 [.int .i64 X,.string Y,slV Z,slV aa]/\R (.agg #[.int .i64 X,.string Y,slV Z,slV aa]) W))))/\((m != 6)=false->∃ab ac ad ae,zd l ⟨h.size,0,none⟩ 0 [.int .i64 ab,.string ac,slV ad,slV ae]/\XC Tp 172 #[.agg #[.int .i64 ab,.string ac,slV ad,slV ae]] l (λaf ag=>∃ah:Option Nat,af=.map ah/\XC Tp 174 #[.map ah] ag (λai aj=>∃ak:Value,ai=ak/\XC Tp 173 #[ak] aj (λal am=>∃an,al=slV an/\zk Tp (An 23 (.pointer (some (Ai ⟨g.size,0,none⟩ 2))) (slV an)) am (λao=>∃ap,zc ao (Ai ⟨g.size,0,none⟩ 2)=some (slV ap)/\∃(aq:Int->za->Prop) (ar:Int->za->Nat),aq 0 ao/\∀au:Int,∀av:za,aq au av->((decide (au<ap.len)=true->∃aw,(ap.a=some aw/\0<=au/\au<ap.len)/\∃ax,zc av (aw.add (au.toNat*1))=some (.string ax)/\∃ay,zc av (Ai ⟨g.size,0,none⟩ 3)=some (slV ay)/\∃az aA aB aC,QExec Tp (Ed 193 (.map ah) (.string ax) false) av (.agg #[.int .i64 az,.string aA,slV aB,slV aC])/\(av)[((Ai ⟨g.size,0,none⟩ 3):Addr).block]?=(av)[((Ai ⟨g.size,0,none⟩ 3):Addr).block]?/\XC Tp 98 #[.agg #[.int .i64 az,.string aA,slV aB,slV aC]] av (λaD aE=>∃aF aG aH aI,aD=.agg #[.int .i64 aF,.string aG,slV aH,slV aI]/\(aE)[((Ai ⟨g.size,0,none⟩ 3):Addr).block]?=(av)[((Ai ⟨g.size,0,none⟩ 3):Addr).block]?/\let aJ:=aE.push (.cells #[.int .i64 aF,.string aG,slV aH,slV aI] 26);(aJ)[((Ai ⟨g.size,0,none⟩ 3):Addr).block]?=(av)[((Ai ⟨g.size,0,none⟩ 3):Addr).block]?/\Z5 Tp (AB #[24,24] 24 #[slV ay,.slice (some ⟨aE.size,0,none⟩) 1 1]) aJ (λaL aM=>∃aN,aL=slV aN/\zk Tp (An 24 (.pointer (some (Ai ⟨g.size,0,none⟩ 3))) (slV aN)) aM (λaO=>(aq (Aa .i64 (au+1)) aO/\ar (Aa .i64 (au+1)) aO<ar au av)))))/\(decide (au<ap.len)=false->∃aP aQ aS aT,zd av ⟨g.size,0,none⟩ 0 [.int .i64 aP,.string aQ,slV aS,slV aT]/\zk Tp (An 26 (.pointer (some ⟨f.size,0,none⟩)) (.agg #[.int .i64 aP,.string aQ,slV aS,slV aT])) av (λaU=>∃aV aW aX aY,zd aU ⟨f.size,0,none⟩ 0 [.int .i64 aV,.string aW,slV aX,slV aY]/\R (.agg #[.int .i64 aV,.string aW,slV aX,slV aY]) aU)))))))))):
  XC Tp 98 #[.agg #[.int .i64 b,.string c,.slice d.a d.len d.cap,.slice e.a e.len e.cap]] h R:=
 XF ⟨[(6,8000),(14,8000)],[(4,[(20,.one (.int .i64))]),(12,[(42,.one (.int .i64))])],[]⟩ [.cell 2 26] 57 Tryz.func98 H
theorem zf5(b:Int)(c:Bt)(d:Sl)(e:Sl)(h:za)(R:Value->za->Prop)
  (H:let f:=h.push (.cells #[.int .i64 b,.string c,slV d,slV e] 26);∃g,zc f (Ai ⟨h.size,0,none⟩ 2)=some (slV g)/\let i:=f.push (.map #[] 0);∃j,zc i (Ai ⟨h.size,0,none⟩ 2)=some (slV j)/\∃(k:Int->za->Prop) (l:Int->za->Nat),k 0 i/\∀m:Int,∀n:za,k m n->((decide (m<j.len)=true->∃o,(j.a=some o/\0<=m/\m<j.len)/\∃p,zc n (o.add (m.toNat*1))=some (.string p)/\∃q,zc n (Ai ⟨h.size,0,none⟩ 3)=some (slV q)/\∃r,(q.a=some r/\0<=m/\m<q.len)/\∃s t u v,zd n (r.add (m.toNat*4)) 0 [.int .i64 s,.string t,slV u,slV v]/\zk Tp (CN 193 (.map (some f.size)) (.string p) (.agg #[.int .i64 s,.string t,slV u,slV v])) n (λw=>(k (Aa .i64 (m+1)) w/\l (Aa .i64 (m+1)) w<l m n)))/\(decide (m<j.len)=false->R (.map (some f.size)) n))):
  XC Tp 172 #[.agg #[.int .i64 b,.string c,.slice d.a d.len d.cap,.slice e.a e.len e.cap]] h R:=
 XF ⟨[],[(3,[(13,.one (.int .i64))])],[]⟩ [.tmp 2] 27 Tryz.func172 H
theorem zj2(b:Int)(c:Bt)(d:Sl)(e:Sl)(h:za)(R:Value->za->Prop)
  (H:let f:=h.push (.cells #[.int .i64 b,.string c,slV d,slV e] 26);∃g i j k,zd f ⟨h.size,0,none⟩ 0 [.int .i64 g,.string i,slV j,slV k]/\XC Tp 93 #[.agg #[.int .i64 g,.string i,slV j,slV k]] f (λl m=>∃n,l=.bool n/\∃o p q r,(n=true->zd m ⟨h.size,0,none⟩ 0 [.int .i64 o,.string p,slV q,slV r])/\∃s:Value->za->Prop,(n=true->XC Tp 94 #[.agg #[.int .i64 o,.string p,slV q,slV r],.func (.func 95) #[] #[]] m (λt u=>∃v,t=.bool v/\s (.bool v) u))/\(n=false->∃w,s (.bool w) m)/\(n=true->∀x y,s x y->∃z,x=.bool z)/\∀A:Bool,∀B,s (.bool A) B->R (.bool (bif n then A else false)) B)):
  XC Tp 33 #[.agg #[.int .i64 b,.string c,.slice d.a d.len d.cap,.slice e.a e.len e.cap]] h R:=
 XF ⟨[],[],[]⟩ [.tmp 2] 9 Tryz.func33 H
end
end Go.X
end
section
namespace Go.X
open Go Go.Lib
section
variable {lo d m:Nat} {s:Bs} {α:Type} {obj:Bool}
inductive KidsG (K:List Bs->List Bs->Bs×Tr->List Tk->Nat->Prop) (close:Int):List Bs->List (Bs×Tr)->List Tk->Nat->Prop
 |last {had had':List Bs} {kv:Bs×Tr} {C:List Tk} {c:Tk} {m:Nat}:K had had' kv C m->c.1=close->KidsG K close had [kv] (C++[c]) m
 |more {had had':List Bs} {kv:Bs×Tr} {kvs:List (Bs×Tr)} {C D:List Tk} {q:Tk} {m m':Nat}:K had had' kv C m->q.1=6->KidsG K close had' kvs D m'->KidsG K close had (kv::kvs) (C++q::D) (m+m')
def KA(P:Tr->List Tk->Nat->Prop)(had had':List Bs)(kv:Bs×Tr)(C:List Tk)(m:Nat):Prop:=had'=had/\P kv.2 C m
def KO(s:Bs)(P:Tr->List Tk->Nat->Prop)(had had':List Bs)(kv:Bs×Tr)(C:List Tk)(m:Nat):Prop:=
 ∃t q C',C=t::q::C'/\t.1=8/\q.1=7/\kv.1=(W8 (Jv s t.2)).1/\ya s t.2=Jv s t.2/\kv.1∉had/\had'=had++[kv.1]/\P kv.2 C' m
def PV(s:Bs):Nat->Tr->List Tk->Nat->Prop
 |0,_,_,_=>False
 |d+1,v,C,m=>∃t,(C=[t]/\zw t.1≠0/\zw t.1≠5/\zw t.1≠6/\v=.mk (zw t.1) (bl (Ym (zw t.1) (ya s t.2))) [] []/\m=1)
  \/ (∃c,C=[t,c]/\((t.1=4/\c.1=5/\v=.mk 5 (bl []) [] [])\/(t.1=2/\c.1=3/\v=.mk 6 (bl []) [] []))/\m=1)
  \/ (∃D kvs m',C=t::D/\t.1=4/\KidsG (KA (PV s d)) 5 [] kvs D m'/\v=.mk 5 (bl []) [] (kvs.map (·.2))/\m=m'+1)
  \/ (∃D kvs m',C=t::D/\t.1=2/\KidsG (KO s (PV s d)) 3 [] kvs D m'/\v=.mk 6 (bl []) (kvs.map λkv=>bl kv.1) (kvs.map (·.2))/\m=m'+1)
def qe8(C:List Tk):Sp:=((C.head?.map (·.2.1)).getD 0,(C.getLast?.map (·.2.2)).getD 0)
def zct(C:List Tk)(l:Int):Int:=(C.getLast?.map (·.2.2)).getD l
theorem j7{C D:List Tk}(h:D≠[])(l:Int):zct (C++D) l=zct D l:=by
 unfold zct
 rw[List.getLast?_append]
 cases hd:D.getLast? with
 |none=>exact absurd (List.getLast?_eq_none_iff.1 hd) h
 |some x=>rfl
theorem ze8{C:List Tk}(h:C≠[])(l l':Int):zct C l=zct C l':=by
 unfold zct
 cases hd:C.getLast? with
 |none=>exact absurd (List.getLast?_eq_none_iff.1 hd) h
 |some x=>rfl
def Agr(lo:Nat)(new nodes:List Nd):Prop:=∀i x,new[i]?=some x->nodes[lo+i]?=some x
theorem Agr.left{a b nodes:List Nd}(h:Agr lo (a++b) nodes):Agr lo a nodes:=λi x hx=>h i x (by rw[Bv (AF.1 hx).1];exact hx)
theorem Agr.right{a b nodes:List Nd}(h:Agr lo (a++b) nodes):Agr (lo+a.length) b nodes:=λi x hx=>by
 have:=h (a.length+i) x (by rw[Bi (by omega),CC];exact hx)
 rw[Dv];exact this
def SubV(s:Bs)(d lo:Nat)(new:List Nd)(C:List Tk)(m:Nat):Prop:=∀i,i<new.length->∃d' v' C' pre Z m',d'<=d/\PV s d' v' C' m'/\C=pre++C'++Z/\m'<=m/\∀nodes,Agr lo new nodes->∀f,d'<=f->j6 s nodes f (lo+i)=v'/\∃x,nodes[lo+i]?=some x/\x.2.1=qe8 C'
structure Made (s:Bs) (d lo:Nat) (key:Sp) (new:List Nd) (v:Tr) (C:List Tk) (m:Nat):Prop where
 len:new.length=m
 pos:1<=m
 key:∃x,new[0]?=some x/\x.2.2.1=key
 val:∀nodes,Agr lo new nodes->∀f,d<=f->j6 s nodes f lo=v
 sub:SubV s d lo new C m
structure MadeK (s:Bs) (obj:Bool) (d lo:Nat) (ks:List Int) (new:List Nd) (kvs:List (Bs×Tr)) (D:List Tk) (m:Nat):Prop where
 len:new.length=m
 val:∀nodes,Agr lo new nodes->∀f,d<=f->(ks.map λc=>j6 s nodes f c.toNat)=kvs.map (·.2)
 key:obj=true->∀nodes,Agr lo new nodes->(ks.map λc=>bl (zim s nodes c))=kvs.map λkv=>bl kv.1
 sub:SubV s d lo new D m
theorem SubV.mono{d d2 lo:Nat}{new:List Nd}{C:List Tk}{m m2:Nat}(h:SubV s d lo new C m)(hd:d<=d2)(hm:m<=m2)(pre Z:List Tk):SubV s d2 lo new (pre++C++Z) m2:=by
 intro i hi
 obtain⟨d',v',C',p,q,m',h1,h2,h3,h4,h5⟩:=h i hi
 exact⟨d',v',C',pre++p,q++Z,m',by omega,h2,by rw[h3];simp,by omega,h5⟩
theorem SubV.append{a b:List Nd}{C:List Tk}(h:SubV s d lo a C m)(h2:SubV s d (lo+a.length) b C m):SubV s d lo (a++b) C m:=by
 intro i hi
 rcases A1 i a.length with h'|h'
 ·obtain⟨d',v',C',p,q,m',h1,h2,h3,h4,h5⟩:=h i h'
  exact⟨d',v',C',p,q,m',h1,h2,h3,h4,λnodes hn=>h5 nodes hn.left⟩
 ·obtain⟨d',v',C',p,q,m',h1,h3,h4,h5,h6⟩:=h2 (i-a.length) (by rw[Ag]at hi;omega)
  refine⟨d',v',C',p,q,m',h1,h3,h4,h5,λnodes hn f hf=>?_⟩
  have:=h6 nodes hn.right f hf
  rw[show lo+a.length+(i-a.length)=lo+i from by omega]at this
  exact this
def qhp(s:Bs)(obj:Bool)(d:Nat)(close:Int)(K:List Bs->List Bs->Bs×Tr->List Tk->Nat->Prop)(kid:zle):Prop:=
 ∀had had' kv C m,K had had' kv C m->1<=m/\(∃t C',C=t::C'/\t.1≠close)/\∀(st:PSt) (rest:List Tk),st.rest=C++rest->st.nodes.length+m<=4096->∃new,
  kid had st=.inl (had',⟨rest,zct C st.last,st.nodes++new⟩)/\MadeK s obj d st.nodes.length [((st.nodes.length:Nat):Int)] new [kv] C m
def zxw(x:Nd)(ks:List Int)(ps:List Sp):Nd:=(x.1,x.2.1,x.2.2.1,x.2.2.2.1++ks,x.2.2.2.2++ps)
theorem Jr{a:List α}{x:α}{b:List α}{f:α->α}:(a++x::b).modify a.length f=a++f x::b:=by
 induction a with
 |nil=>rfl
 |cons y a ih=>simp only[AE,Ap,List.modify_succ_cons,ih]
theorem zlj{close:Int}{K:List Bs->List Bs->Bs×Tr->List Tk->Nat->Prop}{kid:zle}(hK:qhp s obj d close K kid)(ae:close≠6){had:List Bs}{kvs:List (Bs×Tr)}{D:List Tk}(H:KidsG K close had kvs D m):
  (∃t D',D=t::D'/\t.1≠close)/\1<=m/\kvs.length<=D.length/\∀(base:List Nd) (x:Nd) (news:List Nd) (rest:List Tk) (last:Int) (f:Nat),kvs.length<=f->base.length+1+news.length+m<=4096->∃ks ps new,
   Jo s base.length close kid f had ⟨D++rest,last,base++x::news⟩=.inl ⟨rest,zct D last,base++zxw x ks ps::(news++new)⟩/\MadeK s obj d (base.length+1+news.length) ks new kvs D m:=by
 induction H with
 | @last had had' kv C c m hk hc=>
  obtain⟨h1,⟨t0,C0,aa,h2⟩,h3⟩:=hK _ _ _ _ _ hk
  refine⟨⟨t0,C0++[c],by rw[aa];rfl,h2⟩,h1,by simp,λbase x news rest last f hf hn=>?_⟩
  obtain⟨g,rfl⟩:∃g,f=g+1:=⟨f-1,by simp at hf;omega⟩
  have hl:(base++x::news).length=base.length+1+news.length:=by simp;omega
  obtain⟨new,e,M⟩:=h3 ⟨C++[c]++rest,last,base++x::news⟩ (c::rest) (by simp) (by dsimp only;rw[hl];omega)
  dsimp only at e M
  rw[hl]at M
  refine⟨[((base++x::news).length:Int)],[(last,c.2.1)],new,?_,?_⟩
  ·rw[Jo,e]
   dsimp only
   have ek:PSt.kind ⟨c::rest,zct C last,base++x::news++new⟩=close:=hc
   rw[if_pos ek]
   unfold PSt.addKid PSt.skip PSt.here
   dsimp only
   rw[AM,AE,Jr]
   congr 2
   unfold zct
   simp
  ·rw[hl]
   refine⟨M.len,M.val,M.key,?_⟩
   have:=M.sub.mono (Ac _) (Ac _) [] [c]
   simpa using this
 | @more had had' kv kvs C D q m m' hk hq hr ih=>
  obtain⟨h1,⟨t0,C0,aa,h2⟩,h3⟩:=hK _ _ _ _ _ hk
  obtain⟨⟨t1,D0,af,_⟩,g2,gl,g3⟩:=ih
  have g1:D≠[]:=by rw[af];simp
  refine⟨⟨t0,C0++q::D,by rw[aa];rfl,h2⟩,by omega,by simp;omega,λbase x news rest last f hf hn=>?_⟩
  obtain⟨g,rfl⟩:∃g,f=g+1:=⟨f-1,by simp at hf;omega⟩
  have hl:(base++x::news).length=base.length+1+news.length:=by simp;omega
  obtain⟨new,e,M⟩:=h3 ⟨C++q::D++rest,last,base++x::news⟩ (q::(D++rest)) (by simp) (by dsimp only;rw[hl];omega)
  dsimp only at e M
  rw[hl]at M
  have ah:=M.len
  obtain⟨ks,ps,Z,e2,M2⟩:=g3 base (zxw x [((base++x::news).length:Int)] [(last,q.2.1)]) (news++new) rest q.2.2 g (by simp at hf;omega) (by rw[Ag];omega)
  refine⟨((base++x::news).length:Int)::ks,(last,q.2.1)::ps,new++Z,?_,?_⟩
  ·rw[Jo,e]
   dsimp only
   have ek:PSt.kind ⟨q::(D++rest),zct C last,base++x::news++new⟩=6:=hq
   rw[if_neg (by rw[ek];exact λh=>ae h.symm),if_pos ek]
   have es:(PSt.addKid ⟨q::(D++rest),zct C last,base++x::news++new⟩ base.length ((base++x::news).length:Int) (last,PSt.here ⟨q::(D++rest),zct C last,base++x::news++new⟩ s.length)).skip=⟨D++rest,q.2.2,base++zxw x [((base++x::news).length:Int)] [(last,q.2.1)]::(news++new)⟩:=by
    unfold PSt.addKid PSt.skip PSt.here
    dsimp only
    rw[AM,AE,Jr]
    rfl
   rw[es,e2]
   congr 2
   ·rw[j7 (C:=C) (D:=q::D) (by simp),show q::D=[q]++D from rfl,j7 g1]
    exact ze8 g1 _ _
   ·unfold zxw;simp
  ·rw[hl]
   have ab:base.length+1+(news++new).length=base.length+1+news.length+new.length:=by rw[Ag];omega
   rw[ab]at M2
   refine⟨by rw[Ag,M.len,M2.len],λnodes hn f hf=>?_,λho nodes hn=>?_,?_⟩
   ·have a:=M.val nodes hn.left f hf
    have b:=M2.val nodes hn.right f hf
    simp only[Az,Cm,BM,and_true]at a ⊢
    exact⟨a,b⟩
   ·have a:=M.key ho nodes hn.left
    have b:=M2.key ho nodes hn.right
    simp only[Az,Cm,BM,and_true]at a ⊢
    exact⟨a,b⟩
   ·have a:=M.sub.mono (d2:=d) (Ac _) (show m<=m+m' by omega) [] (q::D)
    have b:=M2.sub.mono (d2:=d) (Ac _) (show m'<=m+m' by omega) (C++[q]) []
    rw[A8]at a
    have b:SubV s d (base.length+1+news.length+new.length) Z (C++q::D) (m+m'):=by simpa using b
    exact a.append b
theorem modify_last{a:List α}{x:α}{f:α->α}:(a++[x]).modify a.length f=a++[f x]:=Jr
theorem z9d(t:Bs):Ym 5 t=[]:=by unfold Ym;simp
theorem z9e(t:Bs):Ym 6 t=[]:=by unfold Ym;simp
theorem Agr.head{x:Nd}{l nodes:List Nd}(h:Agr lo (x::l) nodes):nodes[lo]?=some x:=h 0 x rfl
theorem Agr.tail{x:Nd}{l nodes:List Nd}(h:Agr lo (x::l) nodes):Agr (lo+1) l nodes:=λi y hy=>by
 have:=h (i+1) y hy
 rw[show lo+1+i=lo+(i+1)from by omega];exact this
theorem zqw{key:Sp}{k:Int}{t:Tk}{D:List Tk}{ks:List Int}{ps:List Sp}{new:List Nd}{kvs:List (Bs×Tr)}{v:Tr}(hk:k=5/\obj=false\/k=6/\obj=true)(hv:v=.mk k (bl []) (if obj=true then kvs.map λkv=>bl kv.1 else []) (kvs.map (·.2)))(hD:D≠[])
  (hp:PV s (d+1) v (t::D) (m+1)) (M:MadeK s obj d (lo+1) ks new kvs D m):Made s (d+1) lo key ((k,(t.2.1,zct D 0),key,ks,ps)::new) v (t::D) (m+1):=by
 have Z:∀nodes,Agr lo ((k,(t.2.1,zct D 0),key,ks,ps)::new) nodes->∀f,d+1<=f->j6 s nodes f lo=v:=λnodes hn f hf=>by
  obtain⟨g,rfl⟩:∃g,f=g+1:=⟨f-1,by omega⟩
  rw[Jq hn.head,M.val nodes hn.tail g (by omega),hv]
  dsimp only
  rcases hk with⟨rfl,rfl⟩|⟨rfl,rfl⟩
  ·rw[z9d];simp
  ·rw[z9e,if_pos rfl,if_pos rfl,M.key rfl nodes hn.tail]
 refine⟨by rw[Ap,M.len],by omega,⟨_,rfl,rfl⟩,Z,λi hi=>?_⟩
 cases i with
 |zero=>
  refine⟨d+1,v,t::D,[],[],m+1,Ac _,hp,by simp,Ac _,λnodes hn f hf=>⟨Z nodes hn f hf,_,hn.head,?_⟩⟩
  have e:zct (t::D) 0=zct D 0:=j7 (C:=[t]) hD 0
  show(t.2.1,zct D 0)=qe8 (t::D)
  rw[<-e];rfl
 |succ i=>
  obtain⟨d',v',C',pre,aa,m',h1,h2,h3,h4,h5⟩:=M.sub i (by simpa using hi)
  refine⟨d',v',C',t::pre,aa,m',by omega,h2,by rw[h3];rfl,by omega,λnodes hn f hf=>?_⟩
  have:=h5 nodes hn.tail f hf
  rw[show lo+1+i=lo+(i+1)from by omega]at this
  exact this
theorem ziy{s:Bs}:∀(d:Nat) (v:Tr) (C:List Tk) (m:Nat),PV s d v C m->1<=m/\(∃t C',C=t::C'/\zw t.1≠0)/\∀(key:Sp) (st:PSt) (rest:List Tk),st.rest=C++rest->st.nodes.length+m<=4096->∃new,
  Jw s d key st=.inl ⟨rest,zct C st.last,st.nodes++new⟩/\Made s d st.nodes.length key new v C m
 |0,v,C,m,h=>h.elim
 |d+1,v,C,m,h=>by
  have ih:=ziy (s:=s) d
  have au:qhp s false d 5 (KA (PV s d)) (zdx (Jw s d)):=by
   rintro had had' kv C m ⟨rfl,hp⟩
   obtain⟨h1,⟨t,C',hC,hk⟩,h3⟩:=ih _ _ _ hp
   refine⟨h1,⟨t,C',hC,λe=>hk (by rw[e];rfl)⟩,λst rest hr hn=>?_⟩
   obtain⟨new,e,M⟩:=h3 (0,0) st rest hr hn
   refine⟨new,by unfold zdx;rw[e],M.len,λnodes hn f hf=>?_,λh=>(by cases h),M.sub⟩
   simp only[Az,Cm,Al]
   rw[M.val nodes hn f hf]
  have ar:qhp s true d 3 (KO s (PV s d)) (zqd s (Jw s d)):=by
   rintro had had' kv C m ⟨t,q,C',hC,ht,hq,ab,am,ai,ak,hp⟩
   subst hC
   obtain⟨h1,⟨t1,C1,ah,hk⟩,h3⟩:=ih _ _ _ hp
   refine⟨h1,⟨t,_,rfl,by omega⟩,λst rest hr hn=>?_⟩
   obtain⟨new,e,M⟩:=h3 t.2 st.skip.skip rest (by unfold PSt.skip;rw[hr];rfl) (by rw[yg,yg];exact hn)
   have e2:st.skip.skip.last=q.2.2:=by unfold PSt.skip;rw[hr];rfl
   rw[yg,yg]at e M
   rw[e2]at e
   refine⟨new,?_,M.len,λnodes hn f hf=>?_,λ_ nodes hn=>?_,?_⟩
   ·unfold zqd
    rw[hr]
    dsimp only[AE]
    rw[if_pos ht,if_neg (by rw[<-ab];exact ai)]
    have ek:st.skip.kind=7:=by unfold PSt.skip PSt.kind;rw[hr];exact hq
    rw[if_pos ek,e]
    dsimp only
    rw[ak,ab]
    have e3:zct C' q.2.2=zct (t::q::C') st.last:=by
     rw[show t::q::C'=[t,q]++C' from rfl,j7 (by rw[ah];simp)]
     exact ze8 (by rw[ah];simp) _ _
    rw[e3]
   ·simp only[Az,Cm,Al]
    rw[M.val nodes hn f hf]
   ·obtain⟨x,hx,an⟩:=M.key
    have:=hn 0 x hx
    simp only[Az,Cm,BM,and_true]
    unfold zim
    rw[Al]
    rw[show nodes[st.nodes.length]?=some x from this]
    show bl (zx7 s x)=bl kv.1
    unfold zx7
    rw[an,ab,am]
   ·have:=M.sub.mono (d2:=d) (Ac _) (Ac m) [t,q] []
    simpa using this
  have ax:∀(st:PSt) (t:Tk) (r:List Tk) (key:Sp),st.rest=t::r->st.open key=⟨r,t.2.2,st.nodes++[(zw t.1,t.2,key,[],[])]⟩:=λst t r key hr=>by unfold PSt.open;rw[hr]
  have ap:∀(st:PSt) (t:Tk) (r:List Tk),st.rest=t::r->st.kind=t.1:=λst t r hr=>by unfold PSt.kind;rw[hr]
  have go:∀(key:Sp) (st st':PSt) (t:Tk) (r:List Tk),st.rest=t::r->zw t.1≠0->st.nodes.length<4096->zri s (Jw s d) st.nodes.length (zw t.1) ⟨r,t.2.2,st.nodes++[(zw t.1,t.2,key,[],[])]⟩=.inl st'->Jw s (d+1) key st=.inl (st'.setTo st.nodes.length):=λkey st st' t r hr hk hn e=>by
   rw[Jw,ap st t r hr,if_neg hk,if_neg (by omega),ax st t r key hr,e]
  obtain⟨t,hh|⟨c,hC,hh,hm⟩|⟨D,kvs,m',hC,ht,hD,hv,hm⟩|⟨D,kvs,m',hC,ht,hD,hv,hm⟩⟩:=id h
  ·obtain⟨hC,k0,k5,k6,hv,hm⟩:=hh
   subst hC hm
   refine⟨Ac _,⟨t,[],rfl,k0⟩,λkey st rest hr hn=>⟨[(zw t.1,(t.2.1,t.2.2),key,[],[])],?_,?_⟩⟩
   ·rw[go key st _ t rest hr k0 (by omega) (by unfold zri;rw[if_neg k5,if_neg k6])]
    unfold PSt.setTo
    dsimp only
    rw[modify_last];rfl
   ·have aa:∀nodes,Agr st.nodes.length [(zw t.1,(t.2.1,t.2.2),key,[],[])] nodes->∀f,d+1<=f->j6 s nodes f st.nodes.length=v:=λnodes hn f hf=>by
     obtain⟨g,rfl⟩:∃g,f=g+1:=⟨f-1,by omega⟩
     rw[Jq hn.head,hv]
     dsimp only
     rw[if_neg k6];rfl
    refine⟨rfl,Ac _,⟨_,rfl,rfl⟩,aa,λi hi=>?_⟩
    have:i=0:=by simp at hi;exact hi
    subst this
    exact⟨d+1,v,[t],[],[],1,Ac _,h,by simp,Ac _,λnodes hn f hf=>⟨aa nodes hn f hf,_,hn.head,rfl⟩⟩
  ·subst hC hm
   have e4:zw 4=5:=rfl
   have e2:zw 2=6:=rfl
   have ab:zw t.1=5/\c.1=5/\v=.mk 5 (bl []) [] []\/zw t.1=6/\c.1=3/\v=.mk 6 (bl []) [] []:=by
    rcases hh with⟨h1,h2,h3⟩|⟨h1,h2,h3⟩
    ·exact .inl ⟨by rw[h1];rfl,h2,h3⟩
    ·exact .inr ⟨by rw[h1];rfl,h2,h3⟩
   have k0:zw t.1≠0:=by rcases ab with⟨h,_⟩|⟨h,_⟩ <;> rw[h] <;> decide
   have hp:PV s (d+1) v [t,c] 1:=⟨t,.inr (.inl ⟨c,rfl,hh,rfl⟩)⟩
   refine⟨Ac _,⟨t,[c],rfl,k0⟩,λkey st rest hr hn=>⟨[(zw t.1,(t.2.1,c.2.2),key,[],[])],?_,?_⟩⟩
   ·rw[go key st ⟨rest,c.2.2,st.nodes++[(zw t.1,t.2,key,[],[])]⟩ t (c::rest) hr k0 (by omega) (by
     unfold zri
     rcases ab with⟨h,hc,_⟩|⟨h,hc,_⟩
     ·rw[h,if_pos rfl]
      unfold Xd
      rw[if_pos (show PSt.kind ⟨c::rest,t.2.2,_⟩=5 from hc)];rfl
     ·rw[h,if_neg (by decide),if_pos rfl]
      unfold Xd
      rw[if_pos (show PSt.kind ⟨c::rest,t.2.2,_⟩=3 from hc)];rfl)]
    unfold PSt.setTo
    dsimp only
    rw[modify_last];rfl
   ·have aa:∀nodes,Agr st.nodes.length [(zw t.1,(t.2.1,c.2.2),key,[],[])] nodes->∀f,d+1<=f->j6 s nodes f st.nodes.length=v:=λnodes hn f hf=>by
     obtain⟨g,rfl⟩:∃g,f=g+1:=⟨f-1,by omega⟩
     rw[Jq hn.head]
     dsimp only
     rcases ab with⟨h,_,hv⟩|⟨h,_,hv⟩
     ·rw[h,hv,z9d];rfl
     ·rw[h,hv,z9e];rfl
    refine⟨rfl,Ac _,⟨_,rfl,rfl⟩,aa,λi hi=>?_⟩
    have:i=0:=by simp at hi;exact hi
    subst this
    exact⟨d+1,v,[t,c],[],[],1,Ac _,hp,by simp,Ac _,λnodes hn f hf=>⟨aa nodes hn f hf,_,hn.head,rfl⟩⟩
  ·subst hC hm
   obtain⟨⟨t1,D',ae,af⟩,h1,aj,h3⟩:=zlj au (by decide) hD
   have Z:D≠[]:=by rw[ae];simp
   have k5:zw t.1=5:=by rw[ht];rfl
   refine⟨by omega,⟨t,D,rfl,by rw[k5];decide⟩,λkey st rest hr hn=>?_⟩
   obtain⟨ks,ps,new,e,M⟩:=h3 st.nodes (zw t.1,t.2,key,[],[]) [] rest t.2.2 ((D++rest).length+1) (by rw[Ag];omega) (by simp only[AZ];omega)
   rw[AZ,CW]at M
   refine⟨(5,(t.2.1,zct D 0),key,ks,ps)::new,?_,zqw (.inl ⟨rfl,rfl⟩) (by rw[hv];rfl) Z h M⟩
   rw[go key st _ t (D++rest) hr (by rw[k5];decide) (by omega) (by
    unfold zri
    rw[k5,if_pos rfl]
    unfold Xd
    rw[if_neg (show¬PSt.kind ⟨D++rest,t.2.2,_⟩=5 from by rw[ae];exact af)]
    rw[k5]at e
    exact e)]
   unfold PSt.setTo
   dsimp only
   rw[Jr]
   have e3:zct D t.2.2=zct (t::D) st.last:=by
    rw[show t::D=[t]++D from rfl,j7 Z]
    exact ze8 Z _ _
   rw[e3,ze8 (C:=t::D) (by simp) st.last 0,show zct (t::D) 0=zct D 0 from j7 (C:=[t]) Z 0]
   simp[zxw,qbj]
  ·subst hC hm
   obtain⟨⟨t1,D',ae,af⟩,h1,aj,h3⟩:=zlj ar (by decide) hD
   have Z:D≠[]:=by rw[ae];simp
   have k6:zw t.1=6:=by rw[ht];rfl
   refine⟨by omega,⟨t,D,rfl,by rw[k6];decide⟩,λkey st rest hr hn=>?_⟩
   obtain⟨ks,ps,new,e,M⟩:=h3 st.nodes (zw t.1,t.2,key,[],[]) [] rest t.2.2 ((D++rest).length+1) (by rw[Ag];omega) (by simp only[AZ];omega)
   rw[AZ,CW]at M
   refine⟨(6,(t.2.1,zct D 0),key,ks,ps)::new,?_,zqw (.inr ⟨rfl,rfl⟩) (by rw[hv];rfl) Z h M⟩
   rw[go key st _ t (D++rest) hr (by rw[k6];decide) (by omega) (by
    unfold zri
    rw[k6,if_neg (by decide),if_pos rfl]
    unfold Xd
    rw[if_neg (show¬PSt.kind ⟨D++rest,t.2.2,_⟩=3 from by rw[ae];exact af)]
    rw[k6]at e
    exact e)]
   unfold PSt.setTo
   dsimp only
   rw[Jr]
   have e3:zct D t.2.2=zct (t::D) st.last:=by
    rw[show t::D=[t]++D from rfl,j7 Z]
    exact ze8 Z _ _
   rw[e3,ze8 (C:=t::D) (by simp) st.last 0,show zct (t::D) 0=zct D 0 from j7 (C:=[t]) Z 0]
   simp[zxw,qbj]
end
section
variable {k:Int}
theorem z9f(h:zw k=5):k=4:=by
 unfold zw at h
 by_cases h1:k=12 <;> by_cases h2:k=10\/k=11 <;> by_cases h3:k=9 <;> by_cases h4:k=8 <;> by_cases h5:k=4 <;> by_cases h6:k=2 <;> simp[*]at h ⊢
theorem z9g(h:zw k=6):k=2:=by
 unfold zw at h
 by_cases h1:k=12 <;> by_cases h2:k=10\/k=11 <;> by_cases h3:k=9 <;> by_cases h4:k=8 <;> by_cases h5:k=4 <;> by_cases h6:k=2 <;> simp[*]at h ⊢
def WfT(s:Bs)(l:List Tk):Prop:=∀t∈l,ya s t.2=Jv s t.2
theorem WfT.drop{s:Bs}{a b:List Tk}(h:WfT s (a++b)):WfT s b:=λt ht=>h t (Ay _ ht)
def qhq(s:Bs)(K:List Bs->List Bs->Bs×Tr->List Tk->Nat->Prop)(kid:zle):Prop:=
 ∀had st had' st',kid had st=.inl (had',st')->WfT s st.rest->st.nodes.length<=4096->∃kv C m,K had had' kv C m/\st.rest=C++st'.rest/\st'.nodes.length=st.nodes.length+m/\st'.nodes.length<=4096
theorem zaf{st:PSt}(h:st.kind=k)(hk:k≠0):∃t r,st.rest=t::r/\t.1=k:=by
 unfold PSt.kind at h
 cases hr:st.rest with
 |nil=>rw[hr]at h;exact absurd h.symm hk
 |cons t r=>rw[hr]at h;exact⟨t,r,rfl,h⟩
theorem Ye{st:PSt}{t:Tk}{r:List Tk}(h:st.rest=t::r):st.skip=⟨r,t.2.2,st.nodes⟩:=by unfold PSt.skip;rw[h]
theorem zcu{s:Bs}{n:Nat}{close:Int}(ab:close≠0){K:List Bs->List Bs->Bs×Tr->List Tk->Nat->Prop}{kid:zle}(hK:qhq s K kid):∀(f:Nat) (had:List Bs) (st st':PSt),Jo s n close kid f had st=.inl st'->WfT s st.rest->st.nodes.length<=4096 ->
  ∃kvs D m,KidsG K close had kvs D m/\st.rest=D++st'.rest/\st'.nodes.length=st.nodes.length+m/\st'.nodes.length<=4096
 |0,had,st,st',h,hw,hn=>by unfold Jo PSt.err at h;cases h
 |f+1,had,st,st',h,hw,hn=>by
  rw[Jo]at h
  split at h
  ·cases h
  ·rename_i aa Z e
   obtain⟨kv,C,m,h1,h2,h3,h4⟩:=hK _ _ _ _ e hw hn
   have ae:WfT s Z.rest:=by rw[h2]at hw;exact hw.drop
   split at h
   ·rename_i hc
    obtain⟨c,r,hr,hc⟩:=zaf hc ab
    have hs:=Ye (st:=Z.addKid n st.nodes.length (st.last,Z.here s.length)) (t:=c) (r:=r) hr
    rw[hs]at h
    cases h
    refine⟨[kv],C++[c],m,.last h1 hc,by rw[h2,hr];simp,?_,?_⟩ <;> dsimp only <;> rw[Jp] <;> assumption
   ·split at h
    ·rename_i hc
     obtain⟨q,r,hr,hq⟩:=zaf hc (by decide)
     have hs:=Ye (st:=Z.addKid n st.nodes.length (st.last,Z.here s.length)) (t:=q) (r:=r) hr
     rw[hs]at h
     obtain⟨kvs,D,m',g1,g2,g3,g4⟩:=zcu ab hK f aa _ st' h (by rw[hr]at ae;exact λt ht=>ae t (Ae _ ht)) (by dsimp only;rw[Jp];exact h4)
     dsimp only at g2 g3
     rw[Jp]at g3
     exact⟨kv::kvs,C++q::D,m+m',.more h1 hq g1,by rw[h2,hr,g2];simp,by omega,g4⟩
    ·unfold PSt.err at h;cases h
theorem zlk{s:Bs}:∀(d:Nat) (key:Sp) (st st':PSt),Jw s d key st=.inl st'->WfT s st.rest->st.nodes.length<=4096 ->
  ∃v C m,PV s d v C m/\st.rest=C++st'.rest/\st'.nodes.length=st.nodes.length+m/\st'.nodes.length<=4096
 |0,key,st,st',h,hw,hn=>by
  unfold Jw at h
  split at h <;> (unfold PSt.err at h;cases h)
 |d+1,key,st,st',h,hw,hn=>by
  have ih:=zlk (s:=s) d
  have ap:qhq s (KA (PV s d)) (zdx (Jw s d)):=by
   intro had st had' st' e hw hn
   unfold zdx at e
   split at e
   ·rename_i ab e1
    cases e
    obtain⟨v,C,m,h1,h2,h3,h4⟩:=ih _ _ _ e1 hw hn
    exact⟨([],v),C,m,⟨rfl,h1⟩,h2,h3,h4⟩
   ·cases e
  have am:qhq s (KO s (PV s d)) (zqd s (Jw s d)):=by
   intro had st had' st' e hw hn
   unfold zqd at e
   split at e
   ·unfold PSt.err at e;cases e
   ·rename_i t r hr
    split at e
    ·rename_i ht
     split at e
     ·unfold PSt.err at e;cases e
     ·rename_i ah
      split at e
      ·rename_i hk
       obtain⟨q,r2,Z,hq⟩:=zaf hk (by decide)
       rw[Ye hr]at Z
       dsimp only at Z
       rw[Ye hr,Ye (st:=⟨r,t.2.2,st.nodes⟩) Z]at e
       split at e
       ·rename_i ab e1
        cases e
        rw[hr,Z]at hw
        obtain⟨v,C,m,h1,h2,h3,h4⟩:=ih _ _ _ e1 (λx hx=>hw x (Ae _ (Ae _ hx))) hn
        dsimp only at h2 h3
        exact⟨((W8 (Jv s t.2)).1,v),t::q::C,m,⟨t,q,C,rfl,ht,hq,rfl,hw t Aj,ah,rfl,h1⟩,by rw[hr,Z,h2];rfl,h3,h4⟩
       ·cases e
      ·unfold PSt.err at e;cases e
    ·unfold PSt.err at e;cases e
  rw[Jw]at h
  split at h
  ·unfold PSt.err at h;cases h
  ·rename_i k0
   split at h
   ·unfold PSt.err at h;cases h
   ·rename_i ai
    split at h
    ·rename_i ab e
     cases h
     have ak:=zgo k0
     obtain⟨t,r,hr⟩:∃t r,st.rest=t::r:=by
      cases hr:st.rest with
      |nil=>exact absurd hr ak
      |cons t r=>exact⟨t,r,rfl⟩
     have aj:st.kind=t.1:=by unfold PSt.kind;rw[hr]
     have an:st.open key=⟨r,t.2.2,st.nodes++[(zw t.1,t.2,key,[],[])]⟩:=by unfold PSt.open;rw[hr]
     rw[aj]at e k0
     rw[an]at e
     have af:WfT s r:=by rw[hr]at hw;exact λx hx=>hw x (Ae _ hx)
     have aa:(st.nodes++[(zw t.1,t.2,key,[],[])]).length=st.nodes.length+1:=by simp
     have ae:(ab.setTo st.nodes.length).rest=ab.rest:=rfl
     rw[ae,zdy,hr]
     unfold zri at e
     split at e
     ·rename_i k5
      unfold Xd at e
      split at e
      ·rename_i hc
       obtain⟨c,r2,Z,hc⟩:=zaf hc (by decide)
       rw[Ye Z]at e
       cases e
       dsimp only at Z ⊢
       rw[aa,Z]
       exact⟨_,[t,c],1,⟨t,.inr (.inl ⟨c,rfl,.inl ⟨z9f k5,hc,rfl⟩,rfl⟩)⟩,rfl,rfl,by omega⟩
      ·obtain⟨kvs,D,m,g1,g2,g3,g4⟩:=zcu (by decide) ap _ _ _ _ e af (by dsimp only;omega)
       dsimp only at g2 g3
       rw[aa]at g3
       exact⟨_,t::D,m+1,⟨t,.inr (.inr (.inl ⟨D,kvs,m,rfl,z9f k5,g1,rfl,rfl⟩))⟩,by rw[g2];rfl,by omega,g4⟩
     ·rename_i k5
      split at e
      ·rename_i k6
       unfold Xd at e
       split at e
       ·rename_i hc
        obtain⟨c,r2,Z,hc⟩:=zaf hc (by decide)
        rw[Ye Z]at e
        cases e
        dsimp only at Z ⊢
        rw[aa,Z]
        exact⟨_,[t,c],1,⟨t,.inr (.inl ⟨c,rfl,.inr ⟨z9g k6,hc,rfl⟩,rfl⟩)⟩,rfl,rfl,by omega⟩
       ·obtain⟨kvs,D,m,g1,g2,g3,g4⟩:=zcu (by decide) am _ _ _ _ e af (by dsimp only;omega)
        dsimp only at g2 g3
        rw[aa]at g3
        exact⟨_,t::D,m+1,⟨t,.inr (.inr (.inr ⟨D,kvs,m,rfl,z9g k6,g1,rfl,rfl⟩))⟩,by rw[g2];rfl,by omega,g4⟩
      ·rename_i k6
       cases e
       dsimp only
       rw[aa]
       exact⟨_,[t],1,⟨t,.inl ⟨rfl,k0,k5,k6,rfl,rfl⟩⟩,rfl,rfl,by omega⟩
    ·cases h
end
section
variable {s:Bs} {a b:Nat}
inductive Lex (s:Bs):Nat->Nat->List Tk->Prop
 |nil {i:Nat}:Lex s i i []
 |cons {i j:Nat} {T:List Tk}:i<s.length->(Z7 s i).2.2=0->Lex s (Z7 s i).2.1 j T->Lex s i j (((Z7 s i).1,((i:Int),((Z7 s i).2.1:Int)))::T)
theorem zqx:∀(f:Nat) (s:Bs) (a:Nat) (o:List Tk),(Yb f s a o).2.2=0->s.length-a<=f->a<=s.length->∃T,(Yb f s a o).1=o++T/\Lex s a s.length T
 |0,s,a,o,h,hf,ha=>by
  have:a=s.length:=by omega
  subst this
  exact⟨[],by simp[Yb],.nil⟩
 |f+1,s,a,o,h,hf,ha=>by
  rw[Yb]at h ⊢
  split at h
  ·rename_i h1
   rw[if_pos h1]
   split at h
   ·rename_i h2
    rw[if_pos h2]
    have hp:=Jn h1 h2
    obtain⟨T,e,L⟩:=zqx f s _ _ h (by omega) hp.2
    exact⟨_::T,by rw[e];simp,.cons h1 h2 L⟩
   ·rename_i h2;exact absurd h h2
  ·rename_i h1
   rw[if_neg h1]
   have:a=s.length:=by omega
   subst this
   exact⟨[],by simp,.nil⟩
theorem Lex.le{T:List Tk}(H:Lex s a b T):a+T.length<=b/\(T≠[]->b<=s.length):=by
 induction H with
 |nil=>exact⟨by simp,λh=>absurd rfl h⟩
 | @cons a b T h1 h2 h3 ih=>
  have hp:=Jn h1 h2
  refine⟨by simp only[Ap];omega,λ_=>?_⟩
  cases h3 with
  |nil=>exact hp.2
  |cons=>exact ih.2 (by simp)
theorem z2s{T:List Tk}(H:Lex s a b T):∀(f:Nat) (o:List Tk),b=s.length->T.length<=f->Yb f s a o=(o++T,s.length,0):=by
 induction H with
 | @nil a=>
  intro f o hb hf
  subst hb
  cases f with
  |zero=>simp[Yb]
  |succ f=>rw[Yb,if_neg (by omega)];simp
 | @cons a b T h1 h2 h3 ih=>
  intro f o hb hf
  obtain⟨g,rfl⟩:∃g,f=g+1:=⟨f-1,by simp at hf;omega⟩
  rw[Yb,if_pos h1,if_pos h2,ih g _ hb (by simpa using hf)]
  simp
theorem z2t{T:List Tk}(H:Lex s 0 s.length T)(hs:s.length<=65536):y5 s=(T,s.length,0):=by
 unfold y5
 rw[if_neg (by omega),z2s H _ _ rfl (by have:=H.le.1;omega),A8]
theorem zqy(h:(y5 s).2.2=0):s.length<=65536/\Lex s 0 s.length (y5 s).1:=by
 unfold y5 at h ⊢
 split at h
 ·cases h
 ·rename_i h1
  rw[if_neg h1]
  obtain⟨T,e,L⟩:=zqx _ _ _ _ h (by omega) (by omega)
  rw[e];exact⟨by omega,L⟩
theorem Lex.append{T1 T2:List Tk}{a m b:Nat}(H:Lex s a m T1)(H2:Lex s m b T2):Lex s a b (T1++T2):=by
 induction H with
 |nil=>exact H2
 |cons h1 h2 _ ih=>exact .cons h1 h2 (ih H2)
theorem Lex.tok{T:List Tk}(H:Lex s a b T):∀t∈T,(a:Int)<=t.2.1/\t.2.1<t.2.2/\t.2.2<=(b:Int)/\b<=s.length:=by
 induction H with
 |nil=>intro t ht;cases ht
 | @cons a b T h1 h2 h3 ih=>
  have hp:=Jn h1 h2
  have Z:=h3.le
  intro t ht
  rcases Af.1 ht with rfl|ht
  ·refine⟨by dsimp only;omega,by dsimp only;omega,by dsimp only;omega,?_⟩
   cases h3 with
   |nil=>exact hp.2
   |cons=>exact Z.2 (by simp)
  ·have:=ih t ht
   exact⟨by omega,this.2.1,this.2.2.1,this.2.2.2⟩
theorem za0{p:Sp}(h0:0<=p.1)(h1:p.1<p.2)(h2:p.2<=(s.length:Int)):ya s p=Jv s p:=by
 unfold ya;rw[if_neg (by omega)]
theorem qce(he:(Z8 s).2.2=0):(y5 s).2.2=0/\∃v C m,PV s 32 v C m/\m<=4096/\zy (y5 s).1=C/\Made s 32 0 (0,0) (Z8 s).1.2 v C m:=by
 have ht:(y5 s).2.2=0:=by
  unfold Z8 at he
  split at he
  ·assumption
  ·exact he
 refine⟨ht,?_⟩
 obtain⟨hs,L⟩:=zqy ht
 have hw:WfT s (zy (y5 s).1):=λt h=>by
  have:=L.tok t (D5.1 h).1
  exact za0 (by omega) this.2.1 (by omega)
 unfold Z8 at he ⊢
 rw[if_pos ht]at he ⊢
 cases e:Jw s 32 (0,0) ⟨zy (y5 s).1,0,[]⟩with
 |inr x=>
  rw[e]at he
  dsimp only at he
  exfalso
  exact z6h s 32 _ _ _ e he
 |inl st=>
  rw[e]at he
  dsimp only at he ⊢
  split at he
  ·rename_i hr
   rw[if_pos hr]
   obtain⟨v,C,m,h1,h2,h3,h4⟩:=zlk 32 _ _ _ e hw (by simp)
   rw[hr,A3]at h2
   have h2:zy (y5 s).1=C:=h2
   have hm:m<=4096:=by simp only[AZ]at h3;omega
   obtain⟨_,_,g⟩:=ziy 32 v C m h1
   obtain⟨new,e2,M⟩:=g (0,0) ⟨zy (y5 s).1,0,[]⟩ [] (by rw[h2];simp) (by simp at h3 ⊢;omega)
   rw[e2]at e
   simp only[Sum.inl.injEq]at e
   subst e
   simp only[A8,AZ]at h3 M ⊢
   exact⟨v,C,m,h1,hm,h2,M⟩
  ·cases he
end
section
variable {l:Bs} {u:Nat}
theorem qe9{k:Nat}(h:k<10):(A4 (48+k)).toNat=48+k:=by
 rw[UInt8.toNat_ofNat'];omega
theorem zag:∀(n u:Nat),u<=n->(decDigits u).all qi=true/\decDigits u≠[]/\zh (decDigits u)=u/\(1<=u->(decDigits u).head?≠some 48)
 |0,u,h=>by
  have:u=0:=by omega
  subst this
  rw[decDigits,dif_pos (by omega)]
  exact⟨by decide,by simp,by decide,λh=>by omega⟩
 |n+1,u,h=>by
  by_cases hu:u<10
  ·rw[decDigits,dif_pos hu]
   refine⟨?_,by simp,?_,λh1=>?_⟩
   ·simp only[C5,List.all_nil,Dg,qi,qe9 hu]
    simp;omega
   ·simp only[zh,List.foldl_cons,List.foldl_nil,qe9 hu];omega
   ·intro e
    simp only[List.head?_cons,Ab]at e
    have:=congrArg UInt8.toNat e
    rw[qe9 hu]at this
    have Z:(48:UInt8).toNat=48:=rfl
    omega
  ·rw[decDigits,dif_neg hu]
   obtain⟨h1,h2,h3,h4⟩:=zag n (u / 10) (by omega)
   have hm:u % 10<10:=Nat.mod_lt _ (by omega)
   refine⟨?_,by simp,?_,λ_=>?_⟩
   ·rw[Ea,h1]
    simp only[C5,List.all_nil,Dg,BZ,qi,qe9 hm]
    simp;omega
   ·rw[zh8,h3,qe9 hm];omega
   ·obtain⟨c,t,e⟩:=A9 h2
    have:=h4 (by omega)
    rw[e]at this ⊢
    exact this
theorem zgr{c:UInt8}(h:l.all qi=true)(hc:qi c=false):l.head?≠some c:=by
 cases l with
 |nil=>simp
 |cons b t=>
  simp only[C5,As]at h
  simp only[List.head?_cons,ne_eq,Ab]
  rintro rfl
  rw[h.1]at hc;cases hc
theorem zvi(h:l.head?≠some 48):l.dropWhile (· == 48)=l:=by
 cases l with
 |nil=>rfl
 |cons b t=>
  simp only[List.head?_cons,ne_eq,Ab]at h
  rw[List.dropWhile_cons,if_neg (by simpa using h)]
theorem qcf(h:l.head?≠some 48)(h2:l.getLast?≠some 48):yz l=l:=by
 unfold yz
 rw[zvi h,zvi (by rw[List.head?_reverse];exact h2),List.reverse_reverse]
theorem zah:∀(k u:Nat),u<10 ^ (k+1)->(decDigits u).length<=k+1
 |0,u,h=>by rw[decDigits,dif_pos (by omega)];exact Ac _
 |k+1,u,h=>by
  by_cases hu:u<10
  ·rw[decDigits,dif_pos hu];simp
  ·have:=zah k (u / 10) (by rw[DU]at h;omega)
   rw[decDigits,dif_neg hu,Ag]
   simpa using this
theorem Qr(h:u<=1000000):(decDigits u).length<=9:=zah 8 u (by omega)
theorem qcg(u:Nat):itoa (u:Int)=decDigits u:=by unfold itoa;rw[if_neg (by omega)];simp
theorem qch(h:1<=u):itoa (-(u:Int))=45::decDigits u:=by unfold itoa;rw[if_pos (by omega)];simp
theorem znm{n:Nm}(h:yy n=true):zi (qz n)=(n,0):=by
 obtain⟨neg,d,e⟩:=n
 by_cases aa:d=[]
 ·have hn:=zh6 h aa
  subst aa
  unfold X3 at hn
  simp at hn
  obtain⟨rfl,rfl⟩:=hn
  rfl
 ·have hr:X3 (neg,d,e)=false:=by
   unfold X3
   cases d with
   |nil=>exact absurd rfl aa
   |cons c t=>simp
  have hx:=h
  unfold yy at hx
  rw[hr,Du]at hx
  simp only[As,decide_eq_true_eq,bne_iff_ne,ne_eq]at hx
  obtain⟨⟨⟨⟨⟨ap,hl⟩,hh⟩,am⟩,aM⟩,aL⟩:=hx
  have ae:=Yv ap
  obtain⟨u,hu,az⟩:∃u:Nat,u<=1000000/\(e=(u:Int)\/e=-(u:Int)/\1<=u):=by
   by_cases h0:e<0
   ·exact⟨e.natAbs,by omega,.inr ⟨by omega,by omega⟩⟩
   ·exact⟨e.toNat,by omega,.inl (by omega)⟩
  obtain⟨f1,f2,f3,f4⟩:=zag u u (Ac _)
  have aA:∀c∈d,isE c=false:=λc hc=>by
   have:=AD.1 ae c hc
   unfold qi at this
   simp at this
   unfold isE
   simp only[BX,beq_eq_false_iff_ne,ne_eq]
   constructor <;> (rintro rfl;revert this;decide)
  have aH:∀c∈d,zh7 c=false:=λc hc=>by
   have:=AD.1 ae c hc
   unfold qi at this
   simp at this
   unfold zh7
   simp only[beq_eq_false_iff_ne,ne_eq]
   rintro rfl;revert this;decide
  generalize hX:(if e=0 then []else 101::itoa e:Bs)=X
  have ai:qz (neg,d,e)=(if neg then [45]else [])++d++X:=by
   unfold qz
   rw[if_pos h,if_neg aa,hX]
  have ak:qi 45=false:=by decide
  have hS:zn2 (qz (neg,d,e))=d++X:=by
   rw[ai]
   unfold zn2
   cases neg with
   |true=>simp
   |false=>
    have:(d++X).head?≠some 45:=by
     obtain⟨c,t,rfl⟩:=A9 aa
     exact zgr (l:=c::t) ae ak
    simp only[A5,if_false,A8]
    rw[if_neg (by simpa using this)]
  have au:((qz (neg,d,e)).head?==some 45)=neg:=by
   rw[ai]
   cases neg with
   |true=>simp
   |false=>
    have:(d++X).head?≠some 45:=by
     obtain⟨c,t,rfl⟩:=A9 aa
     exact zgr (l:=c::t) ae ak
    simpa using this
  have aG:cutAt zh7 d=(d,[],false):=zaw aH
  have ay:=zvi hh
  have aF:=qcf hh am
  have fin:∀(low:Bool) (ex:Bs) (af:Bool),Zr (qz (neg,d,e))=(d,(Zr (qz (neg,d,e))).2.1,af)->Q8 (qz (neg,d,e))=low->(af=true->Ju (zi9 (qz (neg,d,e)))=true)->(if af then zi9 (qz (neg,d,e))else [])=ex->(ex.dropWhile (· == 48)).length<=9->(if low then-(zh (ex.dropWhile (· == 48)):Int)else zh (ex.dropWhile (· == 48)))=e->zi (qz (neg,d,e))=((neg,d,e),0):=by
   intro low ex af hM Z ax aI h9 aE
   have hW:Za (qz (neg,d,e))=(d,[],false):=by unfold Za;rw[hM];exact aG
   have aJ:zdq (qz (neg,d,e))=true:=by
    unfold zdq
    rw[hW,hM,ap]
    cases af with
    |true=>rw[ax rfl];simp;exact .inr hh
    |false=>simp;exact .inr hh
   have aC:zfy (qz (neg,d,e))=⟨neg,d,[],low,ex⟩:=by
    unfold zfy
    rw[hW,au,Z,show(Zr (qz (neg,d,e))).2.2=af from by rw[hM],aI]
   unfold zi W6
   rw[if_pos aJ,aC]
   dsimp only
   rw[if_neg (by simp;omega),if_neg (by omega),aE,A3,ay,aF,if_neg aa,if_pos (by simp;omega)]
   simp
  by_cases h0:e=0
  ·subst h0
   have an:X=[]:=by rw[<-hX];rfl
   subst an
   have hM:Zr (qz (neg,d,0))=(d,[],false):=by unfold Zr;rw[hS,A3];exact zaw aA
   exact fin false [] false (by rw[hM]) (by unfold Q8;rw[hM];rfl) (λh=>by cases h) rfl (by simp) (by simp[zh])
  ·have an:X=101::itoa e:=by rw[<-hX,if_neg h0]
   subst an
   have hM:Zr (qz (neg,d,e))=(d,itoa e,true):=by
    unfold Zr
    rw[hS]
    have:=zmv (p:=isE) (l:=d++101::itoa e) (k:=d.length) (by simp) (λi hi=>by
     rw[De hi];exact aA _ (AN hi)) (by simp;decide)
    rw[this]
    simp
   have aB:1<=u:=by rcases az with h|h <;> omega
   have ab:=zvi (f4 aB)
   have ar:Ju (decDigits u)=true:=by
    unfold Ju
    rw[f1,BZ]
    cases hq:decDigits u with
    |nil=>exact absurd hq f2
    |cons=>rfl
   rcases az with aj|⟨ah,_⟩
   ·have hi:itoa e=decDigits u:=by rw[aj,qcg]
    have Z:Q8 (qz (neg,d,e))=false:=by
     unfold Q8;rw[hM,hi]
     have:=zgr f1 ak
     simpa using this
    have hE:zi9 (qz (neg,d,e))=decDigits u:=by
     unfold zi9
     rw[Z,hM,hi]
     have:=zgr f1 (show qi 43=false by decide)
     simp only[A5,if_false]
     rw[if_neg (by simpa using this)]
    exact fin false (decDigits u) true (by rw[hM]) Z (λ_=>by rw[hE];exact ar) (by rw[hE];rfl) (by rw[ab];exact Qr hu) (by rw[ab,f3];exact aj.symm)
   ·have hi:itoa e=45::decDigits u:=by rw[ah,qch aB]
    have Z:Q8 (qz (neg,d,e))=true:=by
     unfold Q8;rw[hM,hi];rfl
    have hE:zi9 (qz (neg,d,e))=decDigits u:=by
     unfold zi9
     rw[Z,hM,hi];rfl
    exact fin true (decDigits u) true (by rw[hM]) Z (λ_=>by rw[hE];exact ar) (by rw[hE];rfl) (by rw[ab];exact Qr hu) (by rw[ab,f3];exact ah.symm)
end
section
variable {r a m:Nat} {s:Bs} {close:Int}
def zx8(r:Nat):Prop:=r<55296\/(57344<=r/\r<=1114111)
theorem zxx{x:Int}(h0:0<=x)(h1:x<256):(x.toNat.toUInt8).toNat=x.toNat:=by
 rw[Nat.toUInt8,UInt8.toNat_ofNat'];omega
theorem ztj(h:zx8 r)(m:Bs):dec (encodeRune (r:Int)++m)=(r,(encodeRune (r:Int)).length)/\1<=(encodeRune (r:Int)).length/\(128<=r->2<=(encodeRune (r:Int)).length):=by
 unfold zx8 at h
 by_cases h1:r<=127
 ·have e:encodeRune (r:Int)=[(r:Int).toNat.toUInt8]:=by unfold encodeRune;rw[encodeRuneZ_one (by omega) (by omega)];rfl
  rw[e]
  have b0:=zxx (x:=(r:Int)) (by omega) (by omega)
  refine⟨?_,by simp,λh=>by omega⟩
  rw[Dw,Q7 (by rw[b0];omega),b0];simp
 ·by_cases h2:r<=2047
  ·have e:encodeRune (r:Int)=[(192+(r:Int) / 64).toNat.toUInt8,(128+(r:Int) % 64).toNat.toUInt8]:=by unfold encodeRune;rw[encodeRuneZ_two (by omega) (by omega)];rfl
   rw[e]
   have b0:=zxx (x:=192+(r:Int) / 64) (by omega) (by omega)
   have b1:=zxx (x:=128+(r:Int) % 64) (by omega) (by omega)
   refine⟨?_,by simp,λh=>by simp⟩
   simp only[dec,AE,A8,List.getD_cons_zero,List.getD_cons_succ,Ap,b0,b1]
   unfold decodeN
   rw[if_neg (by omega),if_pos ⟨by omega,by omega,by omega⟩,if_pos (by omega)]
   simp only[AZ,Be,and_true];omega
  ·by_cases h3:r<=65535
   ·have e:encodeRune (r:Int)=[(224+(r:Int) / 4096).toNat.toUInt8,(128+(r:Int) / 64 % 64).toNat.toUInt8,(128+(r:Int) % 64).toNat.toUInt8]:=by unfold encodeRune;rw[encodeRuneZ_three (by omega)];rfl
    rw[e]
    have b0:=zxx (x:=224+(r:Int) / 4096) (by omega) (by omega)
    have b1:=zxx (x:=128+(r:Int) / 64 % 64) (by omega) (by omega)
    have b2:=zxx (x:=128+(r:Int) % 64) (by omega) (by omega)
    refine⟨?_,by simp,λh=>by simp⟩
    simp only[dec,AE,A8,List.getD_cons_zero,List.getD_cons_succ,Ap,b0,b1,b2]
    unfold decodeN
    rw[if_neg (by omega),if_neg (by omega),if_pos ⟨by omega,⟨by omega,by omega⟩,by omega,by omega⟩,if_pos (by omega)]
    simp only[AZ,Be,and_true];omega
   ·have e:encodeRune (r:Int)=[(240+(r:Int) / 262144).toNat.toUInt8,(128+(r:Int) / 4096 % 64).toNat.toUInt8,(128+(r:Int) / 64 % 64).toNat.toUInt8,(128+(r:Int) % 64).toNat.toUInt8]:=by unfold encodeRune;rw[encodeRuneZ_four (by omega) (by omega)];rfl
    rw[e]
    have b0:=zxx (x:=240+(r:Int) / 262144) (by omega) (by omega)
    have b1:=zxx (x:=128+(r:Int) / 4096 % 64) (by omega) (by omega)
    have b2:=zxx (x:=128+(r:Int) / 64 % 64) (by omega) (by omega)
    have b3:=zxx (x:=128+(r:Int) % 64) (by omega) (by omega)
    refine⟨?_,by simp,λh=>by simp⟩
    simp only[dec,AE,A8,List.getD_cons_zero,List.getD_cons_succ,Ap,b0,b1,b2,b3]
    unfold decodeN
    rw[if_neg (by omega),if_neg (by omega),if_neg (by omega),if_pos ⟨by omega,⟨by omega,by omega⟩,⟨by omega,by omega⟩,by omega,by omega⟩,if_pos (by omega)]
    simp only[AZ,Be,and_true];omega
theorem z6z(h:zx8 r)(m:Bs):jd (encodeRune (r:Int)++m)=jd m:=by
 obtain⟨h1,h2,h3⟩:=ztj h m
 have Z:encodeRune (r:Int)++m≠[]:=by
  intro e
  have:=(List.append_eq_nil_iff.1 e).1
  rw[this]at h2;simp at h2
 have hb:zd8 (dec (encodeRune (r:Int)++m))=false:=by
  rw[h1]
  unfold zd8
  simp only[Cz,beq_eq_false_iff_ne,ne_eq]
  by_cases hr:r=65533
  ·exact .inr (by have:=h3 (by omega);omega)
  ·exact .inl hr
 rw[jk Z,hb,h1]
 simp
theorem znn(l:Bs):zx8 (dec l).1:=by
 have h0:=(l.getD 0 0).toNat_lt
 have h1:=(l.getD 1 0).toNat_lt
 have h2:=(l.getD 2 0).toNat_lt
 have h3:=(l.getD 3 0).toNat_lt
 unfold zx8 dec decodeN
 repeat' split
 all_goals omega
theorem zxy{l:Bs}{r n:Nat}(h:X9 l=some (r,n)):zx8 r:=by
 unfold X9 at h
 split at h
 ·match l,h with
  |a::c::t,h=>
   unfold qbc at h
   dsimp only at h
   cases e:z5z c with
   |some q=>rw[e]at h;cases h;have:=z05 e;exact .inl (by omega)
   |none=>
    rw[e]at h
    dsimp only at h
    split at h
    ·unfold qbb at h
     cases e4:zij t with
     |none=>rw[e4]at h;cases h
     |some m=>
      have hm:=ze4 e4
      rw[e4]at h
      dsimp only at h
      split at h
      ·cases h
      ·split at h
       ·cases h
        unfold zx8;omega
       ·split at h
        ·cases e5:zij (t.drop 6)with
         |none=>rw[e5]at h;cases h
         |some k=>
          rw[e5]at h
          dsimp only at h
          split at h
          ·simp only[Ab,Be]at h
           obtain⟨rfl,_⟩:=h
           have:=ze4 e5
           unfold zx8;omega
          ·cases h
        ·cases h
    ·cases h
 ·split at h
  ·cases h
  ·have h:=Au h
   have:r=(dec l).1:=by rw[h]
   rw[this];exact znn l
theorem z7a:∀(k:Nat) (l:Bs),l.length=k->jd (zdw l).1=true:=by
 intro k
 induction k using Dt with
 |_ k ih=>
  intro l hl
  by_cases h:l=[]
  ·subst h;exact Yu
  ·have hp:=Bf.2 h
   rw[Jm h]
   split
   ·exact Yu
   ·cases e:X9 l with
    |none=>exact Yu
    |some x=>
     obtain⟨r,n⟩:=x
     obtain⟨n1,_,n2,_⟩:=Ya h e
     dsimp only
     rw[z6z (zxy e)]
     exact ih (l.drop n).length (by rw[AI];omega) _ rfl
theorem z2u(t:Bs):jd (W8 t).1=true:=by
 unfold W8
 dsimp only
 split
 ·exact Yu
 ·unfold y0
  split
  ·dsimp only
   split
   ·exact z7a _ _ rfl
   ·exact Yu
  ·exact Yu
theorem zvj(t:Bs):(W8 t).1.length<=4*t.length:=by
 unfold W8
 dsimp only
 split
 ·simp
 ·unfold y0
  split
  ·dsimp only
   split
   ·have:=(zp7 _ (t.drop (0+1)) rfl).2
    rw[AI]at this
    dsimp only;omega
   ·simp
  ·simp
def TkG(s:Bs)(t:Tk):Prop:=(t.1=10->ya s t.2=[116,114,117,101])/\(t.1=11->ya s t.2=[102,97,108,115,101])/\(t.1=9->(zi (ya s t.2)).2=0)
theorem ztk(w:Bs):(Qq w=10->w=[116,114,117,101])/\(Qq w=11->w=[102,97,108,115,101])/\Qq w≠9:=by
 unfold Qq
 split
 ·rename_i h;exact⟨λ_=>h,λh=>by omega,by omega⟩
 ·split
  ·rename_i h;exact⟨λh=>by omega,λ_=>h,by omega⟩
  ·split
   ·exact⟨λh=>by omega,λh=>by omega,by omega⟩
   ·exact⟨λh=>by omega,λh=>by omega,by omega⟩
theorem z2v(ha:a<s.length)(ok:(Z7 s a).2.2=0):TkG s ((Z7 s a).1,((a:Int),((Z7 s a).2.1:Int))):=by
 have hp:=Jn ha ok
 have hs:ya s ((a:Int),((Z7 s a).2.1:Int))=(s.drop a).take ((Z7 s a).2.1-a):=by
  rw[za0 (by dsimp only;omega) (by dsimp only;omega) (by dsimp only;omega)]
  unfold Jv
  simp only[Al]
 unfold TkG
 dsimp only
 rw[hs]
 clear hs
 have hd:s.drop a=s[a]::s.drop (a+1):=Ba ha
 rw[hd]
 unfold Z7 at ok hp ⊢
 rw[hd]at ok hp ⊢
 dsimp only at ok hp ⊢
 have aa:=λh:s[a]∈yl=>xq s[a] yl
 split
 ·rename_i h1
  have Z:indexByte yl s[a]<6:=by
   have:∀c∈yl,indexByte yl c<6:=by decide
   exact this _ h1
  dsimp only
  exact⟨λh=>by omega,λh=>by omega,λh=>by omega⟩
 ·rename_i h1
  rw[if_neg h1]at ok hp
  split
  ·exact⟨λh=>(by cases h),λh=>(by cases h),λh=>(by cases h)⟩
  ·rename_i h2
   rw[if_neg h2]at ok hp
   split
   ·rename_i h3
    rw[if_pos h3]at ok
    split
    ·exact⟨λh=>(by cases h),λh=>(by cases h),λh=>(by cases h)⟩
    ·exact⟨λh=>(by cases h),λh=>(by cases h),λh=>(by cases h)⟩
   ·rename_i h3
    rw[if_neg h3]at ok hp
    split
    ·rename_i h4
     rw[if_pos h4]at ok hp
     split
     ·rename_i h5
      refine⟨λh=>(by cases h),λh=>(by cases h),λ_=>?_⟩
      dsimp only
      rw[CC];exact h5
     ·exact⟨λh=>(by cases h),λh=>(by cases h),λh=>(by cases h)⟩
    ·rename_i h4
     rw[if_neg h4]at ok hp
     split
     ·exact⟨λh=>(by cases h),λh=>(by cases h),λh=>(by cases h)⟩
     ·rename_i h5
      obtain⟨w1,w2,w3⟩:=ztk ((s[a]::s.drop (a+1)).take (Yg (xg j5) (s[a]::s.drop (a+1))))
      dsimp only
      rw[CC]
      exact⟨w1,w2,λh=>absurd h w3⟩
theorem Lex.good{a b:Nat}{T:List Tk}(H:Lex s a b T):∀t∈T,TkG s t:=by
 induction H with
 |nil=>intro t ht;cases ht
 |cons h1 h2 _ ih=>
  intro t ht
  rcases Af.1 ht with rfl|ht
  ·exact z2v h1 h2
  ·exact ih t ht
theorem zj3(h:(zi s).2=0):yy (zi s).1=true:=by
 unfold zi at h ⊢
 cases e:W6 s with
 |none=>rfl
 |some x=>
  obtain⟨d1,d2,d3⟩:=zia e
  rw[e]at h
  dsimp only at h ⊢
  generalize (if x.low=true then -((zh (List.dropWhile (· == 48) x.exp):Nat):Int)else((zh (List.dropWhile (· == 48) x.exp):Nat):Int))=ee at h ⊢
  split
  ·rfl
  ·rename_i c1
   rw[if_neg c1]at h
   split
   ·rfl
   ·rename_i c2
    rw[if_neg c2]at h
    split
    ·rfl
    ·rename_i c3
     rw[if_neg c3]at h
     split
     ·rename_i c4
      rw[zk5 (by rw[Ea,Yv d1,d2];rfl) c3 (by rw[Ag];omega)]
      simp;omega
     ·rfl
theorem zxz(n:Nm):(qz n).length<=1100:=by
 unfold qz
 split
 ·rename_i h
  obtain⟨h1,h2,h3⟩:=zb5 h
  split
  ·simp
  ·have:(itoa n.2.2).length<=10:=by
    unfold itoa
    split
    ·have:=Qr (u:=n.2.2.natAbs) (by omega)
     simp only[Ap];omega
    ·have:=Qr (u:=n.2.2.toNat) (by omega)
     omega
   have a1:(if n.1 then [45]else []:Bs).length<=1:=by split <;> simp
   have a2:(if n.2.2=0 then []else 101::itoa n.2.2:Bs).length<=11:=by
    split
    ·simp
    ·simp only[Ap];omega
   simp only[Ag];omega
 ·simp
def okV(x:Tr):Bool:=decide (x.kind≠7)&&qe x
mutual
theorem zd3{p q:Tr->Bool}(h:∀x,p x=true->q x=true):∀v:Tr,zb9 p v=true->zb9 q v=true
 |.mk k s ks xs,hv=>by
  rw[zb9,As]at hv ⊢
  exact⟨h _ hv.1,zll h xs hv.2⟩
theorem zll{p q:Tr->Bool}(h:∀x,p x=true->q x=true):∀l:List Tr,ze2 p l=true->ze2 q l=true
 |[],_=>rfl
 |x::l,hl=>by
  rw[ze2,As]at hl ⊢
  exact⟨zd3 h x hl.1,zll h l hl.2⟩
end
theorem z7b{l:List Bs}(h:l.Nodup):(l.map bl).Nodup:=by
 induction l with
 |nil=>simp
 |cons x l ih=>
  rw[BE]at h
  rw[Az,BE]
  refine⟨λhm=>?_,ih h.2⟩
  obtain⟨y,hy,e⟩:=Bc.1 hm
  have:=z8j.1 e
  subst this
  exact h.1 hy
structure GoodV (d:Nat) (v:Tr) (m:Nat):Prop where
 sz:tsz v=m
 dp:tdp v<=d
 ok:zb9 okV v=true
 tx:txB 1048576 v
structure GoodK (d:Nat) (xs:List Tr) (m:Nat):Prop where
 sz:Yf xs=m
 dp:X6 xs<=d
 ok:ze2 okV xs=true
 tx:zso 1048576 xs
theorem zqz{d:Nat}{P:List Bs->List Bs->Bs×Tr->List Tk->Nat->Prop}{G:Tk->Prop}{N:Nat}(hP:∀had had' kv C m,P had had' kv C m->(∀t∈C,G t)->m<=N->GoodV d kv.2 m){had:List Bs}{kvs:List (Bs×Tr)}{D:List Tk}(H:KidsG P close had kvs D m):(∀t∈D,G t)->m<=N->GoodK d (kvs.map (·.2)) m:=by
 induction H with
 |last hk hc=>
  intro hg hN
  have g:=hP _ _ _ _ _ hk (λt ht=>hg t (Ar _ ht)) hN
  refine⟨?_,?_,?_,?_⟩
  ·simp only[Az,Cm,Yf];rw[g.sz];omega
  ·simp only[Az,Cm,X6];have:=g.dp;omega
  ·simp only[Az,Cm,ze2];rw[g.ok];rfl
  ·simp only[Az,Cm,zso];exact⟨g.tx,trivial⟩
 |more hk hq _ ih=>
  intro hg hN
  have g:=hP _ _ _ _ _ hk (λt ht=>hg t (Ar _ ht)) (by omega)
  have k:=ih (λt ht=>hg t (Ay _ (Ae _ ht))) (by omega)
  refine⟨?_,?_,?_,?_⟩
  ·simp only[Az,Yf];rw[g.sz,k.sz]
  ·simp only[Az,X6];have:=g.dp;have:=k.dp;omega
  ·simp only[Az,ze2];rw[g.ok,k.ok];rfl
  ·simp only[Az,zso];exact⟨g.tx,k.tx⟩
theorem z2w{P:Tr->List Tk->Nat->Prop}{had:List Bs}{kvs:List (Bs×Tr)}{D:List Tk}(hl:s.length<=65536)(H:KidsG (KO s P) close had kvs D m):(kvs.map (·.1)).Nodup/\(∀k∈kvs.map (·.1),k∉had/\jd k=true/\k.length<=262144):=by
 have one:∀{t:Tk},jd (W8 (Jv s t.2)).1=true/\(W8 (Jv s t.2)).1.length<=262144:=λ {t}=>⟨z2u _,by
  have:=zvj (Jv s t.2)
  have:(Jv s t.2).length<=s.length:=by unfold Jv;rw[Bb,AI];omega
  omega⟩
 induction H with
 |last hk hc=>
  obtain⟨t,q,C',rfl,ht,hq,Z,ae,ab,aa,hp⟩:=hk
  refine⟨by simp,λk hk=>?_⟩
  simp only[Az,Cm,A6]at hk
  subst hk
  exact⟨ab,by rw[Z];exact one.1,by rw[Z];exact one.2⟩
 |more hk hq _ ih=>
  obtain⟨t,q,C',rfl,ht,hq,Z,ae,ab,aa,hp⟩:=hk
  obtain⟨i1,i2⟩:=ih
  refine⟨?_,λk hk=>?_⟩
  ·rw[Az,BE]
   refine⟨λhm=>?_,i1⟩
   have:=(i2 _ hm).1
   rw[aa]at this
   exact this (by simp)
  ·rw[Az]at hk
   rcases Af.1 hk with rfl|hk
   ·exact⟨ab,by rw[Z];exact one.1,by rw[Z];exact one.2⟩
   ·obtain⟨j1,j2,j3⟩:=i2 k hk
    refine⟨λhm=>j1 ?_,j2,j3⟩
    rw[aa];exact Ar _ hm
theorem z7c{k:Int}(h0:zw k≠0)(h5:zw k≠5)(h6:zw k≠6):(k=12/\zw k=1)\/(k=10/\zw k=2)\/(k=11/\zw k=2)\/(k=9/\zw k=3)\/(k=8/\zw k=4):=by
 unfold zw at *
 by_cases h1:k=12 <;> by_cases h2:k=10 <;> by_cases Z:k=11 <;> by_cases h3:k=9 <;> by_cases h4:k=8 <;> by_cases g5:k=4 <;> by_cases g6:k=2 <;> simp[*]at h0 h5 h6 ⊢
theorem z2x{s:Bs}(hs:s.length<=65536):∀(d:Nat) (v:Tr) (C:List Tk) (m:Nat),PV s d v C m->(∀t∈C,TkG s t)->m<=4096->GoodV d v m
 |0,v,C,m,h,_,_=>h.elim
 |d+1,v,C,m,h,hg,hC=>by
  have ih:=z2x hs d
  obtain⟨t,hh|⟨c,hC,hh,hm⟩|⟨D,kvs,m',Z,ht,hD,hv,hm⟩|⟨D,kvs,m',Z,ht,hD,hv,hm⟩⟩:=h
  ·obtain⟨rfl,k0,k5,k6,rfl,rfl⟩:=hh
   obtain⟨g1,g2,g3⟩:=hg t Aj
   have ae:=ze6 s t.2
   refine⟨by simp[tsz,Yf],by simp[tdp,X6],?_,?_⟩
   ·rw[xt]
    simp only[ze2,Dg]
    unfold okV qe
    rcases z7c k0 k5 k6 with⟨e,ek⟩|⟨e,ek⟩|⟨e,ek⟩|⟨e,ek⟩|⟨e,ek⟩ <;> simp only[Tr.kind,Tr.text,Tr.keys,Tr.items,ek,yp] <;> unfold Ym
    ·simp
    ·rw[g1 e];simp
    ·rw[g2 e];simp
    ·have hn:=znm (zj3 (g3 e))
     simp[zxh,hn]
    ·simp[z2u]
   ·rw[zk8]
    simp only[Tr.text,Tr.keys,zso,and_true,ze]
    refine⟨?_,by simp,by simp⟩
    unfold Ym
    have:=zxz (zi (ya s t.2)).1
    have:=zvj (ya s t.2)
    repeat' split
    all_goals first|omega|simp
  ·subst hC hm
   have:v=.mk 5 (bl []) [] []\/v=.mk 6 (bl []) [] []:=by
    rcases hh with⟨_,_,h⟩|⟨_,_,h⟩
    ·exact .inl h
    ·exact .inr h
   rcases this with rfl|rfl
   ·exact⟨by simp[tsz,Yf],by simp[tdp,X6],rfl,by rw[txB,zso];exact⟨by decide,trivial⟩⟩
   ·exact⟨by simp[tsz,Yf],by simp[tdp,X6],rfl,by rw[txB,zso];exact⟨by decide,trivial⟩⟩
  ·subst Z hm hv
   have k:=zqz (d:=d) (N:=4096) (G:=TkG s) (P:=KA (PV s d)) (λhad had' kv C m ⟨_,hp⟩ hG hm=>ih _ _ _ hp hG hm) hD (λt ht=>hg t (Ae _ ht)) (by omega)
   refine⟨?_,?_,?_,?_⟩
   ·rw[tsz,k.sz];omega
   ·rw[tdp];have:=k.dp;omega
   ·rw[xt]
    simp only[Tr.items,k.ok,Dg]
    rfl
   ·rw[txB];exact⟨⟨by decide,by simp,by simp⟩,k.tx⟩
  ·subst Z hm hv
   have k:=zqz (d:=d) (N:=4096) (G:=TkG s) (P:=KO s (PV s d)) (λhad had' kv C m ⟨_,_,_,e,_,_,_,_,_,_,hp⟩ hG hm=>ih _ _ _ hp (λt ht=>hG t (by rw[e];exact Ae _ (Ae _ ht))) hm) hD (λt ht=>hg t (Ae _ ht)) (by omega)
   obtain⟨n1,n2⟩:=z2w hs hD
   have ab:=zax (kvs.map (·.2))
   rw[k.sz,AH]at ab
   have aa:(kvs.map λkv=>bl kv.1)=(kvs.map (·.1)).map bl:=by rw[BG];rfl
   refine⟨?_,?_,?_,?_⟩
   ·rw[tsz,k.sz];omega
   ·rw[tdp];have:=k.dp;omega
   ·rw[xt]
    simp only[Tr.items,k.ok,Dg]
    unfold okV qe xe
    simp only[Tr.kind,Tr.keys,Tr.items,Tr.text,aa]
    have e1:((kvs.map (·.1)).map bl).all (λk=>jd (lb k))=true:=by
     rw[AD]
     intro x hx
     obtain⟨y,hy,rfl⟩:=Bc.1 hx
     rw[yp];exact(n2 y hy).2.1
    have e2:((kvs.map (·.1)).map bl).Nodup:=z7b n1
    rw[e1,decide_eq_true e2]
    simp
   ·rw[txB]
    refine⟨⟨by decide,by rw[AH];omega,λx hx=>?_⟩,k.tx⟩
    rw[aa]at hx
    obtain⟨y,hy,rfl⟩:=Bc.1 hx
    rw[ze]
    have:=(n2 y hy).2.2;omega
theorem z2y(he:(Z8 s).2.2=0):ye (j6 s (Z8 s).1.2 33 0)=true/\X7 (j6 s (Z8 s).1.2 33 0)=true/\Sm (j6 s (Z8 s).1.2 33 0):=by
 obtain⟨ht,v,C,m,hp,hm,hC,M⟩:=qce he
 obtain⟨hs,L⟩:=zqy ht
 have hv:j6 s (Z8 s).1.2 33 0=v:=M.val _ (λi y hy=>by rw[AK];exact hy) 33 (by omega)
 have g:=z2x hs 32 v C m hp (λt aa=>by rw[<-hC]at aa;exact L.good t (D5.1 aa).1) hm
 rw[hv]
 have Z:Q9 v=true:=by
  unfold Q9
  have:=g.sz
  have:=g.dp
  simp;omega
 have ho:zb9 qe v=true:=zd3 (λx hx=>by unfold okV at hx;simp at hx;exact hx.2) v g.ok
 refine⟨?_,?_,⟨by have:=g.sz;omega,g.tx⟩⟩
 ·unfold ye;rw[Z];exact g.ok
 ·unfold X7;rw[Z,ho];rfl
end
section
theorem ziz(a b:Bs):zay (a++b)=zay a++zay b:=by unfold zay;rw[List.flatMap_append]
theorem z7d(c:UInt8):(z8t c).length<=6:=by
 unfold z8t
 repeat' split
 all_goals simp
theorem zno:∀l:Bs,(zay l).length<=6*l.length
 |[]=>by simp[zay]
 |c::l=>by
  have:=zno l
  have h1:=z7d c
  have e:zay (c::l)=z8t c++zay l:=rfl
  rw[e,Ag,Ap];omega
theorem z2z{c:UInt8}(h:128<=c.toNat):z8t c=[c]:=by
 have ne:∀n:Nat,n<128->c≠A4 n:=λn hn e=>by
  rw[e,UInt8.toNat_ofNat']at h;omega
 unfold z8t
 rw[if_neg (by rintro(e|e);exact ne 34 (by omega) e;exact ne 92 (by omega) e),if_neg (show¬c=8 from ne 8 (by omega)),if_neg (show¬c=12 from ne 12 (by omega)),if_neg (show¬c=10 from ne 10 (by omega)),if_neg (show¬c=13 from ne 13 (by omega)),if_neg (show¬c=9 from ne 9 (by omega)),if_neg (by omega)]
theorem zq0:∀{l:Bs},(∀c∈l,128<=c.toNat)->zay l=l
 |[],_=>rfl
 |c::l,h=>by
  have e:zay (c::l)=z8t c++zay l:=rfl
  rw[e,z2z (h c Aj),zq0 λx hx=>h x (Ae _ hx)];rfl
theorem zvk{r:Nat}(h:zx8 r)(hr:128<=r):∀c∈encodeRune (r:Int),128<=c.toNat:=by
 unfold zx8 at h
 intro c hc
 unfold encodeRune at hc
 obtain⟨x,hx,rfl⟩:=Bc.1 hc
 have key:∀y:Int,x=y->128<=y->y<256->128<=x.toNat.toUInt8.toNat:=λy e h1 h2=>by
  subst e;rw[zxx (by omega) h2];omega
 by_cases h2:r<=2047
 ·rw[encodeRuneZ_two (by omega) (by omega)]at hx
  simp only[Af,DX,or_false]at hx
  rcases hx with e|e <;> exact key _ e (by omega) (by omega)
 ·by_cases h3:r<=65535
  ·rw[encodeRuneZ_three (by omega)]at hx
   simp only[Af,DX,or_false]at hx
   rcases hx with e|e|e <;> exact key _ e (by omega) (by omega)
  ·rw[encodeRuneZ_four (by omega) (by omega)]at hx
   simp only[Af,DX,or_false]at hx
   rcases hx with e|e|e|e <;> exact key _ e (by omega) (by omega)
def zq1(r:Nat):Nat:=if r=34\/r=92 then r else if r=8 then 98 else if r=12 then 102 else if r=10 then 110 else if r=13 then 114 else if r=9 then 116 else 0
def qci(k:Nat):UInt8:=A4 (if k<10 then 48+k else 87+k)
def zx9(r:Nat):Bs:=if zq1 r≠0 then [92,A4 (zq1 r)]else if 32<=r then encodeRune (r:Int)else [92,117,48,48,A4 (48+r / 16),qci (r % 16)]
theorem z7e:(Cb 128).all (λk=>decide (z8t (A4 k)=zx9 k))=true:=by kernel_rfl
theorem zvl{l:Bs}(h:l≠[])(hg:zd8 (dec l)=false):zay (l.take (dec l).2)=zx9 (dec l).1:=by
 by_cases hr:(dec l).1<128
 ·obtain⟨c,t,rfl⟩:=A9 h
  have hc:c.toNat<128:=by
   rcases A1 c.toNat 128 with h1|h1
   ·exact h1
   ·exfalso
    have h2:=zsx h hg
    have hn:=(xn (c::t)).1
    have e1:encodeRune ((dec (c::t)).1:Int)=[((dec (c::t)).1:Int).toNat.toUInt8]:=by unfold encodeRune;rw[encodeRuneZ_one (by omega) (by omega)];rfl
    obtain⟨n,Z⟩:∃n,(dec (c::t)).2=n+1:=⟨(dec (c::t)).2-1,by omega⟩
    rw[e1,Z,C3]at h2
    injection h2 with h2 _
    rw[<-h2,zxx (by omega) (by omega)]at h1
    omega
  rw[Q7 hc]at hr ⊢
  have:=AD.1 z7e c.toNat (Bw.2 hc)
  have:=of_decide_eq_true this
  rw[UInt8.ofNat_toNat]at this
  rw[<-this]
  simp[zay]
 ·have hr:128<=(dec l).1:=by omega
  have e:=zsx h hg
  have hl:zq1 (dec l).1=0:=by
   unfold zq1
   rw[if_neg (by omega),if_neg (by omega),if_neg (by omega),if_neg (by omega),if_neg (by omega),if_neg (by omega)]
  unfold zx9
  rw[if_neg (by rw[hl];exact λh=>h rfl),if_pos (by omega),<-e]
  exact zq0 (zvk (znn l) hr)
end
end Go.X
end
section
namespace Go.X
open Go Go.X Go.Proofs Go.RowKit
section
variable {h:za} {it:Nat} {s:Bt} {K:Value -> za -> Prop}
theorem qfa{P:Program}{p:Nat}(e:h[it]?=some (.stringIter s p)){T:TypeId}(h1:p<s.size->K (.tuple #[.bool true,.int .i64 (p:Int),.int .i32 (nxR s p)]) (h.setIfInBounds it (.stringIter s (nxP s p))))
  (h0:s.size<=p->K (.tuple #[.bool false]) h):Z5 P (Dm (.pointer (some ⟨it,0,none⟩)) true T) h K:=by
 have hg:∀(w:World),w.heap[it]?=some (.stringIter s p)->(getObj it).run P w=.ok (.stringIter s p) w:=λw e=>by simp[getObj,Sem.run,e]
 have hs:∀(w:World) (o':Obj),w.heap[it]?=some (.stringIter s p)->(setObj it o').run P w=.ok () { w with heap:=w.heap.setIfInBounds it o' }:=λw o' e=>by simp[setObj,Sem.run,e]
 intro B d
 by_cases hb:p<s.size
 ·have eb:nxB s p=true:=by simpa[nxB,Cu]using hb
  have ep:nxP s p=p+(Ew s p).2:=by unfold nxP;rw[show Nat.blt p s.size=true from eb];rfl
  refine⟨_,d,_,?_,h1 hb⟩
  unfold Dm
  simp only
  rw[Sem.run_bind,hg (mk B d h) e]
  simp only[Result.andThen_ok,hb,if_true]
  rw[Sem.run_bind,hs (mk B d h) _ e,ep]
  rfl
 ·refine⟨_,d,h,?_,h0 (by omega)⟩
  unfold Dm
  simp only
  rw[Sem.run_bind,hg (mk B d h) e]
  simp only[Result.andThen_ok,hb,if_false]
  rfl
theorem Bld.other{h h':za}{b:Nat}{l:Bs}(H:Bld h b l){p:Nat}(e:h[it]?=some (.stringIter s p))(f:∀i,i≠it->h'[i]?=h[i]?):Bld h' b l:=by
 obtain⟨q,r,eb,hp,ho⟩:=H
 refine⟨q,r,?_,hp,ho.keep λa ha=>?_⟩
 ·rw[f b (λhb=>by rw[hb,e]at eb;cases eb)];exact eb
 ·refine f _ λhb=>?_
  rcases ho.2 with⟨hv,_⟩|⟨g,cap,Z,hv,_,hg,_⟩
  ·rw[ha]at hv;cases hv
  ·have hg:h[g]?=some (.cells Z 5 (0,0)):=hg
   rw[ha]at hv
   injection hv with e1 _ _
   injection e1 with e1
   rw[e1]at hb
   have hb:g=it:=hb
   rw[hb,e]at hg;cases hg
theorem Bld.zero(h:za):Bld (h.push (.cells #[.pointer none,.slice none 0 0] 112)) h.size []:=
 ⟨none,⟨none,0,0⟩,yb _ _,.inl rfl,Owns.nil _ _ _ _⟩
theorem z7f{r:Nat}(hr:r<=1114111)(hK:K (.int .u8 (zq1 r:Int)) h):XC Tp 82 #[.int .i32 (r:Int)] h K:=by
 apply zie
 intro K3 ae
 have eq:∀n:Nat,((r:Int)==(n:Int))=decide (r=n):=λn=>by
  rw[AJ];simp only[beq_iff_eq,decide_eq_true_eq];omega
 have ah:((r:Int)==34)=decide (r=34):=eq 34
 have ab:((r:Int)==92)=decide (r=92):=eq 92
 have e8:((r:Int)==8)=decide (r=8):=eq 8
 have af:((r:Int)==12)=decide (r=12):=eq 12
 have aa:((r:Int)==10)=decide (r=10):=eq 10
 have Z:((r:Int)==13)=decide (r=13):=eq 13
 have e9:((r:Int)==9)=decide (r=9):=eq 9
 unfold zq1 at hK
 have fin:∀b:Bool,(b=true↔r=34\/r=92)->K3 b h:=λb hb=>by
  refine ae _ _ ⟨λhx=>?_,λhx=>?_⟩
  ·rw[if_pos (hb.1 hx)]at hK
   have e:Aa .u8 (r:Int)=(r:Int):=by
    rcases hb.1 hx with rfl|rfl <;> rfl
   rw[e];exact hK
  ·rw[if_neg (λh=>by rw[hb.2 h]at hx;cases hx)]at hK
   rw[e8,af,aa,Z,e9]
   refine⟨λh=>?_,λh=>?_⟩
   ·rw[if_pos (of_decide_eq_true h)]at hK;exact hK
   rw[if_neg (of_decide_eq_false h)]at hK
   refine⟨λh=>?_,λh=>?_⟩
   ·rw[if_pos (of_decide_eq_true h)]at hK;exact hK
   rw[if_neg (of_decide_eq_false h)]at hK
   refine⟨λh=>?_,λh=>?_⟩
   ·rw[if_pos (of_decide_eq_true h)]at hK;exact hK
   rw[if_neg (of_decide_eq_false h)]at hK
   refine⟨λh=>?_,λh=>?_⟩
   ·rw[if_pos (of_decide_eq_true h)]at hK;exact hK
   rw[if_neg (of_decide_eq_false h)]at hK
   refine⟨λh=>?_,λh=>?_⟩
   ·rw[if_pos (of_decide_eq_true h)]at hK;exact hK
   rw[if_neg (of_decide_eq_false h)]at hK
   exact hK
 rw[ah,ab]
 refine⟨λhx=>fin _ ?_,λhx=>fin _ ?_⟩
 ·rw[hx];exact⟨λ_=>.inl (of_decide_eq_true hx),λ_=>rfl⟩
 ·rw[decide_eq_true_eq];exact⟨.inr,λh=>h.resolve_left (of_decide_eq_false hx)⟩
theorem z7g{c:Nat}(hc:c<32):[92,117]++Lib.repeatL [48] (4-(zaz c).length)++zaz c=[92,117,48,48,A4 (48+c / 16),qci (c % 16)]/\((zaz c).length=1\/(zaz c).length=2):=by
 have:(Cb 32).all (λc=>decide ([92,117]++Lib.repeatL [48] (4-(zaz c).length)++zaz c=[92,117,48,48,A4 (48+c / 16),qci (c % 16)]/\((zaz c).length=1\/(zaz c).length=2)))=true:=by kernel_rfl
 exact of_decide_eq_true (AD.1 this c (Bw.2 hc))
set_option maxRecDepth 100000 in
set_option maxHeartbeats 4000000 in
theorem qcj{gl:Fr}(hg:GL gl){t:Bs}(ht:t.length<=1048576){M:Fr}(hM:Fr.le gl M)(hb:Brn M)(ag:AgM M h)(hK:∀h',Keep h.size h h'->K (.tuple #[.string (bl (zp8 t).1),.int .i64 (zp8 t).2]) h'):
  XC Tp 27 #[.string (bl t)] h K:=by
 apply zju
 refine(zmy hg.tabs (l:=t) (by omega) (R:=λr=>r.2=jd t) λk=>rfl).go hM ag (yj (a:=Arg.mk .str _) (rdStr _) jy) λv h2 M2 r L2 hv hr=>?_
 obtain⟨n,is⟩:=r
 have hr:is=jd t:=hr
 subst hr
 obtain⟨_,⟨u1,_,rfl,a1,u2,rfl,aj⟩,rfl⟩:=hv
 obtain rfl:=qo a1
 have aj:u2=.bool (jd t):=by rw[zw6 rfl]at aj;simpa[Rd]using aj
 subst aj
 refine⟨_,_,rfl,?_⟩
 unfold zp8 at hK
 refine⟨λhx=>?_,λhx=>?_⟩
 ·have:jd t=false:=by simpa using hx
  rw[this]at hK
  exact hK h2 L2.keep
 have hu:jd t=true:=by simpa using hx
 rw[if_pos hu]at hK
 intro h5
 have k5:Keep h2.size h2 h5:=Keep.push _ _ (Ac _)
 have z5:h5.size=h2.size+1:=Am _
 have B5:Bld h5 h2.size []:=Bld.zero h2
 clear_value h5
 have z2:=L2.keep.size
 refine Wu B5 (by simp) 34 λh7 B7 k7 i7=>⟨_,rfl,?_⟩
 have z7:h2.size<h7.size:=B7.lt
 intro h9
 have k9:Keep h7.size h7 h9:=Keep.push _ _ (Ac _)
 have z9:h9.size=h7.size+1:=Am _
 have B9:Bld h9 h2.size [34]:=B7.keep k9
 have e9:h9[h7.size]?=some (.stringIter (bl t) 0):=yb _ _
 clear_value h9
 have ar:Keep h.size h h9:=⟨by omega,λj hj=>by rw[k9.get j (by omega),k7.get j (by omega),k5.get j (by omega),L2.keep.get j hj]⟩
 refine⟨λg=>∃p,p<=t.length/\Bld g h2.size (34::zay (t.take p))/\g[h7.size]?=some (.stringIter (bl t) p)/\jd (t.drop p)=true/\Keep h2.size h9 g,λg=>match g[h7.size]? with
  |some (.stringIter _ p)=>t.length-p
  |_=>0,⟨0,by omega,B9,e9,hu,Keep.refl _ _⟩,?_⟩
 rintro g ⟨p,hp,Bg,eg,ah,kg⟩
 have a7:(zay (t.take p)).length<=6*t.length:=by
  have:=zno (t.take p)
  rw[Bb]at this;omega
 refine qfa eg (λay=>.inr ⟨_,_,rfl,λ_=>?_,λhx=>(by cases hx)⟩) (λab=>.inl ⟨rfl,λhx=>(by cases hx),λ_=>?_⟩)
 ·-- a rune more
  rw[ze]at ay
  have hd:t.drop p≠[]:=by intro e;rw[List.drop_eq_nil_iff]at e;omega
  have ak:zd8 (dec (t.drop p))=false:=by
   rw[jk hd]at ah
   cases hbd:zd8 (dec (t.drop p))with
   |true=>rw[hbd]at ah;cases ah
   |false=>rfl
  have aC:jd (t.drop (p+(dec (t.drop p)).2))=true:=by
   rw[jk hd,ak]at ah
   rw[<-Bj];simpa using ah
  have hq:=zvl hd ak
  have hw:=xn (t.drop p)
  have aF:=zuk hd
  rw[AI]at aF
  have am:=z06 (t.drop p)
  have aa:zay (t.take (p+(dec (t.drop p)).2))=zay (t.take p)++zx9 (dec (t.drop p)).1:=by
   rw[<-hq,<-ziz,List.take_add]
  rw[zpp,zh5 t p ay]
  generalize hr:(dec (t.drop p)).1=r at am aa ⊢
  generalize hn:(dec (t.drop p)).2=n at hw aF aC aa ⊢
  have aL:h7.size<g.size:=(Ad.1 eg).1
  generalize ae:g.setIfInBounds h7.size (.stringIter (bl t) (p+n))=h14
  have aB:∀i,i≠h7.size->h14[i]?=g[i]?:=λi hi=>by rw[<-ae,AC (Ne.symm hi)]
  have aM:h14[h7.size]?=some (.stringIter (bl t) (p+n)):=by rw[<-ae,Cn aL]
  have bD:h14.size=g.size:=by rw[<-ae];simp
  have ai:=Bg.other eg aB
  have au:Keep h2.size h9 h14:=⟨by have:=kg.size;omega,λj hj=>by rw[aB j (by omega)];exact kg.get j hj⟩
  have fin:∀g':za,Bld g' h2.size (34::zay (t.take p)++zx9 r)->Keep h2.size h14 g'->Itk h14 g'->(∃p,p<=t.length/\Bld g' h2.size (34::zay (t.take p))/\g'[h7.size]?=some (.stringIter (bl t) p)/\jd (t.drop p)=true/\Keep h2.size h9 g') /\
    (match g'[h7.size]? with|some (.stringIter _ p)=>t.length-p|_=>0)<(match g[h7.size]? with|some (.stringIter _ p)=>t.length-p|_=>0):=λg' B' k' i'=>by
   have e':=i' _ _ _ aM
   refine⟨⟨p+n,by omega,by rw[aa];exact B',e',aC,au.trans k' (Ac _)⟩,?_⟩
   rw[e',eg]
   show t.length-(p+n)<t.length-p
   omega
  have bC:(34::zay (t.take p)).length=(zay (t.take p)).length+1:=rfl
  unfold zx9 at fin
  refine z7f am ⟨_,rfl,λhx=>?_,λhx=>?_⟩
  ·have h0:zq1 r≠0:=by intro e;rw[e]at hx;simp at hx
   rw[if_pos h0]at fin
   have aG:zq1 r<256:=by
    unfold zq1
    repeat' split
    all_goals omega
   have e8:((A4 (zq1 r)).toNat:Int)=(zq1 r:Int):=by rw[UInt8.toNat_ofNat'];omega
   refine Wu ai (by omega) 92 λbr aZ a6 aQ=>⟨_,rfl,?_⟩
   rw[<-e8]
   refine Wu aZ (by simp;omega) (A4 (zq1 r)) λa8 aE aS bg=>⟨_,rfl,?_⟩
   refine fin a8 ?_ (a6.trans aS (Ac _)) (aQ.trans bg)
   rw[AM]at aE;exact aE
  ·have h0:zq1 r=0:=by
    have:((zq1 r:Int) != 0)=false:=hx
    simpa using this
   rw[if_neg (by rw[h0];exact λh=>h rfl)]at fin
   refine⟨λab=>?_,λZ=>?_⟩
   ·have ab:32<=r:=by have:=of_decide_eq_true ab;omega
    rw[if_pos ab]at fin
    refine zik ai (by omega) (by omega) (by omega) λaO m bm aH aN=>⟨_,_,rfl,?_⟩
    exact fin aO bm aH aN
   ·have Z:r<32:=by have:=of_decide_eq_false Z;omega
    rw[if_neg (by omega)]at fin
    obtain⟨bj,bq⟩:=z7g Z
    rw[w64 (by omega)]
    have aA:Keep h.size h h14:=⟨by have:=au.size;have:=ar.size;omega,λj hj=>by rw[au.get j (by omega),ar.get j hj]⟩
    have an:AgM M h14:=ag.keep aA
    refine zs7 Z hb an λbz af=>⟨_,rfl,?_⟩
    have bn:(zaz r).length<=4:=by omega
    rw[ze,w64 (by omega),show(4:Int)-((zaz r).length:Int)=((4-(zaz r).length:Nat):Int)from by omega]
    refine(zh1 (gl:=gl) (s:=bl [48]) (c:=4-(zaz r).length) (by omega) (by rw[ze];simp;omega) (R:=λx=>x=bl (Lib.repeatL [48] (4-(zaz r).length))) (by rw[yp])).go hM (an.keep af) (yj (a:=Arg.mk .str _) (rdStr _) (yj (a:=Arg.mk (.int .i64) _) (Jf _ _) jy)) λv aJ bB x ap hv hx=>?_
    subst hx
    have hv:=Ql (zdo.1 hv)
    have ba:=Lib.repeatL_length [48] (4-(zaz r).length)
    have hz:(Lib.repeatL [48] (4-(zaz r).length)).length<=4:=by rw[ba];simp
    refine⟨_,hv,?_,?_,?_⟩
    ·show Zw ((bl [92,117]).size+(bl (Lib.repeatL [48] (4-(zaz r).length))).size)
     unfold Zw
     rw[ze,ze];simp only[Ap,AZ];omega
    ·show Zw ((bl [92,117]++bl (Lib.repeatL [48] (4-(zaz r).length))).size+(bl (zaz r)).size)
     unfold Zw
     rw[xp,ze,ze,Ag];simp only[Ap,AZ];omega
    ·have e:((⟨#[92,117]⟩:Bt)++bl (Lib.repeatL [48] (4-(zaz r).length)))++bl (zaz r)=bl ([92,117]++Lib.repeatL [48] (4-(zaz r).length)++zaz r):=by
      show(bl [92,117]++bl (Lib.repeatL [48] (4-(zaz r).length)))++bl (zaz r)=_
      rw[xp,xp]
     rw[e,bj]
     have bA:=af.size
     have aP:=(ai.keep af).keep ap.keep
     have aI:Itk h14 aJ:=(Itk.keep af).trans (Itk.keep ap.keep)
     have bo:=ai.lt
     refine zm7 aP _ (by simp only[Ap,AZ];omega) λbe bi aV aU=>⟨_,_,rfl,?_⟩
     exact fin be bi (((af.mono (m:=h2.size) (by omega)).trans (ap.keep.mono (m:=h2.size) (by omega)) (Ac _)).trans aV (Ac _)) (aI.trans aU)
 ·rw[ze]at ab
  have aT:p=t.length:=by omega
  subst aT
  rw[AW]at Bg
  refine Wu Bg (by rw[AW]at a7;simp;omega) 34 λbE aY az bu=>⟨_,rfl,?_⟩
  refine zu0 aY λbh ax=>⟨_,rfl,?_⟩
  refine hK bh ⟨?_,λj hj=>?_⟩
  ·have:=kg.size;have:=az.size;have:=ax.size;omega
  ·rw[ax.get j (by omega),az.get j (by omega),kg.get j (by omega),ar.get j hj]
end
end Go.X
end
section
namespace Go.X
open Go Go.Lib
section
def yv(ln:Bool)(nd lv:Nat):Bs:=if ln then 10::C8 (nd*lv) 32 else []
def Zc(ln:Bool)(nd lv:Nat):List Bs->Bs
 |[]=>[]
 |p::ps=>yv ln nd lv++p++ps.flatMap λq=>44::(yv ln nd lv++q)
def Xi(ln:Bool)(nd lv:Nat)(ps:List Bs):Bs:=Zc ln nd (lv+1) ps++(if ps=[]then []else yv ln nd lv)
def ze9(ln:Bool)(k:Bt)(p:Bs):Bs:=(zp8 (lb k)).1++58::((if ln then [32]else [])++p)
mutual
def jo(ln:Bool)(nd:Nat):Tr->Nat->Bs
 |.mk k s ks xs,lv=>if k=1 then [110,117,108,108]else if k=4 then(zp8 (lb s)).1 else if k=5 then 91::Xi ln nd lv (qfb ln nd xs (lv+1))++[93]
  else if k=6 then 123::Xi ln nd lv (List.zipWith (ze9 ln) ks (qfb ln nd xs (lv+1)))++[125]else lb s
def qfb(ln:Bool)(nd:Nat):List Tr->Nat->List Bs
 |[],_=>[]
 |x::l,lv=>jo ln nd x lv::qfb ln nd l lv
end
theorem zvm(ln:Bool)(nd:Nat)(lv:Nat):∀l:List Tr,qfb ln nd l lv=l.map λx=>jo ln nd x lv
 |[]=>rfl
 |x::l=>by rw[qfb,zvm ln nd lv l];rfl
theorem zcv(ln:Bool)(nd:Nat)(v:Tr)(lv:Nat):jo ln nd v lv=if v.kind=1 then [110,117,108,108]else if v.kind=4 then(zp8 (lb v.text)).1 else if v.kind=5 then 91::Xi ln nd lv (v.items.map λx=>jo ln nd x (lv+1))++[93]
  else if v.kind=6 then 123::Xi ln nd lv (List.zipWith (ze9 ln) v.keys (v.items.map λx=>jo ln nd x (lv+1)))++[125]else lb v.text:=by
 cases v with
 |mk k s ks xs=>rw[jo,zvm]
theorem zx0(ln:Bool)(nd lv:Nat)(ps:List Bs)(p:Bs):Zc ln nd lv (ps++[p])=Zc ln nd lv ps++((if ps=[]then []else [44])++(yv ln nd lv++p)):=by
 cases ps with
 |nil=>simp[Zc]
 |cons q qs=>
  rw[AE,Zc,Zc,List.flatMap_append,if_neg (by simp)]
  simp[AM]
theorem zlm(ln:Bool)(nd lv:Nat){ps:List Bs}{n:Nat}(h:n<ps.length):Zc ln nd lv (ps.take (n+1))=Zc ln nd lv (ps.take n)++((if n=0 then []else [44])++(yv ln nd lv++ps[n])):=by
 rw[Av h,zx0]
 congr 2
 by_cases h0:n=0
 ·subst h0;rfl
 ·rw[if_neg h0,if_neg (by
   intro e
   rw[List.take_eq_nil_iff]at e
   rcases e with e|e
   ·exact h0 e
   ·rw[e]at h;simp at h)]
theorem zvn(ln:Bool)(nd lv:Nat){ps:List Bs}:∀{n:Nat},n<=ps.length->(Zc ln nd lv (ps.take n)).length<=(Zc ln nd lv ps).length:=by
 have step:∀k n,n+k=ps.length->(Zc ln nd lv (ps.take n)).length<=(Zc ln nd lv ps).length:=by
  intro k
  induction k with
  |zero=>intro n h;rw[CW]at h;subst h;rw[AW];exact Ac _
  |succ k ih=>
   intro n h
   have h1:=ih (n+1) (by omega)
   rw[zlm ln nd lv (by omega),Ag]at h1
   omega
 intro n h
 exact step (ps.length-n) n (by omega)
theorem qfc:∀n:Nat,repeatL [32] n=C8 n 32
 |0=>rfl
 |n+1=>by rw[show repeatL [32] (n+1)=[32]++repeatL [32] n from rfl,qfc n];rfl
theorem z3a:∀{l:List Tr} {y:Tr},y∈l->tdp y<=X6 l
 |x::l,y,h=>by
  rw[X6]
  rcases Af.1 h with rfl|h
  ·omega
  ·have:=z3a h;omega
theorem znp{v x:Tr}(h:x∈v.items):tdp x<tdp v:=by
 have:=z3a h
 rw[zpu v];omega
end
end Go.X
end
section
namespace Go.X
open Go Go.X Go.Proofs Go.RowKit
section
variable {b:Nat} {g g':za} {K:Value -> za -> Prop}
structure FrP (b:Nat) (g g':za):Prop where
 keep:Keep b g g'
 oth:Otk g g'
theorem FrP.refl(b:Nat)(g:za):FrP b g g:=⟨Keep.refl _ _,λi o e _=>e⟩
theorem FrP.trans{g g' Z:za}(h:FrP b g g')(k:FrP b g' Z):FrP b g Z:=⟨h.keep.trans k.keep (Ac _),h.oth.trans k.oth⟩
theorem FrP.ofKeep(k:Keep g.size g g')(hb:b<=g.size):FrP b g g':=⟨k.mono hb,Otk.keep k⟩
theorem FrP.blk(h:FrP b g g'){c:Nat}{cs:Array Value}(e:g[c]?=some (.cells cs 26 (0,0))):g'[c]?=some (.cells cs 26 (0,0)):=h.oth c _ e rfl
structure Low (gl M:Fr) (b:Nat) (g:za):Prop where
 hM:Fr.le gl M
 ag:AgM M g
 low:∀c cs,M c=some cs->c<b
theorem Low.frp{gl M:Fr}(L:Low gl M b g)(f:FrP b g g'):Low gl M b g':=⟨L.hM,λc cs e=>by
  rw[f.keep.get c (L.low c cs e)];exact L.ag c cs e,L.low⟩
theorem add0(b:Nat):Ai ⟨b,0,none⟩ 0=⟨b,0,none⟩:=rfl
section
variable {gl M : Fr} {b N : Nat} {ln : Bool} {l : Bs} {g : za}
theorem z7h(hg:GL gl)(hb:Brn gl)(H:Prn g b ln (N:Int) l)(L:Low gl M b g){t:Bs}(ht:t.length<=1048576)(hl:l.length+(zp8 t).1.length<=140737488355328)(hK:∀g',Prn g' b ln (N:Int) (l++(zp8 t).1)->FrP b g g'->K (.tuple #[]) g'):
  XC Tp 168 #[.pointer (some ⟨b,0,none⟩),.string (bl t)] g K:=by
 apply Ww
 refine qcj hg ht L.hM (hb.mono L.hM) L.ag λh' k=>⟨_,_,rfl,_,rfl,?_⟩
 rw[add0]
 have f:=FrP.ofKeep k (DW H.lt)
 refine Yx (H.keep k) _ hl λh7 H7 k7 o7=>⟨_,_,rfl,hK h7 H7 (f.trans ⟨k7,o7⟩)⟩
theorem zvo(hg:GL gl)(hb:Brn gl)(H:Prn g b ln (N:Int) l)(L:Low gl M b g){s:Bt}(ht:(lb s).length<=1048576)(hl:l.length+(zp8 (lb s)).1.length<=140737488355328)(hK:∀g',Prn g' b ln (N:Int) (l++(zp8 (lb s)).1)->FrP b g g'->K (.tuple #[]) g'):
  XC Tp 168 #[.pointer (some ⟨b,0,none⟩),.string s] g K:=by
 have:=z7h hg hb H L (t:=lb s) ht hl hK
 rw[Y0]at this;exact this
theorem z9h(H:Prn g b ln (N:Int) l)(L:Low gl M b g){lv:Nat}(hN:N<=8)(hv:lv<=100)(hl:l.length+(yv ln N lv).length<=140737488355328)(hK:∀g',Prn g' b ln (N:Int) (l++yv ln N lv)->FrP b g g'->K (.tuple #[]) g'):
  XC Tp 235 #[.pointer (some ⟨b,0,none⟩),.int .i64 (lv:Int)] g K:=by
 apply zae
 obtain⟨p,s,e,hp,ho⟩:=H
 refine⟨_,rfl,ln,Blk.cellAdd (o:=0) (k:=2) (cs:=#[.pointer p,slV s,.bool ln,.int .i64 (N:Int)]) ⟨_,e⟩ rfl,λZ=>?_,λZ=>?_⟩
 ·subst Z
  unfold yv at hl hK
  simp only[if_true,Ap,Da]at hl hK
  refine⟨_,rfl,?_⟩
  rw[add0]
  refine Qv (b:=b) (nd:=(N:Int)) ⟨p,s,e,hp,ho⟩ (by omega) 10 λh5 H5 k5 o5=>⟨_,rfl,_,rfl,_,rfl,?_⟩
  have ae:=H5
  obtain⟨p5,s5,e5,an,ar⟩:=ae
  have f5:FrP b g h5:=⟨k5,o5⟩
  have L5:=L.frp f5
  have ak:N*lv<=800:=CV (Nat.mul_le_mul hN hv) (by omega)
  refine⟨(N:Int),Blk.cellAdd (o:=0) (k:=3) (cs:=#[.pointer p5,slV s5,.bool true,.int .i64 (N:Int)]) ⟨_,e5⟩ rfl,?_⟩
  rw[show((N:Int)*(lv:Int))=((N*lv:Nat):Int)from by rw[Int.natCast_mul],w64 (by omega)]
  refine(zh1 (gl:=gl) (s:=bl [32]) (c:=N*lv) (by omega) (by rw[ze];simp;omega) (R:=λx=>x=bl (C8 (N*lv) 32)) (by rw[yp,qfc])).go L5.hM L5.ag (yj (a:=Arg.mk .str _) (rdStr _) (yj (a:=Arg.mk (.int .i64) _) (Jf _ _) jy)) λv am ap x ab hv hx=>?_
  subst hx
  refine⟨_,Ql (zdo.1 hv),?_⟩
  have ah:=FrP.ofKeep ab.keep (DW H5.lt)
  rw[add0]
  refine Yx (H5.keep ab.keep) _ (by simp only[Ag,Ap,AZ,Da];omega) λaf aa ai aj=>⟨_,_,rfl,?_⟩
  refine hK af ?_ ((f5.trans ah).trans ⟨ai,aj⟩)
  rw[AM]at aa;exact aa
 ·subst Z
  refine hK g ?_ (FrP.refl _ _)
  have:l++yv false N lv=l:=by unfold yv;simp
  rw[this];exact⟨p,s,e,hp,ho⟩
end
end
section
variable {v:Tr} {sk si:Sl} {lv i:Nat}
section
variable {gl M : Fr} {b N : Nat} {ln : Bool}
def z9i(gl M:Fr)(b N:Nat)(ln:Bool)(F:FuncId)(args:Array Value)(p:Bs):Prop:=
 ∀(l:Bs) (g:za) (K:Value->za->Prop),Prn g b ln (N:Int) l->Low gl M b g->l.length+p.length<=140737488355328->(∀g',Prn g' b ln (N:Int) (l++p)->FrP b g g'->K (.tuple #[]) g')->XC Tp F args g K
set_option maxRecDepth 100000 in
set_option maxHeartbeats 4000000 in
theorem z3b{F:FuncId}(hF:zj Tp F=true)(hi:Rd M (.row .tree) v.items [slV si])(hN:N<=8)(hv:lv<=90){o c:UInt8}{ps:List Bs}(ar:ps.length=v.items.length)(ax:v.items.length<=1000000)
  (hE:∀(i:Nat) (h:i<ps.length),z9i gl M b N ln F (#[.pointer (some ⟨b,0,none⟩)]++#[trV v.kind v.text sk si,.int .i64 (i:Int),.int .i64 ((lv+1:Nat):Int)]++#[]) ps[i]):
  z9i gl M b N ln 169 #[.pointer (some ⟨b,0,none⟩),trV v.kind v.text sk si,.int .i64 (lv:Int),.string (bl [o,c]),.func (.func F) #[.pointer (some ⟨b,0,none⟩)] #[]] (o::Xi ln N lv ps++[c]):=by
 intro l g K H L hl hK
 have aA:=(rowLen hi).1
 have au:=H.lt
 have e1:(o::Xi ln N lv ps++[c]).length=2+(Zc ln N (lv+1) ps).length+(if ps=[]then []else yv ln N lv:Bs).length:=by
  unfold Xi;simp only[Ap,Ag,AZ];omega
 rw[e1]at hl
 apply Xh
 intro h1
 have k1:Keep g.size g h1:=Keep.push _ _ (Ac _)
 have B1:h1[g.size]?=some (.cells #[.int .i64 v.kind,.string v.text,slV sk,slV si] 26 (0,0)):=yb _ _
 clear_value h1
 have f1:=FrP.ofKeep k1 (DW au)
 have H1:=H.keep k1
 refine⟨_,rfl,⟨by decide,by rw[ze];simp⟩,?_⟩
 rw[add0]
 have eo:zb (bl [o,c]) (0:Int).toNat=(o.toNat:Int):=by rw[yr];rfl
 have ec:zb (bl [o,c]) (1:Int).toNat=(c.toNat:Int):=by rw[yr];rfl
 rw[eo]
 refine Qv H1 (by omega) o λh4 H4 k4 o4=>⟨_,rfl,?_⟩
 have f4:FrP b g h4:=f1.trans ⟨k4,o4⟩
 have box:∀g',FrP b h4 g'->Blk g' g.size #[.int .i64 v.kind,.string v.text,slV sk,slV si]:=λg' f=>⟨_,f.blk ((⟨k4,o4⟩:FrP b h1 h4).blk B1)⟩
 refine⟨si,Blk.cellAdd (o:=0) (k:=3) (box h4 (FrP.refl _ _)) rfl,?_⟩
 refine⟨λi g'=>∃n:Nat,i=(n:Int)/\n<=ps.length/\Prn g' b ln (N:Int) (l++[o]++Zc ln N (lv+1) (ps.take n))/\FrP b h4 g',λi _=>ps.length-i.toNat,⟨0,rfl,by omega,by simpa[Zc]using H4,FrP.refl _ _⟩,?_⟩
 rintro i g' ⟨n,rfl,hn,H',f'⟩
 have an:=f4.trans f'
 have L':=L.frp an
 have ay:=zvn ln N (lv+1) hn
 have ab:(l++[o]++Zc ln N (lv+1) (ps.take n)).length=l.length+1+(Zc ln N (lv+1) (ps.take n)).length:=by rw[Ag,Ag];rfl
 refine⟨λae=>?_,λah=>?_⟩
 ·have ae:n<ps.length:=by have:=of_decide_eq_true ae;omega
  have af:=zvn ln N (lv+1) (ps:=ps) (n:=n+1) ae
  have aj:=zlm ln N (lv+1) ae
  rw[aj]at af
  simp only[Ag]at af
  intro am ak
  have aa:∀g2,Prn g2 b ln (N:Int) (l++[o]++Zc ln N (lv+1) (ps.take n)++(if n=0 then []else [44]))->FrP b h4 g2->am g2:=λg2 H2 f2=>ak _ (by
   have L2:=L.frp (f4.trans f2)
   rw[w64 (by omega),show(lv:Int)+1=((lv+1:Nat):Int)from by omega]
   refine z9h H2 L2 hN (by omega) (by rw[Ag,ab];omega) λg3 H3 f3=>⟨rfl,v.kind,v.text,sk,si,(box g3 (f2.trans f3)).ld (cs:=[_,_,slV sk,slV si]),hF,?_⟩
   refine hE n ae _ _ _ H3 (L2.frp f3) (by rw[Ag,Ag,ab];omega) λg5 H5 f5=>⟨rfl,⟨n+1,by rw[w64 (by omega)];omega,ae,?_,f2.trans (f3.trans f5)⟩,?_⟩
   ·rw[aj]
    simpa[AM]using H5
   ·show ps.length-(Aa .i64 ((n:Int)+1)).toNat<ps.length-(n:Int).toNat
    rw[w64 (by omega)];omega)
  refine⟨λZ=>?_,λZ=>?_⟩
  ·have h0:n≠0:=by have:=of_decide_eq_true Z;omega
   refine⟨_,rfl,?_⟩
   rw[add0]
   refine Qv H' (by rw[ab];rw[if_neg h0]at af;simp only[Ap,AZ]at af;omega) 44 λg2 H2 k2 o2=>⟨_,rfl,aa g2 ?_ (f'.trans ⟨k2,o2⟩)⟩
   rw[if_neg h0];exact H2
  ·have h0:n=0:=by have:=of_decide_eq_false Z;omega
   refine aa g' ?_ f'
   rw[if_pos h0,A3];exact H'
 ·have ah:n=ps.length:=by have:=of_decide_eq_false ah;omega
  subst ah
  rw[AW]at H' ab
  intro ap ai
  have aa:∀g2,Prn g2 b ln (N:Int) (l++[o]++Zc ln N (lv+1) ps++(if ps=[]then []else yv ln N lv))->FrP b h4 g2->ap g2:=λg2 H2 f2=>ai _ (by
   refine⟨_,rfl,⟨by decide,by rw[ze];simp⟩,?_⟩
   rw[add0,ec]
   refine Qv H2 (by rw[Ag,ab];omega) c λg3 H3 k3 o3=>⟨_,rfl,hK g3 ?_ (f4.trans (f2.trans ⟨k3,o3⟩))⟩
   unfold Xi
   simpa[AM]using H3)
  refine⟨si,Blk.cellAdd (o:=0) (k:=3) (box g' f') rfl,λZ=>?_,λZ=>?_⟩
  ·have h0:ps≠[]:=λe=>by
    have:=of_decide_eq_true Z
    have az:v.items.length=0:=by rw[<-ar,e];rfl
    omega
   rw[if_neg h0]at hl
   refine z9h H' L' hN (by omega) (by rw[ab];omega) λg2 H2 f2=>⟨rfl,aa g2 ?_ (f'.trans f2)⟩
   rw[if_neg h0];exact H2
  ·have h0:ps=[]:=by
    have:=of_decide_eq_false Z
    apply AO;omega
   refine aa g' ?_ f'
   rw[if_pos h0,A3];exact H'
theorem z7i:zj Tp 170=true:=by kernel_rfl
theorem zx1:zj Tp 171=true:=by kernel_rfl
set_option maxRecDepth 100000 in
theorem qfd(hi:Rd M (.row .tree) v.items [slV si])(h:i<v.items.length){p:Bs}(hE:∀(aa Z:Sl),Rd M (.row .str) v.items[i].keys [slV aa]->Rd M (.row .tree) v.items[i].items [slV Z]->z9i gl M b N ln 97 #[.pointer (some ⟨b,0,none⟩),trV v.items[i].kind v.items[i].text aa Z,.int .i64 (lv:Int)] p):
  z9i gl M b N ln 170 #[.pointer (some ⟨b,0,none⟩),trV v.kind v.text sk si,.int .i64 (i:Int),.int .i64 (lv:Int)] p:=by
 intro l g K H L hl hK
 have ab:=(rowLen hi).1
 apply zad
 intro h1
 have k1:Keep g.size g h1:=Keep.push _ _ (Ac _)
 have B1:Blk h1 g.size #[.int .i64 v.kind,.string v.text,slV sk,slV si]:=Blk.new _ _ _
 clear_value h1
 have f1:=FrP.ofKeep k1 (DW H.lt)
 have L1:=L.frp f1
 obtain⟨a,aa,Z,e1,e2,e3,e4⟩:=zpg L1.ag hi h
 refine⟨si,Blk.cellAdd (o:=0) (k:=3) B1 rfl,a,⟨e1,by omega,by omega⟩,_,_,aa,Z,by rw[Al];exact e2,?_⟩
 exact hE aa Z e3 e4 l h1 _ (H.keep k1) L1 hl λg' H' f'=>⟨rfl,hK g' H' (f1.trans f')⟩
set_option maxRecDepth 100000 in
theorem z7j(hg:GL gl)(hb:Brn gl)(hk:Rd M (.row .str) v.keys [slV sk])(hi:Rd M (.row .tree) v.items [slV si])(h:i<v.items.length)(h2:i<v.keys.length)(ak:(lb v.keys[i]).length<=1048576){p:Bs}(hE:∀(aa Z:Sl),Rd M (.row .str) v.items[i].keys [slV aa]->Rd M (.row .tree) v.items[i].items [slV Z]->z9i gl M b N ln 97 #[.pointer (some ⟨b,0,none⟩),trV v.items[i].kind v.items[i].text aa Z,.int .i64 (lv:Int)] p):
  z9i gl M b N ln 171 #[.pointer (some ⟨b,0,none⟩),trV v.kind v.text sk si,.int .i64 (i:Int),.int .i64 (lv:Int)] (ze9 ln v.keys[i] p):=by
 intro l g K H L hl hK
 unfold ze9 at hl hK
 simp only[Ag,Ap]at hl
 have ar:=(rowLen hi).1
 have ap:=(rowLen hk).1
 apply Wx
 intro h1
 have k1:Keep g.size g h1:=Keep.push _ _ (Ac _)
 have B1:h1[g.size]?=some (.cells #[.int .i64 v.kind,.string v.text,slV sk,slV si] 26 (0,0)):=yb _ _
 clear_value h1
 have f1:=FrP.ofKeep k1 (DW H.lt)
 have L1:=L.frp f1
 obtain⟨a,am,x,ai,aj⟩:=zz3 L1.ag hk h2 (i:=(i:Int)) rfl (L:=sk.len) rfl (Q:=λx=>x=v.keys[i]) rfl
 subst aj
 refine⟨sk,Blk.cellAdd (o:=0) (k:=2) ⟨_,B1⟩ rfl,a,am,v.keys[i],ai,?_⟩
 refine zvo hg hb (H.keep k1) L1 ak (by omega) λh6 H6 f6=>⟨rfl,_,rfl,?_⟩
 rw[add0]
 refine Qv H6 (by simp only[Ag];omega) 58 λh9 H9 k9 o9=>⟨_,rfl,?_⟩
 have f9:FrP b h1 h9:=f6.trans ⟨k9,o9⟩
 intro ah af
 have ab:∀g2,Prn g2 b ln (N:Int) (l++(zp8 (lb v.keys[i])).1++[58]++(if ln then [32]else []))->FrP b h1 g2->ah g2:=λg2 H2 f2=>af _ (by
  have L2:=L1.frp f2
  obtain⟨a',aa,Z,e1,e2,e3,e4⟩:=zpg L2.ag hi h
  refine⟨si,Blk.cellAdd (o:=0) (k:=3) ⟨_,f2.blk B1⟩ rfl,a',⟨e1,by omega,by omega⟩,_,_,aa,Z,by rw[Al];exact e2,?_⟩
  refine hE aa Z e3 e4 _ g2 _ H2 L2 (by simp only[Ag,Ap,AZ];omega) λg' H' f'=>⟨rfl,hK g' ?_ (f1.trans (f2.trans f'))⟩
  simpa[AM]using H')
 have an:=H9
 obtain⟨p9,s9,e9,ax,au⟩:=an
 refine⟨_,rfl,ln,Blk.cellAdd (o:=0) (k:=2) (cs:=#[.pointer p9,slV s9,.bool ln,.int .i64 (N:Int)]) ⟨_,e9⟩ rfl,λae=>?_,λae=>?_⟩
 ·subst ae
  refine⟨_,rfl,?_⟩
  rw[add0]
  refine Qv H9 (by simp only[if_true,Ap,AZ]at hl;simp only[Ag,Ap,AZ];omega) 32 λg2 H2 k2 o2=>⟨_,rfl,ab g2 H2 (f9.trans ⟨k2,o2⟩)⟩
 ·subst ae
  refine ab h9 ?_ f9
  simpa using H9
end
end
section
section
variable {gl M : Fr} {b N : Nat} {ln : Bool}
theorem zq2{g:za}{l:Bs}(H:Prn g b ln (N:Int) l)(s:Bt)(hl:l.length+(lb s).length<=140737488355328){K:Value->za->Prop}(hK:∀g',Prn g' b ln (N:Int) (l++lb s)->Keep b g g'->Otk g g'->K (.tuple #[.int .i64 ((lb s).length:Int),.nilIface]) g'):
  XC Tp 85 #[.pointer (some ⟨b,0,none⟩),.string s] g K:=by
 have:=Yx H (lb s) hl hK
 rw[Y0]at this;exact this
set_option maxRecDepth 100000 in
set_option maxHeartbeats 2000000 in
theorem z9j(hg:GL gl)(hb:Brn gl)(hN:N<=8):∀(n:Nat) (v:Tr) (lv:Nat) (sk si:Sl),n<=1000000->tsz v<=n->zb9 qe v=true->Sm v->lv+tdp v<=90->Rd M (.row .str) v.keys [slV sk]->Rd M (.row .tree) v.items [slV si] ->
  z9i gl M b N ln 97 #[.pointer (some ⟨b,0,none⟩),trV v.kind v.text sk si,.int .i64 (lv:Int)] (jo ln N v lv)
 |0,v,lv,sk,si,_,h,_,_,_,_,_=>by have:=zcb v;omega
 |n+1,v,lv,sk,si,hn,hz,hok,hsm,hd,hk,hi=>by
  intro l g K H L hl hK
  have Z:=hok
  rw[xt,As]at Z
  have ae:∀(i:Nat) (h:i<v.items.length) (ab aa:Sl),Rd M (.row .str) v.items[i].keys [slV ab]->Rd M (.row .tree) v.items[i].items [slV aa]->z9i gl M b N ln 97 #[.pointer (some ⟨b,0,none⟩),trV v.items[i].kind v.items[i].text ab aa,.int .i64 ((lv+1:Nat):Int)] (jo ln N v.items[i] (lv+1)):=λi h ab aa h1 h2=>by
   have hm:=AN h
   have hs:=wv hm
   have ai:=znp hm
   have af:zb9 qe v.items[i]=true:=by
    rw[xu,AD]at Z
    exact Z.2 _ hm
   exact z9j hg hb hN n v.items[i] (lv+1) ab aa (by omega) (by omega) af (hsm.item hm) (by omega) h1 h2
  have ah:v.items.length<=1000000:=by have:=zax v.items;rw[Z2]at hz;omega
  rw[zcv]at hl hK
  apply Xg
  intro h1
  have k1:Keep g.size g h1:=Keep.push _ _ (Ac _)
  have B1:Blk h1 g.size #[.int .i64 v.kind,.string v.text,slV sk,slV si]:=Blk.new _ _ _
  clear_value h1
  have f1:=FrP.ofKeep k1 (DW H.lt)
  have H1:=H.keep k1
  have L1:=L.frp f1
  refine⟨v.kind,Blk.cellAdd (o:=0) (k:=0) B1 rfl,λq1=>?_,λq1=>⟨λq4=>?_,λq4=>⟨λq5=>?_,λq5=>⟨λq6=>?_,λq6=>?_⟩⟩⟩⟩
  ·have q1:v.kind=1:=eq_of_beq q1
   rw[if_pos q1]at hl hK
   refine⟨_,rfl,?_⟩
   rw[add0]
   exact Yx H1 [110,117,108,108] hl λg' H' k' o'=>⟨_,_,rfl,hK g' H' (f1.trans ⟨k',o'⟩)⟩
  ·have n1:v.kind≠1:=λe=>by rw[e]at q1;cases q1
   have q4:v.kind=4:=eq_of_beq q4
   rw[if_neg n1,if_pos q4]at hl hK
   exact⟨v.text,Blk.cellAdd (o:=0) (k:=1) B1 rfl,zvo hg hb H1 L1 hsm.text hl λg' H' f'=>⟨rfl,hK g' H' (f1.trans f')⟩⟩
  ·have n1:v.kind≠1:=λe=>by rw[e]at q1;cases q1
   have n4:v.kind≠4:=λe=>by rw[e]at q4;cases q4
   have q5:v.kind=5:=eq_of_beq q5
   rw[if_neg n1,if_neg n4,if_pos q5]at hl hK
   refine⟨v.kind,v.text,sk,si,B1.ld (cs:=[_,_,slV sk,slV si]),?_⟩
   refine z3b (o:=91) (c:=93) (ps:=v.items.map λx=>jo ln N x (lv+1)) z7i hi hN (by omega) (AH _) ah (λi h=>?_) l h1 _ H1 L1 hl λg' H' f'=>⟨rfl,hK g' H' (f1.trans f')⟩
   rw[AH]at h
   rw[DR]
   exact qfd hi h λab aa a1 a2=>ae i h ab aa a1 a2
  ·have n1:v.kind≠1:=λe=>by rw[e]at q1;cases q1
   have n4:v.kind≠4:=λe=>by rw[e]at q4;cases q4
   have n5:v.kind≠5:=λe=>by rw[e]at q5;cases q5
   have q6:v.kind=6:=eq_of_beq q6
   rw[if_neg n1,if_neg n4,if_neg n5,if_pos q6]at hl hK
   have aj:v.keys.length=v.items.length:=by
    have:=Z.1
    unfold qe at this
    simp[q6]at this
    exact this.1.2
   refine⟨v.kind,v.text,sk,si,B1.ld (cs:=[_,_,slV sk,slV si]),?_⟩
   refine z3b (o:=123) (c:=125) (ps:=List.zipWith (ze9 ln) v.keys (v.items.map λx=>jo ln N x (lv+1))) zx1 hi hN (by omega) (by rw[List.length_zipWith,AH];omega) ah (λi h=>?_) l h1 _ H1 L1 hl λg' H' f'=>⟨rfl,hK g' H' (f1.trans f')⟩
   rw[List.length_zipWith,AH]at h
   rw[List.getElem_zipWith,DR]
   exact z7j hg hb hk hi (by omega) (by omega) (hsm.key (AN _)) λab aa a1 a2=>ae i (by omega) ab aa a1 a2
  ·have n1:v.kind≠1:=λe=>by rw[e]at q1;cases q1
   have n4:v.kind≠4:=λe=>by rw[e]at q4;cases q4
   have n5:v.kind≠5:=λe=>by rw[e]at q5;cases q5
   have n6:v.kind≠6:=λe=>by rw[e]at q6;cases q6
   rw[if_neg n1,if_neg n4,if_neg n5,if_neg n6]at hl hK
   refine⟨_,rfl,v.text,Blk.cellAdd (o:=0) (k:=1) B1 rfl,?_⟩
   rw[add0]
   exact zq2 H1 v.text hl λg' H' k' o'=>⟨_,_,rfl,hK g' H' (f1.trans ⟨k',o'⟩)⟩
end
end
end Go.X
end
section
namespace Go.X
section
theorem zf6(gl:Fr)(v0:Tr)(R:Bool->Prop)
  (H:∃a:Bool->Prop,((v0.kind != 7)=true->PC Tp gl 96 [Arg.mk .tree (Tr.mk v0.kind v0.text v0.keys v0.items)] [.bool] a)/\∀b:Bool,((v0.kind != 7)=true->a b)->R (bif (v0.kind != 7)then b else false)):
  PC Tp gl 95 [Arg.mk .tree v0] [.bool] R:=
 PF ⟨[],[],[],[]⟩ [.tmp 2] 10 Tryz.func95 H
end
section
variable {gl:Fr} {v:Tr} {R:Bool -> Prop}
theorem z3c(hg:GL gl)(hv:Sm v)(h:R (decide (v.kind≠7)&&qe v)):PC Tp gl 95 [Arg.mk .tree v] [.bool] R:=by
 apply zf6
 simp only[W7]
 refine⟨λb=>b=qe v,λ_=>z0v hg hv rfl,λb hb=>?_⟩
 cases hk:(v.kind != 7)with
 |false=>
  have e:v.kind=7:=by simpa using hk
  have:(decide (v.kind≠7)&&qe v)=false:=by simp[e]
  rw[this]at h
  simpa[hk]using h
 |true=>
  have e:v.kind≠7:=by simpa using hk
  have hb:=hb hk
  subst hb
  have:(decide (v.kind≠7)&&qe v)=qe v:=by simp[e]
  rw[this]at h
  simpa[hk]using h
theorem zi0(hg:GL gl)(hv:Sm v)(hR:R (ye v)):PC Tp gl 33 [Arg.mk .tree v] [.bool] R:=by
 intro h M vs hM ag ha
 match vs,ha with
 |[u],⟨hu,_⟩=>
  have hu:RdV M .tree v u:=hu
  have ah:=hu
  obtain⟨sk,si,rfl,rk,ri⟩:=wn hu
  apply PX.of
  apply zj2 v.kind v.text sk si
  intro h1
  have L1:Later h M h1 M:=Later.push ag _
  have s1:h1.size=h.size+1:=Am _
  have aa:∀h':za,Keep h1.size h1 h'->zd h' ⟨h.size,0,none⟩ 0 [.int .i64 v.kind,.string v.text,slV sk,slV si]:=λh' k=>zw7 (h':=h') (by rw[s1]at k;exact k)
  clear_value h1
  refine⟨v.kind,v.text,sk,si,aa h1 (Keep.refl _ _),?_⟩
  have ai:PC Tp gl 93 [Arg.mk .tree v] [.bool] (λr=>r=Q9 v):=zuu hv rfl
  refine ai.go (vs:=[.agg #[.int .i64 v.kind,.string v.text,slV sk,slV si]]) (hM.trans L1.le) L1.ag (yj (RdV.mono L1.le ah) jy) λw h2 M2 r L2 af hr=>?_
  refine⟨r,zn1 af,v.kind,v.text,sk,si,λ_=>aa h2 L2.keep,?_⟩
  have Z:=L1.trans L2
  refine⟨λw h4=>∃b,w=.bool b/\(r=true->b=zb9 (λx=>decide (x.kind≠7)&&qe x) v)/\∃M4,Later h M h4 M4,λak=>?_,λae=>⟨true,true,rfl,λe=>(by rw[e]at ae;cases ae),M2,Z⟩,λ_ w h4 ⟨b,e,_⟩=>⟨b,e⟩,?_⟩
  ·refine(zuv (F:=95) (by kernel_rfl) (p:=λx=>decide (x.kind≠7)&&qe x) (λx hx=>z3c hg hx rfl) v hv (hM.trans Z.le) L2.ag (RdV.mono Z.le ah)).go λw h3 M3 b L3 ab aj=>⟨b,zn1 ab,b,rfl,λ_=>aj,M3,Z.trans L3⟩
  ·rintro b h4 ⟨b',e,hb,M4,L4⟩
   cases e
   refine⟨M4,_,L4,zdo.2 (rdBool _),?_⟩
   unfold ye at hR
   rw[<-hr]at hR
   cases r with
   |false=>exact hR
   |true=>rw[cond_true,hb rfl];exact hR
end
end Go.X
end
section
namespace Go.X
open Go Go.Lib
section
variable {s t:Bs} {r a:Nat}
theorem qfe{T:List Tk}{v:Tr}{m:Nat}(hs:s.length<=65536)(L:Lex s 0 s.length T)(hp:PV s 32 v (zy T) m)(hm:m<=4096):Qf s=(v,(s.length:Int),0):=by
 have hT:=z2t L hs
 obtain⟨_,_,w3⟩:=ziy 32 v _ m hp
 obtain⟨new,f1,f2⟩:=w3 (0,0) ⟨zy T,0,[]⟩ [] (by simp) (by simp;omega)
 have Z:Z8 s=((s,new),(s.length:Int),0):=by
  unfold Z8
  rw[hT]
  dsimp only
  rw[if_pos rfl,f1]
  dsimp only
  rw[if_pos rfl,A8]
 unfold Qf
 rw[Z]
 dsimp only
 rw[if_pos rfl]
 have:=f2.val new (λi y hy=>by simp only[AZ,AK];exact hy) 33 (by omega)
 simp only[AZ]at this
 rw[this]
theorem qck:(Cb 32).all (λk=>decide (zq1 k≠0)||(zij [48,48,A4 (48+k / 16),qci (k % 16)]==some k))=true:=by kernel_rfl
theorem z7k(h:zx8 r)(ab:32<=r)(aa:r≠34)(Z:r≠92)(m:Bs):∃c t,encodeRune (r:Int)++m=c::t/\c≠34/\c≠92:=by
 obtain⟨_,h2,_⟩:=ztj h m
 by_cases hr:r<128
 ·have e:encodeRune (r:Int)=[(r:Int).toNat.toUInt8]:=by unfold encodeRune;rw[encodeRuneZ_one (by omega) (by omega)];rfl
  have b0:=zxx (x:=(r:Int)) (by omega) (by omega)
  refine⟨_,m,by rw[e];rfl,λe=>?_,λe=>?_⟩ <;> (rw[e]at b0;simp at b0;omega)
 ·have hh:=zvk h (by omega)
  cases he:encodeRune (r:Int)with
  |nil=>rw[he]at h2;simp at h2
  |cons c t=>
   have:=hh c (by rw[he];exact Aj)
   exact⟨c,t++m,rfl,λe=>(by subst e;simp at this),λe=>(by subst e;simp at this)⟩
theorem z7l(h:zx8 r)(m:Bs):X9 (zx9 r++m)=some (r,(zx9 r).length)/\(zx9 r++m).head?≠some 34/\zx9 r≠[]:=by
 unfold zx9
 by_cases h0:zq1 r≠0
 ·rw[if_pos h0]
  have Z:(r=34\/r=92)\/r=8\/r=12\/r=10\/r=13\/r=9:=by
   unfold zq1 at h0
   by_cases a:r=34\/r=92
   ·exact .inl a
   ·rw[if_neg a]at h0
    by_cases b:r=8
    ·exact .inr (.inl b)
    ·rw[if_neg b]at h0
     by_cases c:r=12
     ·exact .inr (.inr (.inl c))
     ·rw[if_neg c]at h0
      by_cases d:r=10
      ·exact .inr (.inr (.inr (.inl d)))
      ·rw[if_neg d]at h0
       by_cases e:r=13
       ·exact .inr (.inr (.inr (.inr (.inl e))))
       ·rw[if_neg e]at h0
        by_cases f:r=9
        ·exact .inr (.inr (.inr (.inr (.inr f))))
        ·rw[if_neg f]at h0;exact absurd rfl h0
  rcases Z with(rfl|rfl)|rfl|rfl|rfl|rfl|rfl <;> exact⟨rfl,by simp,by simp⟩
 ·rw[if_neg h0]
  have ai:r≠34:=λe=>h0 (by subst e;decide)
  have ah:r≠92:=λe=>h0 (by subst e;decide)
  by_cases aa:32<=r
  ·rw[if_pos aa]
   obtain⟨hd,hl,h2⟩:=ztj h m
   obtain⟨c,t,e,ae,af⟩:=z7k h aa ai ah m
   refine⟨?_,by rw[e];simpa using ae,λe=>by rw[e]at hl;simp at hl⟩
   unfold X9
   have hb:zd8 (dec (encodeRune (r:Int)++m))=false:=by
    rw[hd]
    unfold zd8
    simp only[Cz,beq_eq_false_iff_ne,ne_eq]
    by_cases hr:r=65533
    ·exact .inr (by have:=h2 (by omega);omega)
    ·exact .inl hr
   rw[if_neg (by rw[e];simpa using af),if_neg (by rw[hb,hd];rintro(h|h);omega;cases h),hd]
  ·rw[if_neg aa]
   have:=AD.1 qck r (Bw.2 (by omega))
   rw[Br]at this
   have hx:zij [48,48,A4 (48+r / 16),qci (r % 16)]=some r:=by
    rcases this with h|h
    ·exact absurd (of_decide_eq_true h) h0
    ·exact eq_of_beq h
   refine⟨?_,by simp,by simp⟩
   unfold X9
   rw[if_pos (show List.head? ([92,117,48,48,A4 (48+r / 16),qci (r % 16)]++m)=some 92 from rfl)]
   unfold qbc
   simp only[AE,A8]
   rw[show z5z 117=none from by decide]
   dsimp only
   rw[if_pos trivial]
   unfold qbb
   have ab:zij (48::48::A4 (48+r / 16)::qci (r % 16)::m)=some r:=by
    unfold zij at hx ⊢
    rw[if_pos (by simp)]at hx
    rw[if_pos (by simp only[Ap];omega)]
    exact hx
   rw[ab]
   dsimp only
   rw[if_neg (by omega),if_pos (by omega)];rfl
theorem z3d(rest:Bs):∀(k:Nat) (t:Bs),t.length=k->jd t=true->zdw (zay t++34::rest)=(t,(zay t).length+1,true):=by
 intro k
 induction k using Dt with
 |_ k ih=>
  intro t hk hu
  by_cases ht:t=[]
  ·subst ht
   rw[show zay ([]:Bs)++34::rest=34::rest from rfl,Jm (by simp),if_pos (show(34::rest).head?=some 34 from rfl)];rfl
  ·have hp:=Bf.2 ht
   have Z:zd8 (dec t)=false:=by
    rw[jk ht]at hu
    cases hb:zd8 (dec t)with
    |true=>rw[hb]at hu;cases hu
    |false=>rfl
   have af:jd (t.drop (dec t).2)=true:=by
    rw[jk ht,Z]at hu;simpa using hu
   have hw:=xn t
   have hq:=zvl ht Z
   have he:=zsx ht Z
   have ae:=znn t
   have aa:zay t=zx9 (dec t).1++zay (t.drop (dec t).2):=by
    rw[<-hq,<-ziz,BQ]
   have ab:=ih (t.drop (dec t).2).length (by rw[AI];omega) _ rfl af
   obtain⟨p1,p2,p3⟩:=z7l ae (zay (t.drop (dec t).2)++34::rest)
   rw[aa,AM,Jm (by
    intro e;exact p3 (List.append_eq_nil_iff.1 e).1),if_neg p2,p1]
   dsimp only
   rw[DD,ab,he]
   dsimp only
   rw[BQ,Ag,Dv]
def zfa(t:Bs):Bs:=34::zay t++[34]
theorem zvp(t:Bs):(zfa t).length=(zay t).length+2:=by unfold zfa;simp
theorem zq3{t s rest:Bs}(hu:jd t=true)(hs:s.drop a=zfa t++rest):y0 s a=(t,a+(zfa t).length,0):=by
 have hd:s.drop (a+1)=zay t++34::rest:=by
  rw[<-Bj,hs];unfold zfa;simp
 unfold y0
 rw[hs,if_pos (by unfold zfa;rfl),hd,z3d rest _ t rfl hu]
 simp only[if_true]
 rw[zvp,show a+1+((zay t).length+1)=a+((zay t).length+2)from by omega]
theorem zvq(hu:jd t=true):(W8 (zfa t)).1=t:=by
 have:=zq3 (s:=zfa t) (a:=0) (rest:=[]) hu (by simp)
 unfold W8
 rw[this]
 dsimp only
 rw[if_neg (by omega)]
theorem z3e{t s rest:Bs}(hu:jd t=true)(hs:s.drop a=zfa t++rest):Z7 s a=(8,a+(zfa t).length,0):=by
 have hr:=zq3 hu hs
 unfold Z7
 rw[hs,show zfa t++rest=34::(zay t++[34]++rest)from rfl]
 dsimp only
 rw[if_neg (by decide),if_neg (by decide),if_pos rfl,hr,if_pos rfl]
theorem Qs{s rest:Bs}{c:UInt8}(hc:c∈yl)(hs:s.drop a=c::rest):Z7 s a=(2+indexByte yl c,a+1,0):=by
 unfold Z7
 rw[hs]
 dsimp only
 rw[if_pos hc]
theorem yh{s r:Bs}(h:s.drop a=r)(hr:r≠[]):a<s.length:=by
 rcases A1 a s.length with h1|h1
 ·exact h1
 ·rw[BL h1]at h;exact absurd h.symm hr
theorem Lex.step{a b e:Nat}{k:Int}{T:List Tk}(h:Z7 s a=(k,e,0))(ha:a<s.length)(L:Lex s e b T):Lex s a b ((k,((a:Int),(e:Int)))::T):=by
 have:=Lex.cons (s:=s) (i:=a) (j:=b) (T:=T) ha (by rw[h]) (by rw[h];exact L)
 rw[h]at this;exact this
theorem qff{t s rest:Bs}{a d:Nat}(hu:jd t=true)(hs:s.drop a=zfa t++rest):PV s (d+1) (.mk 4 (bl t) [] []) [(8,((a:Int),((a+(zfa t).length:Nat):Int)))] 1:=by
 have aa:=zvp t
 have ab:a+(zfa t).length<=s.length:=by
  have:=congrArg Cr hs
  rw[AI,Ag]at this
  omega
 have Z:ya s ((a:Int),((a+(zfa t).length:Nat):Int))=zfa t:=by
  rw[za0 (by dsimp only;omega) (by dsimp only;omega) (by dsimp only;omega)]
  unfold Jv
  simp only[Al]
  rw[hs,CC,CH]
 refine⟨_,.inl ⟨rfl,show zw 8≠0 by decide,show zw 8≠5 by decide,show zw 8≠6 by decide,?_,rfl⟩⟩
 dsimp only
 rw[Z,show zw 8=4 from rfl]
 unfold Ym
 rw[if_neg (by decide),if_neg (by decide),if_pos rfl,zvq hu]
theorem z3f{c:UInt8}(h:qi c=true):c∈zcm/\c∈zcn:=by
 have all:(Cb 256).all (λk=>!qi (A4 k)||(xg zcm (A4 k)&&xg zcn (A4 k)))=true:=by kernel_rfl
 have:=AD.1 all c.toNat (Bw.2 c.toNat_lt)
 rw[UInt8.ofNat_toNat,h]at this
 simp only[Bool.not_true,Du,As]at this
 exact⟨of_decide_eq_true this.1,of_decide_eq_true this.2⟩
theorem zfb{p:UInt8->Bool}:∀{l:Bs},(cutAt p l).2.2=true->∃c,p c=true/\l=(cutAt p l).1++c::(cutAt p l).2.1
 |[],h=>by cases h
 |c::l,h=>by
  unfold cutAt at h ⊢
  split
  ·rename_i e;exact⟨c,e,rfl⟩
  ·rename_i e
   rw[if_neg e]at h
   obtain⟨d,h1,h2⟩:=zfb h
   exact⟨d,h1,by simp only[AE];rw[<-h2]⟩
theorem z3g(h:zdq s=true):(∀c∈s,c∈zcm)/\∃c t,s=c::t/\c∈zcn:=by
 unfold zdq at h
 simp only[As]at h
 obtain⟨⟨⟨h1,h2⟩,h3⟩,h4⟩:=h
 have dg:∀{l:Bs},Ju l=true->∀c∈l,c∈zcm:=λ {l} hl c hc=>(z3f (AD.1 (Yv hl) c hc)).1
 have eE:∀c,isE c=true->c∈zcm:=λc hc=>by
  unfold isE at hc
  rw[Br]at hc
  rcases hc with hc|hc <;> (rw[eq_of_beq hc];decide)
 have eD:∀c,zh7 c=true->c∈zcm:=λc hc=>by
  unfold zh7 at hc
  rw[eq_of_beq hc];decide
 have hw:(∀c∈(Zr s).1,c∈zcm)/\∃c t,(Zr s).1=c::t/\c∈zcn:=by
  have af:∃c t,(Za s).1=c::t/\c∈zcn:=by
   cases hq:(Za s).1 with
   |nil=>rw[hq]at h2;cases h2
   |cons c t=>exact⟨c,t,rfl,(z3f (AD.1 (Yv h2) c (by rw[hq];exact Aj))).2⟩
  obtain⟨c0,t0,e0,Z⟩:=af
  cases hb:(Za s).2.2 with
  |false=>
   have:=(Jj (p:=zh7) (l:=(Zr s).1) hb).1
   have this:(Za s).1=(Zr s).1:=this
   rw[<-this]
   exact⟨dg h2,c0,t0,e0,Z⟩
  |true=>
   obtain⟨c,hc,e⟩:=zfb (p:=zh7) (l:=(Zr s).1) hb
   have e:(Zr s).1=(Za s).1++c::(Za s).2.1:=e
   rw[hb]at h3
   have h3:Ju (Za s).2.1=true:=by simpa using h3
   refine⟨λx hx=>?_,c0,t0++c::(Za s).2.1,by rw[e,e0];rfl,Z⟩
   rw[e]at hx
   rcases Aw.1 hx with hx|hx
   ·exact dg h2 x hx
   ·rcases Af.1 hx with rfl|hx
    ·exact eD x hc
    ·exact dg h3 x hx
 have hS:(∀c∈zn2 s,c∈zcm)/\∃c t,zn2 s=c::t/\c∈zcn:=by
  obtain⟨w1,c0,t0,e0,Z⟩:=hw
  cases hb:(Zr s).2.2 with
  |false=>
   have:=(Jj (p:=isE) (l:=zn2 s) hb).1
   have this:(Zr s).1=zn2 s:=this
   rw[<-this]
   exact⟨w1,c0,t0,e0,Z⟩
  |true=>
   obtain⟨c,hc,e⟩:=zfb (p:=isE) (l:=zn2 s) hb
   have e:zn2 s=(Zr s).1++c::(Zr s).2.1:=e
   rw[hb]at h1
   have h1:Ju (zi9 s)=true:=by simpa using h1
   have hE:∀x∈(Zr s).2.1,x∈zcm:=by
    unfold zi9 at h1
    intro x hx
    split at h1
    ·rename_i ab
     unfold Q8 at ab
     rw[As]at ab
     cases hq:(Zr s).2.1 with
     |nil=>rw[hq]at hx;cases hx
     |cons d r=>
      rw[hq]at hx h1 ab
      rcases Af.1 hx with rfl|hx
      ·have:=ab.2
       simp at this;subst this;decide
      ·exact dg h1 x hx
    ·split at h1
     ·rename_i ae
      cases hq:(Zr s).2.1 with
      |nil=>rw[hq]at hx;cases hx
      |cons d r=>
       rw[hq]at hx h1 ae
       rcases Af.1 hx with rfl|hx
       ·simp at ae;subst ae;decide
       ·exact dg h1 x hx
     ·exact dg h1 x hx
   refine⟨λx hx=>?_,c0,t0++c::(Zr s).2.1,by rw[e,e0];rfl,Z⟩
   rw[e]at hx
   rcases Aw.1 hx with hx|hx
   ·exact w1 x hx
   ·rcases Af.1 hx with rfl|hx
    ·exact eE x hc
    ·exact hE x hx
 obtain⟨s1,c0,t0,e0,Z⟩:=hS
 unfold zn2 at s1 e0
 split at s1
 ·rename_i aa
  rw[if_pos aa]at e0
  cases hq:s with
  |nil=>rw[hq]at aa;cases aa
  |cons d r=>
   rw[hq]at s1 aa
   have hd:d=45:=by simpa using aa
   subst hd
   refine⟨λx hx=>?_,45,r,rfl,by decide⟩
   rcases Af.1 hx with rfl|hx
   ·decide
   ·exact s1 x hx
 ·rename_i aa
  rw[if_neg aa]at e0
  exact⟨s1,c0,t0,e0,Z⟩
end
section
variable {ln:Bool} {lv:Nat}
theorem z3h(ln:Bool)(nd lv:Nat)(ps:List Bs):(Zc ln nd lv ps).length<=(ps.map λp=>p.length+(1+(yv ln nd lv).length)).sum:=by
 cases ps with
 |nil=>exact Ac _
 |cons p ps=>
  have:∀qs:List Bs,(qs.flatMap λq=>44::(yv ln nd lv++q)).length=(qs.map λp=>p.length+(1+(yv ln nd lv).length)).sum:=by
   intro qs
   induction qs with
   |nil=>rfl
   |cons q qs ih=>rw[List.flatMap_cons,Ag,ih,Az,List.sum_cons];simp;omega
  rw[Zc,Ag,Ag,this,Az,List.sum_cons];omega
theorem zq4{nd lv:Nat}(h:nd<=8)(hv:lv<=100):(yv ln nd lv).length<=801:=by
 unfold yv
 have:nd*lv<=800:=CV (Nat.mul_le_mul h hv) (by omega)
 split
 ·rw[Ap,Da];omega
 ·simp
theorem zvr(t:Bs):(zp8 t).1.length<=6*t.length+2:=by
 unfold zp8
 have:=zno t
 split
 ·simp;omega
 ·simp
theorem z3i{ln:Bool}{N:Nat}(hN:N<=8):∀(n:Nat) (v:Tr) (lv:Nat),tsz v<=n->Sm v->lv+tdp v<=90->(jo ln N v lv).length+10000000<=tsz v*20000000
 |0,v,lv,h,_,_=>by have:=zcb v;omega
 |n+1,v,lv,hz,hsm,hd=>by
  have ht:=hsm.text
  have ae:=zcb v
  have aa:∀x∈v.items,(jo ln N x (lv+1)).length+10000000<=tsz x*20000000:=λx hx=>by
   have h1:=wv hx
   have h2:=znp hx
   exact z3i hN n x (lv+1) (by omega) (hsm.item hx) (by omega)
  have ah:=zq4 (ln:=ln) (lv:=lv) hN (by omega)
  have af:=zq4 (ln:=ln) (lv:=lv+1) hN (by omega)
  have ab:∀l:List Tr,(∀x∈l,(jo ln N x (lv+1)).length+10000000<=tsz x*20000000)->(l.map λx=>(jo ln N x (lv+1)).length+10000000).sum<=Yf l*20000000:=by
   intro l
   induction l with
   |nil=>intro _;exact Cv _
   |cons x l ih=>
    intro h
    have h1:=h x Aj
    have h2:=ih λy hy=>h y (Ae _ hy)
    rw[Az,List.sum_cons,Yf,BU];omega
  have hs:=ab v.items aa
  have Z:∀ps:List Bs,(ps.map λp=>p.length+(1+(yv ln N (lv+1)).length)).sum<=Yf v.items*20000000->∀o c:UInt8,(o::Xi ln N lv ps++[c]).length+10000000<=tsz v*20000000:=λps ai o c=>by
   have hj:=z3h ln N (lv+1) ps
   have:(o::Xi ln N lv ps++[c]).length<=2+(Zc ln N (lv+1) ps).length+(yv ln N lv).length:=by
    unfold Xi
    simp only[Ap,Ag,AZ]
    split <;> simp <;> omega
   rw[Z2,BU];omega
  rw[zcv]
  split
  ·simp only[Ap,AZ];omega
  ·split
   ·have:=zvr (lb v.text);omega
   ·split
    ·refine Z _ (CV ?_ hs) 91 93
     rw[BG]
     have:∀l:List Tr,(l.map ((λp:Bs=>p.length+(1+(yv ln N (lv+1)).length)) ∘ λx=>jo ln N x (lv+1))).sum<=(l.map λx=>(jo ln N x (lv+1)).length+10000000).sum:=by
      intro l
      induction l with
      |nil=>exact Ac _
      |cons x l ih=>simp only[Az,List.sum_cons,Function.comp];omega
     exact this _
    ·split
     ·refine Z _ (CV ?_ hs) 123 125
      have:∀(ks:List Bt) (l:List Tr),(∀k∈ks,(lb k).length<=1048576)->((List.zipWith (ze9 ln) ks (l.map λx=>jo ln N x (lv+1))).map λp:Bs=>p.length+(1+(yv ln N (lv+1)).length)).sum<=(l.map λx=>(jo ln N x (lv+1)).length+10000000).sum:=by
       intro ks
       induction ks with
       |nil=>intro l _;simp
       |cons k ks ih=>
        intro l hk
        cases l with
        |nil=>simp
        |cons x l=>
         have h1:=ih l λy hy=>hk y (Ae _ hy)
         have h2:=hk k Aj
         have h3:=zvr (lb k)
         have h4:(ze9 ln k (jo ln N x (lv+1))).length<=(zp8 (lb k)).1.length+2+(jo ln N x (lv+1)).length:=by
          unfold ze9
          rw[Ag,Ap,Ag]
          split <;> simp <;> omega
         simp only[Az,List.zipWith_cons_cons,List.sum_cons];omega
      exact this v.keys v.items λk hk=>hsm.key hk
     ·omega
theorem qfg{N:Nat}{v:Tr}(h:okV v=true):jo ln N v lv≠[]:=by
 unfold okV at h
 rw[As]at h
 obtain⟨h7,h⟩:=h
 unfold qe at h
 rw[zcv]
 by_cases h1:v.kind=1
 ·rw[if_pos h1];simp
 ·rw[if_neg h1]at h ⊢
  by_cases h4:v.kind=4
  ·rw[if_pos h4]
   rw[h4]at h
   simp at h
   unfold zp8
   rw[if_pos h.1.1];simp
  ·rw[if_neg h4]
   by_cases h5:v.kind=5
   ·rw[if_pos h5];simp
   ·rw[if_neg h5]
    by_cases h6:v.kind=6
    ·rw[if_pos h6];simp
    ·rw[if_neg h6]
     by_cases h2:v.kind=2
     ·rw[if_pos h2]at h
      simp at h
      rcases h.1.1 with e|e <;> (rw[e];simp)
     ·rw[if_neg h2]at h
      by_cases h3:v.kind=3
      ·rw[if_pos h3]at h
       simp only[As]at h
       have:=h.1.1
       unfold zxh at this
       simp only[As,beq_iff_eq]at this
       intro e
       rw[e]at this
       exact absurd this.1 (by decide)
      ·rw[if_neg h3,if_neg h4,if_neg h5,if_neg h6]at h
       split at h
       ·rename_i e;simp[e]at h7
       ·cases h
end
end Go.X
end
section
namespace Go.X
open Go Go.X Go.Proofs Go.RowKit
section
variable {v:Tr} {ln:Bool} {N lv b:Nat} {gl M:Fr}
def zfc(v:Tr):Bt×Int:=if ye v=true then(bl (jo false 0 v 0),0)else(⟨#[]⟩,1)
def zcw(v:Tr)(i l:Int):Bt×Int:=if ye v=true/\0<=i/\i<=8/\0<=l/\l<=32 then(bl (jo true i.toNat v l.toNat),0)else(⟨#[]⟩,1)
theorem zi1(h:ye v=true):tsz v<=4096/\tdp v<=32/\zb9 okV v=true/\zb9 qe v=true:=by
 unfold ye Q9 at h
 simp only[As,decide_eq_true_eq]at h
 refine⟨h.1.1,h.1.2,h.2,?_⟩
 exact zd3 (λx hx=>by rw[As]at hx;exact hx.2) v h.2
theorem z7m(h:ye v=true):jo ln N v lv≠[]:=by
 have:=(zi1 h).2.2.1
 rw[xt,As]at this
 exact qfg this.1
theorem z3j(hg:GL gl)(hb:Brn gl)(hv:Sm v)(hr:ye v=true)(hN:N<=8)(hl:lv<=32){g:za}(hM:Fr.le gl M)(ag:AgM M g)(low:∀c cs,M c=some cs->c<b)(H:Prn g b ln (N:Int) [])
  {sk si:Sl} (rk:Rd M (.row .str) v.keys [slV sk]) (ri:Rd M (.row .tree) v.items [slV si]) {K:Value->za->Prop} (hK:∀h',Keep b g h'->K (.string (bl (jo ln N v lv))) h'):
  XC Tp 97 #[.pointer (some ⟨b,0,none⟩),trV v.kind v.text sk si,.int .i64 (lv:Int)] g λv1 h1=>v1=.tuple #[]/\XC Tp 87 #[.pointer (some (Ai ⟨b,0,none⟩ 0))] h1 K:=by
 obtain⟨r1,r2,r3,r4⟩:=zi1 hr
 have Z:=z3i (ln:=ln) hN (tsz v) v lv (Ac _) hv (by omega)
 refine z9j hg hb hN 1000000 v lv sk si (Ac _) (by omega) r4 hv (by omega) rk ri [] g _ H ⟨hM,ag,low⟩ (by simp only[AZ];omega) λg' H' f'=>⟨rfl,?_⟩
 rw[add0]
 rw[A8]at H'
 exact qcd H' (z7m hr) λh' k=>hK h' (f'.keep.trans k (Ac _))
theorem qhr:qd Tp 128=true:=by kernel_rfl
theorem qhs:qn Tp 128=4:=by kernel_rfl
theorem z7n{h:za}{cs:Array Value}(e:h[b]?=some (.cells cs 128 (0,0)))(hc:cs.size=4)(ln:Bool)(i:Int){K:za->Prop}(hK:∀h':za,Prn h' b ln i []->h'.size=h.size->(∀j,j≠b->h'[j]?=h[j]?)->K h'):
  zk Tp (An 128 (.pointer (some ⟨b,0,none⟩)) (.agg #[.pointer none,.slice none 0 0,.bool ln,.int .i64 i])) h K:=by
 intro B d
 obtain⟨h',r1,r2,r3,r4⟩:=Zt (P:=Tp) B d [.pointer none,.slice none 0 0,.bool ln,.int .i64 i] 0 h cs e (by simp[hc]) (by intro v hv;simp at hv;rcases hv with rfl|rfl|rfl|rfl <;> rfl)
 have e':h'[b]?=some (.cells #[.pointer none,.slice none 0 0,.bool ln,.int .i64 i] 128 (0,0)):=by rw[r2];congr 2;simp;omega
 refine⟨d,h',?_,hK h' ⟨none,⟨none,0,0⟩,e',.inl rfl,Owns.nil _ _ _ _⟩ r3 r4⟩
 have hz:=QExec.sizeOf (P:=Tp) (h:=h) (yw qhr).choose_spec B d
 unfold An Dh
 simp only[Sem.run_bind,Sem.run_pure,Result.andThen_ok]
 unfold storeVar
 rw[Sem.run_bind,hz]
 simp only[Result.andThen_ok]
 rw[qhs]
 simp only[Value.cells,Dx,ne_eq]
 exact r1
theorem zq5(s:Bt)(e:Int):zcx M [.str,.int .i64] (s,e) (.tuple #[.string s,.int .i64 e]):=⟨[_,_],⟨_,_,rfl,rdStr _,_,rfl,Jf _ _⟩,rfl⟩
set_option maxRecDepth 100000 in
theorem zln(hg:GL gl)(hb:Brn gl)(hv:Sm v){R:Bt×Int->Prop}(hR:R (zfc v)):PC Tp gl 34 [Arg.mk .tree v] [.str,.int .i64] R:=by
 intro h M vs hM ag ha
 match vs,ha with
 |[u],⟨hu,_⟩=>
  have hu:RdV M .tree v u:=hu
  have ab:=hu
  obtain⟨sk,si,rfl,rk,ri⟩:=wn hu
  apply PX.of
  apply zf4 v.kind v.text sk si
  intro h1
  have L1:Later h M h1 M:=Later.push ag _
  have s1:h1.size=h.size+1:=Am _
  have Z:∀h':za,Keep h1.size h1 h'->zd h' ⟨h.size,0,none⟩ 0 [.int .i64 v.kind,.string v.text,slV sk,slV si]:=λh' k=>zw7 (h':=h') (by rw[s1]at k;exact k)
  clear_value h1
  refine⟨v.kind,v.text,sk,si,Z h1 (Keep.refl _ _),?_⟩
  refine(zi0 hg hv (R:=λr=>r=ye v) rfl).go (vs:=[.agg #[.int .i64 v.kind,.string v.text,slV sk,slV si]]) (hM.trans L1.le) L1.ag (yj (RdV.mono L1.le ab) jy) λw h2 M2 r L2 aa hr=>?_
  subst hr
  refine⟨_,zn1 aa,λhx=>?_,λhx=>?_⟩
  ·have hx:ye v=false:=by simpa using hx
   unfold zfc at hR
   rw[if_neg (by rw[hx];simp)]at hR
   exact⟨M2,_,L1.trans L2,zq5 _ _,hR⟩
  ·have hx:ye v=true:=by simpa using hx
   unfold zfc at hR
   rw[if_pos hx]at hR
   intro h3
   have H3:Prn h3 h2.size false ((0:Nat):Int) []:=Prn.new h2 false 0
   have k3:Keep h2.size h2 h3:=Keep.push _ _ (Ac _)
   clear_value h3
   have L3:Later h M h3 M2:=(L1.trans L2).trans (Later.same L2.ag k3)
   refine⟨v.kind,v.text,sk,si,Z h3 (L2.keep.trans k3 L2.keep.size),?_⟩
   refine z3j hg hb hv hx (N:=0) (lv:=0) (by omega) (by omega) (hM.trans (L1.trans L2).le) L3.ag (λc cs e=>L2.ag.lt e) H3 (rk.mono (L1.trans L2).le) (ri.mono (L1.trans L2).le) λh4 k4=>⟨_,rfl,M2,_,?_,zq5 _ _,hR⟩
   exact(L1.trans L2).trans (Later.same L2.ag (k3.trans k4 (Ac _)))
set_option maxRecDepth 100000 in
theorem z3k(hg:GL gl)(hb:Brn gl)(hv:Sm v){i l:Int}{R:Bt×Int->Prop}(hR:R (zcw v i l)):PC Tp gl 36 [Arg.mk .tree v,Arg.mk (.int .i64) i,Arg.mk (.int .i64) l] [.str,.int .i64] R:=by
 intro h M vs hM ag ha
 match vs,ha with
 |[u,u2,u3],⟨hu,hu2,hu3,_⟩=>
  have hu:RdV M .tree v u:=hu
  have ah:=hu
  obtain⟨sk,si,rfl,rk,ri⟩:=wn hu
  obtain rfl:=qo hu2
  obtain rfl:=qo hu3
  apply PX.of
  apply ziv v.kind v.text sk si i l
  intro h1
  have L1:Later h M h1 M:=Later.push ag _
  have s1:h1.size=h.size+1:=Am _
  have ae:∀h':za,Keep h1.size h1 h'->zd h' ⟨h.size,0,none⟩ 0 [.int .i64 v.kind,.string v.text,slV sk,slV si]:=λh' k=>zw7 (h':=h') (by rw[s1]at k;exact k)
  clear_value h1
  refine⟨v.kind,v.text,sk,si,ae h1 (Keep.refl _ _),?_⟩
  refine(zi0 hg hv (R:=λr=>r=ye v) rfl).go (vs:=[.agg #[.int .i64 v.kind,.string v.text,slV sk,slV si]]) (hM.trans L1.le) L1.ag (yj (RdV.mono L1.le ah) jy) λw h2 M2 r L2 af hr=>?_
  subst hr
  have aa:(bif (bif (bif (bif (!ye v)then true else(decide (i<0)))then true else(decide (i>8)))then true else(decide (l<0)))then true else(decide (l>32)))=!decide (ye v=true/\0<=i/\i<=8/\0<=l/\l<=32):=by
   cases ye v with
   |false=>simp
   |true=>
    by_cases c1:i<0
    ·simp[c1]
    ·by_cases c2:i>8
     ·simp[c1,c2]
     ·by_cases c3:l<0
      ·simp[c1,c2,c3]
      ·by_cases c4:l>32
       ·simp[c1,c2,c3,c4]
       ·simp[c1,c2,c3,c4];omega
  refine⟨_,zn1 af,λhx=>?_,λhx=>?_⟩
  ·rw[aa]at hx
   have hx:¬(ye v=true/\0<=i/\i<=8/\0<=l/\l<=32):=of_decide_eq_false (by simpa only[CY]using hx)
   unfold zcw at hR
   rw[if_neg hx]at hR
   exact⟨M2,_,L1.trans L2,zq5 _ _,hR⟩
  ·rw[aa]at hx
   have hx:ye v=true/\0<=i/\i<=8/\0<=l/\l<=32:=of_decide_eq_true (by simpa only[Bool.not_eq_false']using hx)
   unfold zcw at hR
   rw[if_pos hx]at hR
   obtain⟨x1,x2,x3,x4,x5⟩:=hx
   intro h3
   have k3:Keep h2.size h2 h3:=Keep.push _ _ (Ac _)
   have e3:h3[h2.size]?=some (.cells #[.pointer none,.slice none 0 0,.bool false,.int .i64 0] 128 (0,0)):=yb _ _
   clear_value h3
   refine z7n e3 rfl true i λh4 H4 z4 f4=>?_
   have k4:Keep h2.size h2 h4:=k3.trans ⟨by omega,λj hj=>f4 j (by omega)⟩ (Ac _)
   have L4:Later h M h4 M2:=(L1.trans L2).trans (Later.same L2.ag k4)
   refine⟨v.kind,v.text,sk,si,ae h4 (L2.keep.trans k4 L2.keep.size),?_⟩
   have ei:i=((i.toNat:Nat):Int):=by omega
   have el:l=((l.toNat:Nat):Int):=by omega
   rw[ei]at H4
   have ab:=z3j hg hb hv x1 (N:=i.toNat) (lv:=l.toNat) (by omega) (by omega) (hM.trans (L1.trans L2).le) L4.ag (λc cs e=>L2.ag.lt e) H4 (rk.mono (L1.trans L2).le) (ri.mono (L1.trans L2).le) (K:=λv h'=>∃Z:Bt,v=.string Z/\∃M' r,Later h M h' M'/\zcx M' [.str,.int .i64] r (.tuple #[.string Z,.int .i64 0])/\R r) λh5 k5=>⟨_,rfl,M2,_,(L1.trans L2).trans (Later.same L2.ag (k4.trans k5 (Ac _))),zq5 _ _,hR⟩
   rw[<-el]at ab
   exact ab
end
end Go.X
end
section
namespace Go.X
section
theorem yi(Z:Nat)(c1:Addr)(h:za)(R:Value->za->Prop)
  (H:∃an:Option Nat,zc h c1=some (.map an)/\Z5 Tp (Ev 193 (.map an)) h (λaI aJ=>∃ak:Option Addr,aI=.pointer ak/\∃(ai:za->Prop) (ah:za->Nat),ai aJ/\∀aj:za,ai aj->(Z5 Tp (Dm (.pointer ak) false 0) aj (λaE am=>(aE=.tuple #[.bool false]/\(false=true->Z5 Tp (Instr.entry (.pointer ak)) am (λaG ax=>∃ap aH:Value,aG=.tuple #[ap,aH]/\YX Tp Z #[ap] ax (λaz af=>∃ab:Bool,az=.bool ab/\((!ab)=true->R (.tuple #[]) af)/\((!ab)=false->(ai af/\ah af<ah aj)))))/\(false=false->R (.tuple #[]) am))\/∃ay aA:Value,aE=.tuple #[.bool true,ay,aA]/\(true=true->Z5 Tp (Instr.entry (.pointer ak)) am (λau aF=>∃ar aB:Value,au=.tuple #[ar,aB]/\YX Tp Z #[ar] aF (λaC ae=>∃aa:Bool,aC=.bool aa/\((!aa)=true->R (.tuple #[]) ae)/\((!aa)=false->(ai ae/\ah ae<ah aj)))))/\(true=false->R (.tuple #[]) am))))):
  XCI Tp 238 #[.func (.yield Z) #[] #[],.pointer (some c1)] h R:=
 ziq Tryz.mixed ⟨[],[(1,[])],[]⟩ [.func (.yield Z) #[] #[],.pointer (some c1)] (rs:=[]) (n:=14) Tryz.func238 (by kernel_rfl) (by kernel_rfl) (by kernel_rfl) (by kernel_rfl) (Eq.mp (by kernel_rfl) H)
theorem xy(s0:Sl)(ae:Value)(h:za)(R:Value->za->Prop)
  (H:let aa:za:=CZ h (.cells #[.slice s0.a s0.len s0.cap] 23);∃(aj:FuncId) (ah:Array Value),ae=.func (.func aj) #[] ah/\zj Tp aj=true/\∀ab:zn3,(∀{ak:Value} {ai:za} {am:Value->za->Prop},ai[(AR aa+1)]?=some (.loop (ab .ready none))->zac Tp 13 (rfA (codeOf Tryz.f278)) (rfB (codeOf Tryz.f278)) ab (AR aa+1) am (putO [(6,[],ae),(4,[],.slice none 0 0),(2,[],.pointer (some ⟨AR h,0,none⟩)),(0,[],.slice s0.a s0.len s0.cap),(1,[],ae)] (some 7) [] ak) ai->YX Tp (AR aa+1) #[ak] ai am)->XCI Tp aj (#[.func (.yield (AR aa+1)) #[] #[]]++ah) (CZ (CZ aa (.deferred (some []))) (.loop (ab .ready none))) λ_ an=>zis ab (AR aa+1) (λaf=>∃Z:Sl,zc af ⟨AR h,0,none⟩=some (.slice Z.a Z.len Z.cap)/\(af)[AR aa]?=some (.deferred (some []))/\R (.slice Z.a Z.len Z.cap) (Array.setIfInBounds af (AR aa) (.deferred none))) (λaf=>(af)[AR aa]?=some (.deferred (some []))/\R (.slice none 0 0) (Array.setIfInBounds af (AR aa) (.deferred none))) an):
  XC Tp 278 #[.slice s0.a s0.len s0.cap,ae] h R:=
 zit Tryz.mixed [.slice s0.a s0.len s0.cap,ae] (rs:=[.tmp 4]) (n:=13) Tryz.func278 (by kernel_rfl) (by kernel_rfl) (by kernel_rfl) (by kernel_rfl) H (by kernel_rfl)
theorem xz(x6:Value)(x4:Value)(x2:Addr)(x0:Value)(x1:Value)(y7:Bt)(rec:zn3)(l:Nat)(K:Value->za->Prop)(h:za)
  (H:(h)[l]?=some (.loop (rec .ready none))/\let ab:za:=Array.setIfInBounds h l (.loop (rec .busy none));∃aa:Sl,zc ab x2=some (.slice aa.a aa.len aa.cap)/\let ah:za:=CZ ab (.cells #[.string y7] 9);Z5 Tp (AB #[23,23] 23 #[.slice aa.a aa.len aa.cap,.slice (some ⟨AR ab,0,none⟩) 1 1]) ah (λai af=>∃Z:Sl,ai=.slice Z.a Z.len Z.cap/\zk Tp (An 23 (.pointer (some x2)) (.slice Z.a Z.len Z.cap)) af (λae=>(ae)[l]?=some (.loop (rec .busy none))/\K (.bool true) (Array.setIfInBounds ae l (.loop (rec .ready none)))))):
  zac Tp 13 (rfA (codeOf Tryz.f278)) (rfB (codeOf Tryz.f278)) rec l K [(7,[],.string y7),(6,[],x6),(4,[],x4),(2,[],.pointer (some x2)),(0,[],x0),(1,[],x1)] h:=
 Eq.mp (by kernel_rfl) H
end
section
theorem Wy(Z:FuncId)(ab:Array Value)(aa:Array Value)(h:za)(R:Value->za->Prop)
  (H:XC Tp 236 #[.func (.func Z) ab aa] h (λb c=>∃d,b=slV d/\XC Tp 237 #[slV d] c (λe f=>e=.tuple #[]/\R (slV d) f))):
  XC Tp 173 #[.func (.func Z) ab aa] h R:=
 XF ⟨[],[],[]⟩ [.tmp 2] 9 Tryz.func173 H
theorem yo(m0:Option Nat)(h:za)(R:Value->za->Prop)
  (H:let a:=h.push (.cells #[.map m0] 193);R (.func (.func 238) #[] #[.pointer (some ⟨h.size,0,none⟩)]) a):
  XC Tp 174 #[.map m0] h R:=
 XF ⟨[],[],[]⟩ [.tmp 2] 4 Tryz.func174 H
theorem Js(Z:FuncId)(ab:Array Value)(aa:Array Value)(h:za)(R:Value->za->Prop)
  (H:XC Tp 278 #[.slice none 0 0,.func (.func Z) ab aa] h (λb c=>∃d,b=slV d/\R (slV d) c)):
  XC Tp 236 #[.func (.func Z) ab aa] h R:=
 XF ⟨[],[],[]⟩ [.tmp 2] 5 Tryz.func236 H
end
end Go.X
end
section
namespace Go.X
open Go Go.Proofs Go.Shelf Go.RowKit
section
def znq:Go.Shelf.Ren:=⟨fun|190=>237|125=>193|258=>279|128=>251|129=>252|302=>305|303=>306|304=>307|305=>308|306=>309|307=>310|308=>311|309=>312|310=>313|333=>319|329=>286|330=>287|334=>320|335=>321|336=>322|344=>327|n=>n,fun|31=>23|9=>9|3=>3|46=>177|0=>0|51=>236|53=>238|4=>4|183=>256|182=>255|131=>42|5=>5|218=>281|222=>285|228=>297|229=>298|n=>n,fun|n=>n⟩
theorem zq6:Go.Proofs.Lays.n190 Tp znq:={
 mixed:=by kernel_rfl
 f125:=LF Tryz.func193
 f128:=LF Tryz.func251
 f129:=LF Tryz.func252
 f190:=LF Tryz.func237
 f258:=LF Tryz.func279
 f302:=LF Tryz.func305
 f303:=LF Tryz.func306
 f304:=LF Tryz.func307
 f305:=LF Tryz.func308
 f306:=LF Tryz.func309
 f307:=LF Tryz.func310
 f308:=LF Tryz.func311
 f309:=LF Tryz.func312
 f310:=LF Tryz.func313
 f329:=LF Tryz.func286
 f330:=LF Tryz.func287
 f333:=LF Tryz.func319
 f334:=LF Tryz.func320
 f335:=LF Tryz.func321
 f336:=LF Tryz.func322
 f344:=LF Tryz.func327
 t0:=Cd
 a0:=CX
 z0:=CK
 v0:=Ci
 t3:=Bo
 a3:=Co
 z3:=Ce
 v3:=BI
 t4:=BD
 a4:=Cy
 z4:=Ck
 v4:=BO
 t5:=Bq
 a5:=Cp
 z5:=Cf
 v5:=BJ
 t9:=Bm
 a9:=Cq
 z9:=Cg
 v9:=BK
 t31:=Tryz.underlying23
 a31:=Tryz.isAgg23
 z31:=Tryz.sizeOf23
 v31:=Tryz.zeroValue23
 t46:=Tryz.underlying177
 a46:=Tryz.isAgg177
 z46:=Tryz.sizeOf177
 v46:=Tryz.zeroValue177
 t51:=Tryz.underlying236
 a51:=Tryz.isAgg236
 z51:=Tryz.sizeOf236
 v51:=Tryz.zeroValue236
 t53:=Tryz.underlying238
 a53:=Tryz.isAgg238
 z53:=Tryz.sizeOf238
 v53:=Tryz.zeroValue238
 t131:=Tryz.underlying42
 a131:=Tryz.isAgg42
 z131:=Tryz.sizeOf42
 v131:=Tryz.zeroValue42
 t182:=Tryz.underlying255
 a182:=Tryz.isAgg255
 z182:=Tryz.sizeOf255
 v182:=Tryz.zeroValue255
 t183:=Tryz.underlying256
 a183:=Tryz.isAgg256
 z183:=Tryz.sizeOf256
 v183:=Tryz.zeroValue256
 t218:=Tryz.underlying281
 a218:=Tryz.isAgg281
 z218:=Tryz.sizeOf281
 v218:=Tryz.zeroValue281
 t222:=Tryz.underlying285
 a222:=Tryz.isAgg285
 z222:=Tryz.sizeOf285
 v222:=Tryz.zeroValue285
 t228:=Tryz.underlying297
 a228:=Tryz.isAgg297
 z228:=Tryz.sizeOf297
 v228:=Tryz.zeroValue297
 t229:=Tryz.underlying298
 a229:=Tryz.isAgg298
 z229:=Tryz.sizeOf298
 v229:=Tryz.zeroValue298 }
open Go.Sort Go.RowKit in
theorem za8(blk off cap:Nat)(ss:List (List UInt8))(w:World)(hH:Holds encStr w blk off ss.toArray)(Z:blk<w.heap.size)(aa:ss.length<4611686018427387904):
  Calls Tp 237 #[.slice (some ⟨blk,off,none⟩) ss.length cap] w λe w'=>
   e=.returned (.tuple #[])/\∃n os,w'=grow (putRow encStr (Sort.ahead w n) blk off (ss.mergeSort λx y=>decide (x<=y)).toArray) os:=Any.slices_Sort_string zq6 blk off cap ss w hH Z aa
open Go.RowKit Go.Sort in
theorem Y2(p:Option Addr)(cap:Nat)(w:World):
  Calls Tp 237 #[.slice p 0 cap] w λe w'=>e=.returned (.tuple #[])/\w'=w:=Any.slices_Sort_string_none zq6 p cap w
end
end Go.X
end
section
namespace Go.X
open Go Go.ChangeMaps
section
variable {h h':za} {m r:Nat} {P:Program} {t kt et:TypeId} {K:Value -> za -> Prop} {dn:List Value}
def MapW(h:za)(m:Nat)(l:List (Value×Value)):Prop:=
 ∃es Z,h[m]?=some (.map es Z)/\es.toList.map (λe=>(e.key,e.val))=l/\(∀e∈es.toList,e.born<Z)/\(es.toList.map (·.born)).Nodup
theorem MapW.keep{l:List (Value×Value)}(H:MapW h m l)(k:h'[m]?=h[m]?):MapW h' m l:=by
 obtain⟨es,c,h1,h2⟩:=H;exact⟨es,c,k.trans h1,h2⟩
theorem MapW.lt{l:List (Value×Value)}(H:MapW h m l):m<h.size:=by
 obtain⟨es,c,h1,h2⟩:=H;exact(Ad.1 h1).1
theorem MapW.new(h:za):MapW (h.push (.map #[] 0)) h.size []:=⟨#[],0,yb _ _,rfl,by simp,by simp⟩
def znr(l:List (Bt×Value)):List (Value×Value):=l.map λp=>(Bl p.1,p.2)
theorem MapW.at{l:List (Bt×Value)}(H:MapW h m (znr l)):MapAt h m l:=by
 obtain⟨es,c,h1,h2,_⟩:=H;exact⟨es,c,h1,h2⟩
theorem z7o{z:Value}(T:MapT P t kt et z){l:List (Bt×Value)}(H:MapW h m (znr l))(k:Bt)(v:Value){K:za->Prop}
  (hK:∀h':za,MapW h' m (znr (zyv l k v))->h'.size=h.size->(∀i,i≠m->h'[i]?=h[i]?)->K h'):zk P (CN t (.map (some m)) (.string k) v) h K:=by
 have af:=H.lt
 obtain⟨es,c,h1,h2,h3,h4⟩:=H
 intro B d
 have hu:=QExec.underlying (h:=h) T.map B d
 have hg:=zaq (P:=P) h1 B d
 have hc:=Xr T.key false k h B d
 have Z:∀o:Obj,(setObj m o).run P (mk B d h)=.ok () (mk B d (h.setIfInBounds m o)):=by
  intro o
  have:(mk B d h).heap[m]?=some (.map es c):=h1
  simp[setObj,Sem.run,this]
  rfl
 unfold CN
 rcases J7 k es.toList l 0 h2 with⟨g1,g2⟩|⟨j,v0,e,g1,g2,g3,g4,g5,g6⟩
 ·refine⟨d,h.setIfInBounds m (.map (es.push { key:=.string k,val:=v,born:=c }) (c+1)),?_,hK _ ⟨es.push { key:=.string k,val:=v,born:=c },c+1,by simp[af],?_,?_,?_⟩ (by simp) (λi hi=>by rw[AC (Ne.symm hi)])⟩
  ·rw[Sem.run_bind,hu]
   simp only[Result.andThen_ok,Sem.run_bind,hg,hc]
   rw[Zo T.key k es.toList none h g2 B d]
   simp only[Result.andThen_ok]
   exact Z _
  ·rw[zbn g1]
   unfold znr at h2 ⊢
   simp[h2]
  ·intro e he
   simp at he
   rcases he with he|rfl
   ·have:=h3 e (by simpa using he);omega
   ·simp
  ·simp only[Array.toList_push,BW,Az,Cm]
   rw[CG]
   refine⟨h4,by simp,λx hx y hy e=>?_⟩
   simp at hy
   obtain⟨e',ab,rfl⟩:=Bc.1 hx
   have:=h3 e' ab;omega
 ·have aj:j<es.size:=by
   have:=(AF.1 g2).1
   simpa using this
  have aa:((es.modify j λe=>{ e with key:=.string k,val:=v }).toList.map (·.born))=es.toList.map (·.born):=by
   apply BC
   intro i
   simp only[Array.toList_modify,BN,BF]
   by_cases ae:j=i
   ·subst ae;cases es.toList[j]? <;> simp
   ·cases es.toList[i]? <;> simp[ae]
  refine⟨d,_,?_,hK (h.setIfInBounds m (.map (es.modify j λe=>{ e with key:=.string k,val:=v }) c)) ⟨es.modify j λe=>{ e with key:=.string k,val:=v },c,by simp[af],?_,?_,?_⟩ (by simp) (λi hi=>by rw[AC (Ne.symm hi)])⟩
  ·rw[Sem.run_bind,hu]
   simp only[Result.andThen_ok,Sem.run_bind,hg,hc]
   rw[Zo T.key k es.toList _ h g5 B d]
   simp only[Result.andThen_ok,AK]
   have ah:((es[j]?).map (·.key)).getD (.string k)=.string k:=by
    have:es[j]?=some e:=by simpa using g2
    rw[this];exact g3
   rw[ah]
   have hs:Eb (.string k) (.string k)=pure (.string k):=by
    unfold Eb
    rw[if_pos (by show(k==k)=true;rw[zkj];simp)]
   rw[hs]
   exact Z _
  ·have:=g6 v
   unfold znr
   simpa using this
  ·intro e' ab
   have:e'.born∈((es.modify j λe=>{ e with key:=.string k,val:=v }).toList.map (·.born)):=Bc.2 ⟨e',ab,rfl⟩
   rw[aa]at this
   obtain⟨e2,ai,e3⟩:=Bc.1 this
   rw[<-e3];exact h3 e2 ai
  ·rw[aa];exact h4
def MapIt(h:za)(r m:Nat)(l:List (Value×Value))(dn:List Value):Prop:=
 ∃es aa Z ab c,h[r]?=some (.mapIter (some m) Z ab c)/\h[m]?=some (.map es aa)/\es.toList.map (λe=>(e.key,e.val))=l/\(∀e∈es.toList,e.born<Z)/\Z<=c/\Z<=aa/\(es.toList.map (·.born)).Nodup /\
  ∀e∈es.toList,ab.contains e.born=true↔e.key∈dn
theorem MapIt.keep{l:List (Value×Value)}(H:MapIt h r m l dn)(k1:h'[r]?=h[r]?)(k2:h'[m]?=h[m]?):MapIt h' r m l dn:=by
 obtain⟨es,aa,Z,ab,c,h1,h2,h3⟩:=H
 exact⟨es,aa,Z,ab,c,k1.trans h1,k2.trans h2,h3⟩
def z9k(h:za)(r m:Nat)(k v:Value):Prop:=
 ∃(es:Array MapEntry) (Z aa:Nat) (ab:Array Nat) (e:MapEntry),h[r]?=some (.mapIter (some m) aa (ab.push e.born) Z)/\h[m]?=some (.map es Z)/\e∈es.toList/\(es.toList.map (·.born)).Nodup/\e.key=k/\e.val=v
theorem z7p(ht:P.underlying t=some (.map kt et)){l:List (Value×Value)}(H:MapW h m l)
  (hK:∀h',h'.size=h.size+1->Keep h.size h h'->MapIt h' h.size m l []->K (.pointer (some ⟨h.size,0,none⟩)) h'):Z5 P (Ev t (.map (some m))) h K:=by
 have Z:=H.lt
 obtain⟨es,c,h1,h2,h3,h4⟩:=H
 intro B d
 have hu:=QExec.underlying (h:=h) ht B d
 have hg:=zaq (P:=P) h1 B d
 refine⟨.pointer (some ⟨h.size,0,none⟩),d,h.push (.mapIter (some m) c #[] c),?_,hK _ (by simp) (Keep.push _ _ (Ac _)) ⟨es,c,c,#[],c,yb _ _,?_,h2,h3,Ac _,Ac _,h4,λe he=>by simp⟩⟩
 ·unfold Ev
  rw[Sem.run_bind,hu]
  simp only[Result.andThen_ok,Sem.run_bind,hg,Sem.run_pure]
  rfl
 ·rw[BV,if_neg (by omega)];exact h1
theorem zx2{es:List MapEntry}(h:(es.map (·.born)).Nodup){a b:MapEntry}(ha:a∈es)(hb:b∈es)(e:a.born=b.born):a=b:=by
 induction es with
 |nil=>cases ha
 |cons x es ih=>
  rw[Az,BE]at h
  rcases Af.1 ha with h1|h1
  ·rcases Af.1 hb with h2|h2
   ·rw[h1,h2]
   ·exact(h.1 (Bc.2 ⟨b,h2,by rw[<-e,h1]⟩)).elim
  ·rcases Af.1 hb with h2|h2
   ·exact(h.1 (Bc.2 ⟨a,h1,by rw[e,h2]⟩)).elim
   ·exact ih h.2 h1 h2
theorem z3l{es:List MapEntry}(h:(es.map (·.key)).Nodup){a b:MapEntry}(ha:a∈es)(hb:b∈es)(e:a.key=b.key):a=b:=by
 induction es with
 |nil=>cases ha
 |cons x es ih=>
  rw[Az,BE]at h
  rcases Af.1 ha with h1|h1
  ·rcases Af.1 hb with h2|h2
   ·rw[h1,h2]
   ·exact(h.1 (Bc.2 ⟨b,h2,by rw[<-e,h1]⟩)).elim
  ·rcases Af.1 hb with h2|h2
   ·exact(h.1 (Bc.2 ⟨a,h1,by rw[e,h2]⟩)).elim
   ·exact ih h.2 h1 h2
def leftN(h:za)(r m:Nat):Nat:=match h[r]?,h[m]? with
 |some (.mapIter _ _ seen _),some (.map es _)=>(es.toList.filter λe=>!seen.contains e.born).length
 |_,_=>0
theorem leftN.keep(k1:h'[r]?=h[r]?)(k2:h'[m]?=h[m]?):leftN h' r m=leftN h r m:=by unfold leftN;rw[k1,k2]
theorem zq7{α:Type}{p q:α->Bool}(h:∀x,p x=true->q x=true):∀l:List α,(l.filter p).length<=(l.filter q).length
 |[]=>Ac _
 |x::l=>by
  have:=zq7 h l
  rw[DY,DY]
  by_cases hp:p x=true
  ·rw[if_pos hp,if_pos (h x hp)];simp;omega
  ·rw[if_neg hp]
   split
   ·simp;omega
   ·exact this
theorem filter_lt{α:Type}{p q:α->Bool}(h:∀x,p x=true->q x=true){e:α}(h1:p e=false)(h2:q e=true):∀l:List α,e∈l->(l.filter p).length<(l.filter q).length
 |[],he=>by cases he
 |x::l,he=>by
  rw[DY,DY]
  rcases Af.1 he with rfl|he
  ·have:=zq7 h l
   rw[if_neg (by rw[h1];simp),if_pos h2];simp;omega
  ·have:=filter_lt h h1 h2 l he
   by_cases hp:p x=true
   ·rw[if_pos hp,if_pos (h x hp)];simp;omega
   ·rw[if_neg hp]
    split
    ·simp;omega
    ·exact this
theorem qcl{ty:TypeId}{l:List (Value×Value)}(H:MapIt h r m l dn)(hn:(l.map (·.1)).Nodup)(an:r≠m)
  (aj:(∀p∈l,p.1∈dn)->K (.tuple #[.bool false]) h)
  (af:∀k v,(k,v)∈l->k∉dn->∀h',MapIt h' r m l (k::dn)->z9k h' r m k v->h'.size=h.size->(∀j,j≠r->h'[j]?=h[j]?)->leftN h' r m<leftN h r m->K (.tuple #[.bool true,k,v]) h'):
  Z5 P (Dm (.pointer (some ⟨r,0,none⟩)) false ty) h K:=by
 obtain⟨es,Z,aa,ab,c,h1,h2,h3,h4,h5,h6,h7,h8⟩:=H
 intro B d
 have hk:(es.toList.map (·.key)).Nodup:=by
  have e:es.toList.map (·.key)=l.map (·.1):=by rw[<-h3,BG];rfl
  rw[e];exact hn
 rcases run_next_at (P:=P) (mk B d h) ty r m aa c ab es Z h1 h2 h4 h5 with⟨e0,e1⟩|⟨e,he,w1,hw,e1⟩
 ·refine⟨_,d,h,e1,aj λp hp=>?_⟩
  rw[<-h3]at hp
  obtain⟨x,hx,rfl⟩:=Bc.1 hp
  refine(h8 x hx).1 ?_
  have:leftOf es ab=#[]:=Array.eq_empty_of_size_eq_zero e0
  unfold leftOf at this
  rw[Array.filter_eq_empty_iff]at this
  have:=this x (by simpa using hx)
  simpa using this
 ·have ae:e∈es.toList/\ab.contains e.born=false:=by
   unfold leftOf at he
   simpa using he
  have hr:r<h.size:=(Ad.1 h1).1
  have ak:∃d',setBlock w1 r (.mapIter (some m) aa (ab.push e.born) Z)=mk B d' (h.setIfInBounds r (.mapIter (some m) aa (ab.push e.born) Z)):=by
   rcases hw with rfl|rfl
   ·exact⟨d,rfl⟩
   ·exact⟨d+1,rfl⟩
  obtain⟨d',am⟩:=ak
  rw[am]at e1
  have ai:(h.setIfInBounds r (.mapIter (some m) aa (ab.push e.born) Z))[m]?=some (.map es Z):=by rw[AC an];exact h2
  have ah:(h.setIfInBounds r (.mapIter (some m) aa (ab.push e.born) Z))[r]?=some (.mapIter (some m) aa (ab.push e.born) Z):=by simp[hr]
  refine⟨_,d',_,e1,af e.key e.val (by rw[<-h3];exact Bc.2 ⟨e,ae.1,rfl⟩) (λhm=>?_) _ ⟨es,Z,aa,ab.push e.born,Z,ah,ai,h3,h4,h6,h6,h7,λx hx=>?_⟩ ⟨es,Z,aa,ab,e,ah,ai,ae.1,h7,rfl,rfl⟩ (by simp) (λj hj=>by rw[AC (Ne.symm hj)]) ?_⟩
  ·have:=(h8 e ae.1).2 hm
   rw[ae.2]at this;cases this
  ·rw[Af,<-h8 x hx]
   simp only[Array.contains_eq_mem,Array.mem_push,decide_eq_true_eq]
   constructor
   ·rintro(h|h)
    ·exact .inr h
    ·exact .inl (by rw[zx2 h7 hx ae.1 h])
   ·rintro(h|h)
    ·exact .inr (by rw[z3l hk hx ae.1 h])
    ·exact .inl h
  ·unfold leftN
   rw[ah,ai,h1,h2]
   refine filter_lt (e:=e) (λx hx=>?_) ?_ ?_ _ ae.1
   ·simp only[Array.contains_eq_mem,Array.mem_push]at hx ⊢
    simp at hx ⊢
    exact hx.1
   ·simp
   ·rw[ae.2];rfl
theorem z7q{k v:Value}(H:z9k h r m k v)(hK:K (.tuple #[k,v]) h):Z5 P (Instr.entry (.pointer (some ⟨r,0,none⟩))) h K:=by
 obtain⟨es,aa,Z,ab,e,h1,h2,h3,h4,rfl,rfl⟩:=H
 intro B d
 exact⟨_,d,h,run_entry_at (P:=P) (mk B d h) r m Z ab es aa e h1 h2 h3 h4,hK⟩
end
end Go.X
end
section
namespace Go.X
open Go Go.Lib
section
def w8(xs:List Bt):List Bt:=((xs.map lb).mergeSort λx y=>decide (x<=y)).map bl
theorem zns{xs ys:List Bt}(h:xs.Perm ys):w8 xs=w8 ys:=by
 unfold w8
 rw[mergeSort_of_perm (h.map lb)]
theorem Jt(xs:List Bt):(w8 xs).Perm xs:=by
 have h:=(List.mergeSort_perm (xs.map lb) λx y=>decide (x<=y)).map bl
 rw[BG]at h
 have e:bl ∘ lb=id:=by funext x;exact Y0 x
 rw[e,List.map_id]at h
 exact h
theorem zq8(xs:List Bt):(w8 xs).length=xs.length:=(Jt xs).length_eq
end
end Go.X
end
section
namespace Go.X
open Go Go.X Go.Proofs Go.RowKit Go.Sort Go.Shelf
section
variable {h:za} {s:Sl} {xs:List Bt} {K:Value -> za -> Prop} {c m:Nat}
theorem XC.of_below{P:Program}{f:FuncId}{args:Array Value}{R:Value->za->Prop}(H:∀B d,Calls P f args (mk B d h) λe w'=>∃v,e=.returned v/\w'.os=B.os/\w'.tape=B.tape/\w'.output=B.output/\R v w'.heap):XC P f args h R:=by
 intro B d
 refine(H B d).mono ?_
 rintro e w' ⟨v,rfl,h1,h2,h3,h4⟩
 refine⟨v,w'.drawn,w'.heap,rfl,?_,h4⟩
 cases w';simp only[mk]at *;subst h1;subst h2;subst h3;rfl
theorem qcm{base:Nat}(H:Owns h base 9 1 s (xs.map Bl)):s.len=xs.length:=by
 have:=H.length;simp at this;omega
theorem qcn(xs:List Bt):(xs.map lb).map encStr=xs.map Bl:=by
 rw[BG]
 refine List.map_congr_left λx _=>?_
 show Bl _=_
 exact congrArg Bl (Y0 x)
theorem z3m{base:Nat}(H:Owns h base 9 1 s (xs.map Bl))(ak:xs.length<=1000000):
  XC Tp 237 #[.slice s.a s.len s.cap] h λv h'=>v=.tuple #[]/\Owns h' base 9 1 s ((w8 xs).map Bl)/\h.size<=h'.size/\∀i,i<h.size->(∀p,s.a=some p->i≠p.block)->h'[i]?=h[i]?:=by
 refine XC.of_below λB d=>?_
 have hl:s.len=xs.length:=qcm H
 have Z:(xs.map lb).length=xs.length:=by simp
 have ae:(w8 xs).map Bl=((xs.map lb).mergeSort λx y=>decide (x<=y)).map encStr:=by
  unfold w8
  rw[BG]
  rfl
 rcases H.2 with⟨hv,h0⟩|⟨g,cap,ah,hv,ai,hg,r1,r2,r3,r4⟩
 ·have hx:xs=[]:=AO (by omega)
  subst hx
  rw[h0]
  refine(Y2 s.a s.cap (mk B d h)).mono ?_
  rintro e w' ⟨rfl,rfl⟩
  exact⟨_,rfl,rfl,rfl,rfl,rfl,by rw[show w8 []=[]from List.Perm.eq_nil (Jt [])];exact H,Ac _,λ_ _ _=>rfl⟩
 ·simp only[AX]at hv
  obtain⟨ha,_,rfl⟩:=hv
  have ab:(mk B d h).heap[g]?=some (.cells ah 9 (0,0)):=hg
  have af:g<(mk B d h).heap.size:=(Ad.1 ab).1
  have hH:Holds encStr (mk B d h) g 0 (xs.map lb).toArray:=holds_of_block ab (by rw[Z,qcn,<-hl];simpa using r4)
  have hc:=za8 g 0 s.cap (xs.map lb) (mk B d h) hH af (by rw[Z];omega)
  rw[Z,<-hl]at hc
  rw[ha]
  refine hc.mono ?_
  rintro e w' ⟨rfl,n,os,rfl⟩
  have aa:=grownBy_sorted (w:=mk B d h) (g:=g) (n:=n) (os:=os) ((xs.map lb).mergeSort λx y=>decide (x<=y)).toArray
  refine⟨_,rfl,aa.os,aa.tape,aa.output,rfl,?_,aa.size,λi hi aj=>aa.block i hi λe=>aj _ rfl (by simpa using e)⟩
  have ho:=ownsRow_sorted (w:=mk B d h) (base:=base) (n:=n) (os:=os) (ss:=xs.map lb) (ts:=(xs.map lb).mergeSort λx y=>decide (x<=y)) (by simp) ai ab (by rw[Z,<-hl];exact r1) r2 (by simpa using r3)
  rw[<-ae,Z,<-hl]at ho
  show World.ownsRow _ base _ 1 (.slice s.a s.len s.cap) s.len _
  rw[ha]
  exact ho
theorem qht:AY.underlying 193=some (.map 9 26):=by kernel_rfl
theorem z3n:zj Tp 238=true:=by kernel_rfl
theorem zvs:∀{xs ys:List Bt},xs.Nodup->(∀x∈xs,x∈ys)->xs.length<=ys.length
 |[],_,_,_=>Cv _
 |x::xs,ys,hn,hs=>by
  rw[BE]at hn
  have hx:=hs x Aj
  obtain⟨a,b,rfl⟩:=List.append_of_mem hx
  have:=zvs (ys:=a++b) hn.2 λy hy=>by
   have:=hs y (Ae _ hy)
   rw[Aw,Af]at this
   rw[Aw]
   rcases this with h|rfl|h
   ·exact .inl h
   ·exact absurd hy hn.1
   ·exact .inr h
  simp only[Ag,Ap]at this ⊢
  omega
structure KyS (h:za) (m:Nat) (rec:zn3) (ps:List (Bt×Value)) (g:za) (xs:List Bt) (sl:Sl):Prop where
 keep:Keep h.size h g
 d:g[h.size+1]?=some (.deferred (some []))
 rc:g[h.size+2]?=some (.loop (rec .ready none))
 box:Blk g h.size #[slV sl]
 o:Owns g (h.size+4) 9 1 sl (xs.map Bl)
 it:MapIt g (h.size+3) m (znr ps) (xs.reverse.map Bl)
 nd:xs.Nodup
 sub:∀x∈xs,x∈ps.map (·.1)
 gz:h.size+4<=g.size
theorem z3o(ps:List (Bt×Value)):(znr ps).map (·.1)=(ps.map (·.1)).map Bl:=by
 unfold znr;rw[BG,BG];rfl
theorem z3p{ks:List Bt}(h:ks.Nodup):(ks.map Bl).Nodup:=by
 induction ks with
 |nil=>exact Di
 |cons k ks ih=>
  rw[BE]at h
  rw[Az,BE]
  refine⟨λhm=>?_,ih h.2⟩
  obtain⟨x,hx,e⟩:=Bc.1 hm
  injection e with e
  exact h.1 (e ▸ hx)
section
variable {h : za} {m : Nat} {rec : zn3} {ps : List (Bt × Value)} {g : za} {xs : List Bt} {sl : Sl}
set_option maxRecDepth 100000 in
theorem KyS.round(S:KyS h m rec ps g xs sl)(hm:m<h.size)(hx:xs.length<=1000000){g1:za}{k:Bt}(ae:MapIt g1 (h.size+3) m (znr ps) ((k::xs.reverse).map Bl))(z1:g1.size=g.size)(f1:∀j,j≠h.size+3->g1[j]?=g[j]?)(hk:k∉xs)(af:k∈ps.map (·.1))
  {x6 x4 x0 x1:Value} (hK:∀g' ah,KyS h m rec ps g' (xs++[k]) ah->g'[h.size+3]?=g1[h.size+3]?->g'[m]?=g1[m]?->K (.bool true) g'):
  zac Tp 13 (rfA (codeOf Tryz.f278)) (rfB (codeOf Tryz.f278)) rec (h.size+2) K [(7,[],.string k),(6,[],x6),(4,[],x4),(2,[],.pointer (some ⟨h.size,0,none⟩)),(0,[],x0),(1,[],x1)] g1:=by
 apply xz
 have gz:=S.gz
 have ky:=S.keep.size
 refine⟨by rw[f1 _ (by omega)];exact S.rc,?_⟩
 intro h2
 have e2:∀j,j≠h.size+2->h2[j]?=g1[j]?:=λj hj=>zm hj
 have l2:h2[h.size+2]?=some (.loop (rec .busy none)):=set_self (by omega)
 have z2:h2.size=g1.size:=AU
 clear_value h2
 have aa:∀j,j≠h.size+2->j≠h.size+3->h2[j]?=g[j]?:=λj a b=>(e2 j a).trans (f1 j b)
 have B2:Blk h2 h.size #[slV sl]:=S.box.keep (aa _ (by omega) (by omega))
 refine⟨sl,B2.cell rfl,?_⟩
 intro h3
 have k3:Keep h2.size h2 h3:=Keep.push _ _ (Ac _)
 have z3:h3.size=h2.size+1:=Am _
 have S3:Blk h3 h2.size #[.string k]:=Blk.new _ _ _
 clear_value h3
 have o2:Owns h2 (h.size+4) 9 1 sl (xs.map Bl):=S.o.keep λp hp=>by
  have:=S.o.base_le p hp
  exact aa _ (by omega) (by omega)
 have o3:=o2.keepN k3
 have hl:=qcm S.o
 refine zei z0w o3 (src:=⟨some ⟨h2.size,0,none⟩,1,1⟩) (news:=[.string k]) (n:=h3.size) ?_ rfl (by simp[Value.oneCell']) (by simp only;omega) (by simp only;omega) (by omega) λs' h4 q1 q2 q3 q4 q5=>⟨s',rfl,?_⟩
 ·refine .inr ⟨h2.size,0,rfl,by omega,λi v hv=>?_⟩
  match i,hv with
  |0,hv=>cases hv;exact S3.cell rfl
 have ab:∀j,j<h.size+4->h4[j]?=h2[j]?:=λj hj=>by
  rw[q3 j (by omega) λp hp=>by have:=o3.base_le p hp;omega]
  exact k3.get j (by omega)
 refine wb qd4 qd5 (B2.keep (ab _ (by omega))) (by show 0<1;omega) rfl λh5 u1 u3 u2=>?_
 have Z:∀j,j<h.size+4->j≠h.size->h5[j]?=h2[j]?:=λj hj h0=>(u2 j h0).trans (ab j hj)
 have l5:h5[h.size+2]?=some (.loop (rec .busy none)):=by rw[Z _ (by omega) (by omega)];exact l2
 refine⟨l5,hK _ s' ⟨?_,?_,set_self (by omega),?_,?_,?_,?_,?_,?_⟩ ?_ ?_⟩
 ·refine S.keep.trans ⟨by rw[AU];omega,λj hj=>?_⟩ (Ac _)
  rw[zm (by omega),Z j (by omega) (by omega),aa j (by omega) (by omega)]
 ·rw[zm (by omega),Z _ (by omega) (by omega),aa _ (by omega) (by omega)];exact S.d
 ·exact Blk.keep u1 (zm (by omega))
 ·have:Owns h5 (h.size+4) 9 1 s' ((xs++[k]).map Bl):=by
   rw[BW]
   exact q2.keep λp hp=>by have:=q2.base_le p hp;exact u2 _ (by omega)
  exact this.keep λp hp=>by have:=this.base_le p hp;exact zm (by omega)
 ·rw[List.reverse_append]
  refine ae.keep ?_ ?_
  ·rw[zm (by omega),Z _ (by omega) (by omega),e2 _ (by omega)]
  ·rw[zm (by omega),Z _ (by omega) (by omega),e2 _ (by omega)]
 ·rw[CG]
  exact⟨S.nd,by simp,λa ha b hb e=>by rw[A6]at hb;subst hb;subst e;exact hk ha⟩
 ·intro x hx
  rw[Aw,A6]at hx
  rcases hx with hx|rfl
  ·exact S.sub x hx
  ·exact af
 ·rw[AU];omega
 ·rw[zm (by omega),Z _ (by omega) (by omega),e2 _ (by omega)]
 ·rw[zm (by omega),Z _ (by omega) (by omega),e2 _ (by omega)]
end
set_option maxRecDepth 100000 in
theorem ztl{ps:List (Bt×Value)}(C:Blk h c #[.map (some m)])(W:MapW h m (znr ps))(hn:(ps.map (·.1)).Nodup)(hl:ps.length<=1000000)
  (hK:∀(h':za) (sl:Sl) (xs:List Bt),Keep h.size h h'->Owns h' h.size 9 1 sl (xs.map Bl)->xs.Perm (ps.map (·.1))->K (.slice sl.a sl.len sl.cap) h'):
  XC Tp 278 #[.slice none 0 0,.func (.func 238) #[] #[.pointer (some ⟨c,0,none⟩)]] h K:=by
 apply xy ⟨none,0,0⟩
 intro h1
 have k1:Keep h.size h h1:=Keep.push _ _ (Ac _)
 have z1:h1.size=h.size+1:=Am _
 have B1:Blk h1 h.size #[slV ⟨none,0,0⟩]:=Blk.new _ _ _
 clear_value h1
 have hm:=W.lt
 have hc:=C.lt
 refine⟨_,_,rfl,z3n,λrec HY=>?_⟩
 obtain⟨h4,Z⟩:∃h4:za,h4=((h1.push (.deferred (some []))).push (.loop (rec .ready none))):=⟨_,rfl⟩
 have k4:Keep h1.size h1 h4:=by
  rw[Z]
  exact(Keep.push _ _ (Ac _)).trans (Keep.push _ _ (by rw[Am];omega)) (Ac _)
 have z4:h4.size=h1.size+2:=by rw[Z,Am,Am]
 have D4:h4[h1.size]?=some (.deferred (some [])):=by
  rw[Z,BV,if_neg (by rw[Am];omega)];exact yb _ _
 have L4:h4[h1.size+1]?=some (.loop (rec .ready none)):=by
  rw[Z]
  have:=yb (h1.push (.deferred (some []))) (.loop (rec .ready none))
  rw[Am]at this;exact this
 rw[<-Z]
 clear Z
 have aa:Keep h.size h h4:=k1.trans k4 (by omega)
 have e1:h1.size=h.size+1:=z1
 rw[e1]at D4 L4 HY ⊢
 apply yi
 refine⟨some m,(C.keep (aa.get c hc)).cell rfl,?_⟩
 have W4:MapW h4 m (znr ps):=W.keep (aa.get m hm)
 refine z7p qht W4 λh5 z5 k5 ah=>⟨some ⟨h4.size,0,none⟩,rfl,λg=>∃xs sl,KyS h m rec ps g xs sl,λg=>leftN g (h.size+3) m,⟨[],⟨none,0,0⟩,?_⟩,?_⟩
 ·have e4:h4.size=h.size+3:=by omega
  rw[e4]at ah
  exact⟨aa.trans k5 (by omega),(k5.get _ (by omega)).trans D4,(k5.get _ (by omega)).trans L4,(B1.ofKeep k4).keep (k5.get _ (by omega)),Owns.nil _ _ _ _,ah,Di,λx hx=>(by cases hx),by omega⟩
 have e4:h4.size=h.size+3:=by omega
 rw[e4]
 rintro g ⟨xs,sl,S⟩
 have au:((znr ps).map (·.1)).Nodup:=by rw[z3o];exact z3p hn
 have ar:xs.length<=1000000:=by
  have h1:=zvs S.nd S.sub
  rw[AH]at h1;omega
 refine qcl S.it au (by omega) (λai=>.inl ⟨rfl,(λhx=>by cases hx),λ_=>.inl ⟨S.rc,?_⟩⟩) λk v ap hk g1 aj af ak f1 ae=>.inr ⟨k,v,rfl,λ_=>?_,λhx=>by cases hx⟩
 ·have ax:=S.gz
  refine⟨sl,?_,?_,hK _ sl xs ?_ ?_ ?_⟩
  ·exact(S.box.keep (zm (by omega))).cell rfl
  ·rw[zm (by omega)];exact S.d
  ·refine S.keep.trans ⟨by rw[AU,AU];exact Ac _,λj hj=>?_⟩ (Ac _)
   rw[zm (by omega),zm (by omega)]
  ·refine(S.o.keep λp hp=>?_).base (by omega)
   have:=S.o.base_le p hp
   rw[zm (by omega),zm (by omega)]
  ·refine(List.perm_ext_iff_of_nodup S.nd hn).2 λa=>⟨S.sub a,λha=>?_⟩
   obtain⟨p,hp,rfl⟩:=Bc.1 ha
   have:=ai (.string p.1,p.2) (Bc.2 ⟨p,hp,rfl⟩)
   obtain⟨x,hx,e⟩:=Bc.1 this
   injection e with e
   subst e
   exact List.mem_reverse.1 hx
 ·obtain⟨⟨kk,vv⟩,ab,e⟩:=Bc.1 ap
  injection e with e1 e2
  subst e1;subst e2
  have am:kk∉xs:=λhx=>hk (Bc.2 ⟨kk,List.mem_reverse.2 hx,rfl⟩)
  refine z7q af ⟨_,_,rfl,HY ?_ ?_⟩
  ·rw[f1 _ (by omega)];exact S.rc
  ·refine S.round hm ar aj ak f1 am (Bc.2 ⟨_,ab,rfl⟩) λg' an S' q1 q2=>⟨true,rfl,(λhx=>by cases hx),λ_=>⟨⟨_,an,S'⟩,?_⟩⟩
   show leftN g' (h.size+3) m<_
   rw[leftN.keep q1 q2];exact ae
theorem zq9{ps:List (Bt×Value)}(C:Blk h c #[.map (some m)])(W:MapW h m (znr ps))(hn:(ps.map (·.1)).Nodup)(hl:ps.length<=1000000)
  (hK:∀h' sl,Keep h.size h h'->Owns h' h.size 9 1 sl ((w8 (ps.map (·.1))).map Bl)->K (.slice sl.a sl.len sl.cap) h'):
  XC Tp 173 #[.func (.func 238) #[] #[.pointer (some ⟨c,0,none⟩)]] h K:=by
 apply Wy
 apply Js
 refine ztl C W hn hl λh1 sl xs k1 o1 hp=>⟨sl,rfl,sl,rfl,?_⟩
 have Z:xs.length<=1000000:=by rw[hp.length_eq,AH];exact hl
 refine XC.mono (z3m o1 Z) ?_
 rintro v h2 ⟨rfl,o2,z2,f2⟩
 refine⟨rfl,hK h2 sl ⟨CV k1.size z2,λi hi=>?_⟩ (by rw[<-zns hp];exact o2)⟩
 refine(f2 i (C7 hi k1.size) λp hp=>?_).trans (k1.get i hi)
 have:=(o1.base_le p hp).1
 omega
end
end Go.X
end
section
namespace Go.X
open Go Go.X Go.Proofs Go.Lib
section
theorem z9l:MapT Tp 193 9 26 (.agg #[.int .i64 0,.string ⟨#[]⟩,.slice none 0 0,.slice none 0 0]):=⟨by kernel_rfl,by kernel_rfl,⟨Tryz.t26,by kernel_rfl,by kernel_rfl⟩⟩
theorem z3q{l:List (Bt×Value)}{k:Bt}(h:k∉l.map (·.1)):zi8 l k=none:=by
 induction l with
 |nil=>rfl
 |cons p l ih=>
  simp only[Az,Af,not_or]at h
  rw[zi8,if_neg (λe=>h.1 e.symm),ih h.2]
theorem znt{α β:Type}{xs:List α}{ys:List β}{k:Nat}(hk:k<xs.length){u:β}(hy:ys.length=k):(xs.take (k+1)).zip (ys++[u])=(xs.take k).zip ys++[(xs[k],u)]:=by
 rw[Av hk,List.zip_append (by simp;omega)];rfl
set_option maxHeartbeats 1000000 in
theorem zx3{v:Tr}(hn:v.keys.Nodup)(hl:v.keys.length=v.items.length)(hi:v.items.length<=1000000000000){h:za}{M:Fr}{u:Value}(ag:AgM M h)(hu:RdV M .tree v u){K:Value->za->Prop}
  (hK:∀(h':za) (m:Nat) (us:List Value),Keep h.size h h'->h.size<=m->us.length=v.items.length->(∀i (h1:i<v.items.length) (h2:i<us.length),RdV M .tree v.items[i] us[i])->MapW h' m (znr (v.keys.zip us))->K (.map (some m)) h'):
  XC Tp 172 #[u] h K:=by
 obtain⟨sk,si,rfl,rk,ri⟩:=wn hu
 obtain⟨lk,_,_⟩:=rowLen rk
 obtain⟨li,_,_⟩:=rowLen ri
 apply zf5 v.kind v.text sk si
 intro h1
 have k1:Keep h.size h h1:=Keep.push _ _ (Ac _)
 have b1:Blk h1 h.size (z8p v.kind v.text sk si).toArray:=Blk.new _ _ _
 have z1:h1.size=h.size+1:=Am _
 clear_value h1
 refine⟨sk,b1.cellAdd (by rfl),?_⟩
 intro h3
 have k3:Keep h1.size h1 h3:=Keep.push _ _ (Ac _)
 have w3:MapW h3 h1.size []:=MapW.new _
 have z3:h3.size=h1.size+1:=Am _
 clear_value h3
 have b3:=b1.ofKeep k3
 have kk:Keep h.size h h3:=k1.trans k3 (by omega)
 refine⟨sk,b3.cellAdd (by rfl),λx g=>∃(k:Nat) (us:List Value),x=(k:Int)/\k<=v.items.length/\us.length=k/\g.size=h3.size/\(∀j,j≠h1.size->g[j]?=h3[j]?)/\(∀i (h1:i<v.items.length) (h2:i<us.length),RdV M .tree v.items[i] us[i])/\MapW g h1.size (znr ((v.keys.take k).zip us)),
  λx _=>v.items.length-x.toNat,⟨0,[],rfl,Cv _,rfl,rfl,λ_ _=>rfl,λi _ h2=>by simp at h2,by simpa[znr]using w3⟩,?_⟩
 rintro x g ⟨k,us,rfl,hk,af,zg,fg,hr,wg⟩
 have kg:Keep h.size h g:=⟨by omega,λj hj=>by rw[fg j (by omega)];exact kk.get j hj⟩
 have agg:=ag.keep kg
 refine⟨λhc=>?_,λhc=>?_⟩
 ·have Z:k<v.keys.length:=by rw[lk]at hc;simp at hc;omega
  have ab:k<v.items.length:=by omega
  refine zz3 agg rk Z rfl rfl ?_
  have bg:Blk g h.size (z8p v.kind v.text sk si).toArray:=b3.keep (fg _ (by omega))
  obtain⟨a,ck,ci,ea,aj,r1,r2⟩:=zpg agg ri ab
  refine⟨si,bg.cellAdd (by rfl),a,⟨ea,by omega,by omega⟩,v.items[k].kind,v.items[k].text,ck,ci,?_,?_⟩
  ·rw[Al];exact aj
  refine z7o z9l wg v.keys[k] _ λg' ah ak ai=>?_
  rw[Yk ab (by omega)]
  refine⟨⟨k+1,us++[.agg #[.int .i64 v.items[k].kind,.string v.items[k].text,slV ck,slV ci]],rfl,by omega,by simp;omega,by omega,λj hj=>(ai j hj).trans (fg j hj),λi h1 h2=>?_,?_⟩,by simp only[Al];omega⟩
  ·rw[List.getElem_append]
   split
   ·rename_i h3;exact hr i h1 h3
   ·rename_i h3
    have:i=k:=by simp at h2;omega
    subst this
    simp only[af,Ei,List.getElem_cons_zero]
    exact jz r1 r2
  ·rw[znt Z af]
   have aa:zi8 ((v.keys.take k).zip us) v.keys[k]=none:=z3q λhm=>by
    rw[List.map_fst_zip (by simp;omega)]at hm
    have ae:=hn
    have e:v.keys=v.keys.take k++v.keys[k]::v.keys.drop (k+1):=by rw[<-Ba Z,BQ]
    rw[e,CG]at ae
    exact ae.2.2 _ hm _ Aj rfl
   rw[zbn aa]at ah
   exact ah
 ·have Z:k=v.keys.length:=by rw[lk]at hc;simp at hc;omega
  subst Z
  rw[AW]at wg
  exact hK g h1.size us kg (by omega) (by omega) hr wg
end
end Go.X
end
section
namespace Go.X
open Go Go.Lib
section
def zvt:List (Bt×Tr)->Bt->Tr
 |[],_=>.mk 0 (bl []) [] []
 |p::l,k=>if p.1=k then p.2 else zvt l k
mutual
def qa:Tr->Tr
 |.mk k s ks xs=>if k=6 then .mk k s (w8 ks) ((w8 ks).map λq=>zvt (ks.zip (zi2 xs)) q)else .mk k s [] (zi2 xs)
def zi2:List Tr->List Tr
 |[]=>[]
 |x::l=>qa x::zi2 l
end
def ji(v:Tr):Tr:=if X7 v=true then qa v else .mk 0 (bl []) [] []
theorem zi3:∀l:List Tr,zi2 l=l.map qa
 |[]=>rfl
 |x::l=>by rw[zi2,zi3 l];rfl
theorem zfd(v:Tr):qa v=if v.kind=6 then .mk v.kind v.text (w8 v.keys) ((w8 v.keys).map λq=>zvt (v.keys.zip (v.items.map qa)) q)else .mk v.kind v.text [] (v.items.map qa):=by
 cases v with
 |mk k s ks xs=>rw[qa,zi3]
theorem zvu(k:Bt):∀(ks:List Bt) (ys:List Tr),ks.length=ys.length->k∈ks->∃(j:Nat) (h1:j<ks.length) (h2:j<ys.length),ks[j]=k/\zvt (ks.zip ys) k=ys[j]/\∀us:List Value,us.length=ks.length->zi8 (ks.zip us) k=us[j]?
 |[],_,_,h=>by cases h
 |z::ks,[],h,_=>by simp at h
 |z::ks,y::ys,h,hk=>by
  by_cases hz:z=k
  ·refine⟨0,by simp,by simp,hz,?_,λus hu=>?_⟩
   ·rw[CB,zvt,if_pos hz];rfl
   ·match us,hu with
    |u::us,_=>rw[CB,zi8,if_pos hz];rfl
  ·have Z:k∈ks:=by
    rcases Af.1 hk with e|e
    ·exact absurd e.symm hz
    ·exact e
   obtain⟨j,h1,h2,e1,e2,e3⟩:=zvu k ks ys (by simpa using h) Z
   refine⟨j+1,by simp;omega,by simp;omega,by simpa using e1,?_,λus hu=>?_⟩
   ·rw[CB,zvt,if_neg hz,e2];rfl
   ·match us,hu with
    |u::us,hu=>rw[CB,zi8,if_neg hz,e3 us (by simpa using hu)];rfl
end
end Go.X
end
section
namespace Go.X
open Go Go.X Go.Proofs Go.RowKit
section
variable {ks:List Bt}
theorem Owns.frz{h g:za}{M M':Fr}(L:Later h M g M'){s:Sl}{base:Nat}(o:Owns g base 9 1 s (ks.map Bl))(hb:h.size<=base)(hk:ks.length<=1000000):
  ∃M2,Later h M g M2/\(∀c,c<base->M2 c=M' c)/\Rd M2 (.row .str) ks [slV s]:=by
 have hl:=qcm o
 rcases o.2 with⟨hv,h0⟩|⟨b,cap,Z,hv,aa,hg,r1,r2,r3,r4⟩
 ·have hx:ks=[]:=AO (by omega)
  subst hx
  simp only[AX]at hv
  refine⟨M',L,λ_ _=>rfl,⟨_,rfl,s.a,s.cap,?_,⟨by simp,by simp⟩,.inl rfl⟩⟩
  show slV s=_
  unfold slV;rw[h0];rfl
 ·simp only[AX]at hv
  obtain⟨ha,_,hc⟩:=hv
  have hB:Blk g b Z:=⟨_,hg⟩
  refine⟨MxL M' g [b],⟨L.keep,L.le.trans (zig L.ag _),λx hx=>?_,MxL.ag L.ag _⟩,λc hc=>?_,⟨_,rfl,s.a,s.cap,?_,⟨by omega,by omega⟩,.inr ⟨b,0,Z,ha,MxL.at (by simp) hB,λi hi=>?_⟩⟩⟩
  ·unfold MxL
   rw[if_neg (by simp;omega)]
   exact L.old x hx
  ·unfold MxL
   rw[if_neg (by simp;omega)]
  ·show slV s=_
   unfold slV;rw[hl]
  ·show cut Z (0+i*1) 1=[.string ks[i]]
   apply BC
   intro q
   rw[yk]
   by_cases hq:q<1
   ·have:q=0:=by omega
    subst this
    rw[if_pos hq]
    have e:(Z.toList.take (s.len*1))[i]?=(ks.map Bl)[i]?:=by rw[r4]
    rw[AL,if_pos (by omega)]at e
    rw[show 0+i*1+0=i from by omega,e]
    simp[hi]
   ·rw[if_neg hq,BS (by simp;omega)]
structure SrS (h:za) (M:Fr) (r o lo:Nat) (k:Int) (s:Bt) (sk:Sl) (xs:List Tr) (g:za) (M':Fr) (so:Sl) (bs:List Nat):Prop where
 L:Later h M g M'
 res:Blk g r #[.int .i64 0,.string ⟨#[]⟩,.slice none 0 0,.slice none 0 0]
 out:Blk g o #[.int .i64 k,.string s,slV sk,slV so]
 row:ORow lo g M' .tree xs so bs
 nO:M' o=none
 nR:M' r=none
 hr:h.size<=r
 ro:r<o
 ol:o<lo
 lg:lo<=g.size
section
variable {h : za} {M : Fr} {r o lo : Nat} {k : Int} {s : Bt} {sk : Sl} {xs : List Tr} {g : za} {M' : Fr} {so : Sl} {bs : List Nat}
theorem SrS.add(S:SrS h M r o lo k s sk xs g M' so bs)(hn:xs.length<=1000000){g1:za}{M1:Fr}(L1:Later g M' g1 M1){x:Tr}{xk xi:Sl}(rx:RdV M1 .tree x (.agg #[.int .i64 x.kind,.string x.text,slV xk,slV xi])){K:za->Prop}
  (hK:∀g' aA ah,SrS h M r o lo k s sk (xs++[x]) g' M1 aA ah->(∀j,j<lo->j≠o->g'[j]?=g[j]?)->K g'):
  let Z:=g1.push (.cells #[.int .i64 x.kind,.string x.text,slV xk,slV xi] 26)
  Z5 Tp (AB #[24,24] 24 #[slV so,.slice (some ⟨g1.size,0,none⟩) 1 1]) Z (λv af=>∃z:Sl,v=slV z/\zk Tp (An 24 (.pointer (some (Ai ⟨o,0,none⟩ 3))) (slV z)) af K):=by
 intro Z
 have au:Keep g1.size g1 Z:=Keep.push _ _ (Ac _)
 have aE:Z.size=g1.size+1:=Am _
 have aB:Blk Z g1.size [.int .i64 x.kind,.string x.text,slV xk,slV xi].toArray:=Blk.new _ _ _
 clear_value Z
 have z1:=L1.keep.size
 have hr:=S.hr;have az:=S.ro;have ap:=S.ol;have aG:=S.lg
 have ae:Later g M' Z M1:=L1.trans (Later.same L1.ag au)
 have ak:=S.row.call ae
 have rd:Rd M1 .tree x [.int .i64 x.kind,.string x.text,slV xk,slV xi]:=by
  unfold RdV at rx
  simp only[zjf,if_true]at rx
  obtain⟨cs,e,hr⟩:=rx
  injection e with e
  have:cs=[.int .i64 x.kind,.string x.text,slV xk,slV xi]:=by
   have:=congrArg Array.toList e
   simpa using this.symm
  rw[<-this];exact hr
 refine ORow.app zux (by omega) ae.ag ak (by omega) aB rd hn λs' af ah ab aC aF am=>⟨s',rfl,?_⟩
 have ar:∀c∈bs,lo<=c/\c<g.size/\M' c=none:=S.row.own
 have aj:∀j,j<lo->af[j]?=g[j]?:=λj hj=>by
  rw[am j (by omega) (λhm=>by have:=(ar j hm).1;omega),au.get j (by omega)]
  exact L1.keep.get j (by omega)
 rw[zu]
 refine wb qhy qhz (S.out.keep (aj o ap)) (by show 3<4;omega) rfl λan u1 u3 u2=>?_
 have aa:∀j,j<lo->j≠o->an[j]?=g[j]?:=λj hj h0=>(u2 j h0).trans (aj j hj)
 have ai:∀c∈ah,lo<=c/\c<af.size/\M1 c=none:=ab.own
 have hg:=S.L.keep.size
 refine hK an s' ah ⟨⟨⟨by omega,λj hj=>?_⟩,S.L.le.trans L1.le,λb hb=>?_,?_⟩,?_,u1,?_,?_,?_,hr,az,ap,by omega⟩ aa
 ·rw[aa j (by omega) (by omega)]
  exact S.L.keep.get j hj
 ·rw[L1.old b (by omega)];exact S.L.old b hb
 ·intro c cs e
  have hc:=ae.ag.lt e
  have ax:c∉bs:=λhm=>by
   obtain⟨_,h1,h2⟩:=ar c hm
   rw[L1.old c h1,h2]at e;cases e
  have ay:c≠o:=λh=>by
   subst h
   rw[L1.old c (by omega),S.nO]at e;cases e
  rw[u2 c ay,am c hc ax]
  exact ae.ag c cs e
 ·exact S.res.keep (aa r (by omega) (by omega))
 ·exact ab.frame (λc hc=>u2 c (by have:=(ai c hc).1;omega)) (Fr.le.refl _) λc hc=>(ai c hc).2.2
 ·rw[L1.old o (by omega)];exact S.nO
 ·rw[L1.old r (by omega)];exact S.nR
theorem SrS.fin(S:SrS h M r o lo k s sk xs g M' so bs)(hn:xs.length<=1000000)(rk:Rd M' (.row .str) ks [slV sk]){w:Tr}(hw:Tr.mk k s ks xs=w):
  ∃(x1:Int) (x2:Bt) (x3 x4:Sl),zd g ⟨o,0,none⟩ 0 [.int .i64 x1,.string x2,slV x3,slV x4]/\zk Tp (An 26 (.pointer (some ⟨r,0,none⟩)) (.agg #[.int .i64 x1,.string x2,slV x3,slV x4])) g λab=>
   ∃(y1:Int) (y2:Bt) (y3 y4:Sl),zd ab ⟨r,0,none⟩ 0 [.int .i64 y1,.string y2,slV y3,slV y4]/\∃M2 q,Later h M ab M2/\zcx M2 [.tree] q (.agg #[.int .i64 y1,.string y2,slV y3,slV y4])/\q=w:=by
 refine⟨k,s,sk,so,S.out.ld (cs:=[_,_,slV sk,slV so]),?_⟩
 refine Yd S.res λg2 f2 z2 B2=>⟨k,s,sk,so,B2.ld (cs:=[_,_,slV sk,slV so]),?_⟩
 have hr:=S.hr;have ai:=S.ro;have af:=S.ol;have ah:=S.lg
 have aa:∀c∈bs,lo<=c/\c<g.size/\M' c=none:=S.row.own
 have Z:AgM M' g2:=λc cs e=>by
  rw[f2 c (λh=>by subst h;rw[S.nR]at e;cases e)]
  exact S.L.ag c cs e
 have ae:ORow lo g2 M' .tree xs so bs:=S.row.frame (λc hc=>f2 c (by have:=(aa c hc).1;omega)) (Fr.le.refl _) λc hc=>(aa c hc).2.2
 have L2:Later h M g2 M':=⟨⟨by have:=S.L.keep.size;omega,λj hj=>by rw[f2 j (by omega)];exact S.L.keep.get j hj⟩,S.L.le,S.L.old,Z⟩
 refine⟨MxL M' g2 bs,_,⟨L2.keep,L2.le.trans (zig Z bs),λb hb=>?_,MxL.ag Z bs⟩,zdo.2 (jz (v:=.mk k s ks xs) (rk.mono (zig Z bs)) (ae.rd Z (λc hc=>hc) hn)),hw⟩
 unfold MxL
 rw[if_neg (λhm=>by have:=(aa b hm).1;omega)]
 exact S.L.old b hb
end
set_option maxRecDepth 100000 in
set_option maxHeartbeats 2000000 in
theorem zvv:∀(n:Nat) (v:Tr),n<=1000000->tsz v<=n->zb9 qe v=true->Sm v->∀(h:za) (M:Fr) (u:Value),AgM M h->RdV M .tree v u->PX Tp 98 #[u] h M [.tree] (λq=>q=qa v)
 |0,v,_,hz,_,_=>by have:=zcb v;omega
 |n+1,v,hn,hz,hok,hsm=>by
  intro h M u ag hu
  have bm:=hu
  obtain⟨sk,si,rfl,rk,ri⟩:=wn hu
  have aa:=hok
  rw[xt,As]at aa
  have bg:v.items.length<=1000000:=by have:=zax v.items;rw[Z2]at hz;omega
  have ih:∀(i:Nat) (hi:i<v.items.length) (h:za) (M:Fr) (u:Value),AgM M h->RdV M .tree v.items[i] u->PX Tp 98 #[u] h M [.tree] (λq=>q=qa v.items[i]):=λi hi=>by
   have hm:=AN hi
   have hs:=wv hm
   have aJ:zb9 qe v.items[i]=true:=by
    rw[xu,AD]at aa
    exact aa.2 _ hm
   exact zvv n v.items[i] (by omega) (by omega) aJ (hsm.item hm)
  obtain⟨li,_,_⟩:=rowLen ri
  apply PX.of
  apply zix v.kind v.text sk si
  intro h1
  have k1:Keep h.size h h1:=Keep.push _ _ (Ac _)
  have z1:h1.size=h.size+1:=Am _
  have B1:Blk h1 h.size #[.int .i64 v.kind,.string v.text,slV sk,slV si]:=Blk.new _ _ _
  clear_value h1
  intro h2
  have k2:Keep h1.size h1 h2:=Keep.push _ _ (Ac _)
  have z2:h2.size=h1.size+1:=Am _
  have R2:Blk h2 h1.size #[.int .i64 0,.string ⟨#[]⟩,.slice none 0 0,.slice none 0 0]:=Blk.new _ _ _
  clear_value h2
  have B2:=B1.ofKeep k2
  refine⟨v.kind,B2.cellAdd (o:=0) (k:=0) rfl,v.text,B2.cellAdd (o:=0) (k:=1) rfl,?_⟩
  intro h5
  have k5:Keep h2.size h2 h5:=Keep.push _ _ (Ac _)
  have z5:h5.size=h2.size+1:=Am _
  have O5:Blk h5 h2.size #[.int .i64 0,.string ⟨#[]⟩,.slice none 0 0,.slice none 0 0]:=Blk.new _ _ _
  clear_value h5
  refine Yd (sk:=⟨none,0,0⟩) (si:=⟨none,0,0⟩) O5 λh6 f6 z6 O6=>?_
  have k6:Keep h2.size h2 h6:=⟨by omega,λj hj=>by rw[f6 j (by omega)];exact k5.get j hj⟩
  have aA:Keep h.size h h6:=(k1.trans k2 (by omega)).trans k6 (by omega)
  have B6:=B2.ofKeep k6
  have R6:=R2.ofKeep k6
  have bh:=ag.keep aA
  refine⟨v.kind,B6.cellAdd (o:=0) (k:=0) rfl,λhx=>?_,λhx=>?_⟩
  ·have h6:v.kind≠6:=by simpa using hx
   have hS:qa v=.mk v.kind v.text [] (v.items.map qa):=by rw[zfd,if_neg h6]
   refine⟨si,B6.cellAdd (o:=0) (k:=3) rfl,λi g=>∃(m:Nat) (M':Fr) (so:Sl) (bs:List Nat),i=(m:Int)/\m<=v.items.length/\SrS h M h1.size h2.size (h2.size+1) v.kind v.text ⟨none,0,0⟩ ((v.items.take m).map qa) g M' so bs,λi _=>v.items.length-i.toNat,
    ⟨0,M,⟨none,0,0⟩,[],rfl,Cv _,⟨Later.same ag aA,R6,O6,ORow.nil,ag.none (by omega),ag.none (by omega),by omega,by omega,by omega,by omega⟩⟩,?_⟩
   rintro i g ⟨m,M',so,bs,rfl,hm,S⟩
   have af:=S.L.ag
   refine⟨λhc=>?_,λhc=>?_⟩
   ·have Z:m<v.items.length:=by have:=of_decide_eq_true hc;omega
    obtain⟨a,ck,ci,ea,br,t1,t2⟩:=zpg af (ri.mono S.L.le) Z
    refine⟨a,⟨ea,by omega,by omega⟩,v.items[m].kind,v.items[m].text,ck,ci,by rw[Al];exact br,?_⟩
    intro am
    have bq:Keep g.size g am:=Keep.push _ _ (Ac _)
    have bL:am.size=g.size+1:=Am _
    have ba:Blk am g.size #[.int .i64 0,.string ⟨#[]⟩,.slice none 0 0,.slice none 0 0]:=Blk.new _ _ _
    clear_value am
    refine Yd ba λaz bj bF bi=>?_
    have aY:Keep g.size g az:=⟨by omega,λj hj=>by rw[bj j (by omega)];exact bq.get j hj⟩
    have bS:=S.out.lt
    refine⟨so,(S.out.ofKeep aY).cellAdd (o:=0) (k:=3) rfl,v.items[m].kind,v.items[m].text,ck,ci,bi.ld (cs:=[_,_,slV ck,slV ci]),?_⟩
    have aQ:Later g M' az M':=Later.same af aY
    refine(ih m Z _ _ _ aQ.ag (jz t1 t2)).go λw aV M2 q L2 ah hq=>?_
    subst hq
    obtain⟨xk,xi,rfl,y1,y2⟩:=wn (zdo.1 ah)
    have bG:=L2.keep.size
    have ho:aV[h2.size]?=az[h2.size]?:=L2.keep.get _ (by omega)
    refine⟨_,_,xk,xi,rfl,by rw[zu];exact ho,?_⟩
    intro bJ
    refine⟨by rw[zu];exact((Keep.push aV _ (Ac _)).get h2.size (by omega)).trans ho,S.add (by rw[AH,Bb];omega) (aQ.trans L2) (jz y1 y2) λg' aB aC S' _=>⟨⟨m+1,M2,aB,aC,by rw[Yk Z (by omega)],Z,?_⟩,?_⟩⟩
    ·rw[Av Z,BW]
     exact S'
    ·show v.items.length-(Aa .i64 ((m:Int)+1)).toNat<v.items.length-(m:Int).toNat
     rw[Yk Z (by omega)];omega
   ·have Z:m=v.items.length:=by have:=of_decide_eq_false hc;omega
    subst Z
    rw[AW]at S
    exact S.fin (by rw[AH];exact bg) z2j hS.symm
  ·have au:v.kind=6:=by simpa using hx
   have hS:qa v=.mk v.kind v.text (w8 v.keys) ((w8 v.keys).map λq=>zvt (v.keys.zip (v.items.map qa)) q):=by rw[zfd,if_pos au]
   have ab:=aa.1
   have aU:v.keys.Nodup:=by
    unfold qe xe at ab
    simp[au]at ab
    exact ab.1.1.2
   have a6:v.keys.length=v.items.length:=by
    unfold qe at ab
    simp[au]at ab
    exact ab.1.2
   refine⟨v.kind,v.text,sk,si,B6.ld (cs:=[_,_,slV sk,slV si]),?_⟩
   refine zx3 aU a6 (by omega) bh bm λak m us aN bC bI be aI=>⟨some m,rfl,?_⟩
   have bT:=aN.size
   apply yo
   intro ae
   have aZ:Keep ak.size ak ae:=Keep.push _ _ (Ac _)
   have bP:ae.size=ak.size+1:=Am _
   have a7:Blk ae ak.size #[.map (some m)]:=Blk.new _ _ _
   clear_value ae
   have ar:MapW ae m (znr (v.keys.zip us)):=aI.keep (aZ.get m aI.lt)
   have aP:(v.keys.zip us).map (·.1)=v.keys:=List.map_fst_zip (by omega)
   refine⟨_,rfl,zq9 a7 ar (by rw[aP];exact aU) (by simp;omega) λaF sl ax aG=>⟨sl,rfl,?_⟩⟩
   rw[aP]at aG
   have bE:=ax.size
   have bH:(w8 v.keys).length=v.keys.length:=zq8 _
   have ai:Keep h6.size h6 aF:=(aN.trans aZ (by omega)).trans ax (by omega)
   have a1:Keep h.size h aF:=aA.trans ai (by omega)
   obtain⟨M2,L2,ap,aE⟩:=Owns.frz (Later.same ag a1) aG (by omega) (by omega)
   have bz:Blk aF h2.size #[.int .i64 v.kind,.string v.text,slV ⟨none,0,0⟩,slV ⟨none,0,0⟩]:=O6.keep (ai.get _ (by omega))
   have aL:M2 h2.size=none:=by rw[ap _ (by omega)];exact ag.none (by omega)
   have bn:M2 h1.size=none:=by rw[ap _ (by omega)];exact ag.none (by omega)
   rw[zu]
   refine wb qhw qhx bz (by show 2<4;omega) rfl λaj aS bU an=>?_
   have bB:Later h M aj M2:=⟨⟨by have:=L2.keep.size;omega,λj hj=>by rw[an j (by omega)];exact L2.keep.get j hj⟩,L2.le,L2.old,λc cs e=>by
    rw[an c (λh=>by subst h;rw[aL]at e;cases e)]
    exact L2.ag c cs e⟩
   have aO:MapW aj m (znr (v.keys.zip us)):=ar.keep ((an m (by omega)).trans (ax.get m ar.lt))
   have aH:=aO.lt
   refine⟨sl,Blk.cell (o:=2) aS rfl,λi g=>∃(p:Nat) (M':Fr) (so:Sl) (bs:List Nat),i=(p:Int)/\p<=(w8 v.keys).length/\SrS h M h1.size h2.size aj.size v.kind v.text sl (((w8 v.keys).take p).map λq=>zvt (v.keys.zip (v.items.map qa)) q) g M' so bs/\Fr.le M2 M'/\(∀j,j<aj.size->j≠h2.size->g[j]?=aj[j]?),λi _=>(w8 v.keys).length-i.toNat,
    ⟨0,M2,⟨none,0,0⟩,[],rfl,Cv _,⟨bB,R6.keep ((an _ (by omega)).trans (ai.get _ (by omega))),aS,ORow.nil,aL,bn,by omega,by omega,by omega,Ac _⟩,Fr.le.refl _,λ_ _ _=>rfl⟩,?_⟩
   obtain⟨bD,_,_⟩:=rowLen aE
   rintro i g ⟨p,M',so,bs,rfl,hp,S,ay,fg⟩
   have af:=S.L.ag
   refine⟨λhc=>?_,λhc=>?_⟩
   ·have Z:p<(w8 v.keys).length:=by have:=of_decide_eq_true hc;omega
    obtain⟨a,a8,x,bu,bo⟩:=zz3 af (aE.mono ay) Z (i:=(p:Int)) rfl (L:=sl.len) rfl (Q:=λx=>x=(w8 v.keys)[p]) rfl
    subst bo
    refine⟨a,a8,(w8 v.keys)[p],bu,so,S.out.cellAdd (o:=0) (k:=3) rfl,?_⟩
    have bA:(w8 v.keys)[p]∈v.keys:=(Jt v.keys).mem_iff.1 (AN Z)
    obtain⟨j,j1,j2,e1,e2,e3⟩:=zvu (w8 v.keys)[p] v.keys (v.items.map qa) (by rw[AH];exact a6) bA
    rw[AH]at j2
    have aT:j<us.length:=by omega
    obtain⟨ck,ci,eu,t1,t2⟩:=wn (be j j2 aT)
    have wg:MapW g m (znr (v.keys.zip us)):=aO.keep (fg m aH (by omega))
    refine⟨v.items[j].kind,v.items[j].text,ck,ci,?_,rfl,?_⟩
    ·have:=zbm z9l wg.at (w8 v.keys)[p] false
     have eg:zyw (v.keys.zip us) (w8 v.keys)[p] (.agg #[.int .i64 0,.string ⟨#[]⟩,.slice none 0 0,.slice none 0 0])=us[j]:=by
      unfold zyw
      rw[e3 us (by omega),Aq aT];rfl
     rw[if_neg (by simp),eg,eu]at this
     exact this
    refine(ih j j2 _ _ _ af (jz (t1.mono S.L.le) (t2.mono S.L.le))).go λw aM M3 q L3 ah hq=>?_
    subst hq
    obtain⟨xk,xi,rfl,y1,y2⟩:=wn (zdo.1 ah)
    have bM:=L3.keep.size
    have bQ:=S.lg
    have ho:aM[h2.size]?=g[h2.size]?:=L3.keep.get _ (by omega)
    refine⟨_,_,xk,xi,rfl,by rw[zu];exact ho,?_⟩
    intro bO
    refine⟨by rw[zu];exact((Keep.push aM _ (Ac _)).get h2.size (by omega)).trans ho,S.add (by rw[AH,Bb];omega) L3 (jz y1 y2) λg' aB aC S' f'=>⟨⟨p+1,M3,aB,aC,by rw[Yk Z (by omega)],Z,?_,ay.trans L3.le,λj hj h0=>(f' j hj h0).trans (fg j hj h0)⟩,?_⟩⟩
    ·rw[Av Z,BW,Az,Cm,e2,DR]
     exact S'
    ·show(w8 v.keys).length-(Aa .i64 ((p:Int)+1)).toNat<(w8 v.keys).length-(p:Int).toNat
     rw[Yk Z (by omega)];omega
   ·have Z:p=(w8 v.keys).length:=by have:=of_decide_eq_false hc;omega
    subst Z
    rw[AW]at S
    exact S.fin (by rw[AH];omega) (aE.mono ay) hS.symm
end
end Go.X
end
