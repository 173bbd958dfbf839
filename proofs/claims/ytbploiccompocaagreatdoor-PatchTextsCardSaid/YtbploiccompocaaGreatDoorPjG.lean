/- A part of the proof: nothing is stated here for its own sake. -/
import Derived.Test.YtbploiccompocaaGreatDoorPjF
open _root_.Go.Addr renaming add->Aj
open _root_.Array renaming size_push->Ak,toList->Dk
open _root_.Bool renaming and_eq_true->AI,not_eq_true'->B4,or_eq_true->Cr
open _root_.Go.Builtin renaming append_->Au
open _root_.Go.Instr renaming storeAt->Ai
open _root_.Int renaming toNat_natCast->Ad
open _root_.Go.IntKind renaming wrap->Aa
open _root_.List renaming all_append->CR,all_cons->CB,all_eq_true->AQ,any_cons->EV,any_eq_true->Ei,append_assoc->AP,ext_getElem?->A7,getD_eq_getElem?_getD->Bl,getElem?_append_left->Bo,getElem?_append_right->Bj,getElem?_eq_getElem->Am,getElem?_eq_none->Bu,getElem?_eq_some_iff->Az,getElem_append_left->CX,getElem_append_right->Cx,getElem_mem->As,length_append->Ao,length_cons->Ay,length_map->Ba,length_singleton->Cj,length_take->AR,map_append->BF,map_cons->Dq,mem_append->An,mem_append_left->Aq,mem_append_right->AC,mem_map->BN,mem_of_getElem?->CF,mem_singleton->Be,take_length->AD,take_succ_eq_append_getElem->Ag
open _root_.Nat renaming add_mul->BH,le_refl->Ae,mul_le_mul_right->AM,one_mul->Dj,succ_mul->DI,zero_add->AH
open _root_.Go.Value renaming string->AU
set_option linter.unusedVariables false
set_option maxRecDepth 100000
namespace Go.X
end Go.X
namespace Go.Proofs
end Go.Proofs
open Go Go.X Go.Proofs
section
namespace Go.X
section
variable {v:Tr} {gl:Fr}
def Zn(v:Tr)(key:Bt):Tr×Bool:=if yg v&&(decide (v.kind=6)&&decide (0<=Lib.idxOfS v.keys key))then(v.items.getD (Lib.idxOfS v.keys key).toNat zT,true)else(zT,false)
theorem zha{M:Fr}:RdV M .tree zT (.agg #[.int .i64 0,.string (⟨#[]⟩:Bt),.slice none 0 0,.slice none 0 0]):=by
 refine yn (v:=zT) (sk:=⟨none,0,0⟩) (si:=⟨none,0,0⟩) ?_ ?_
 ·exact⟨_,rfl,none,0,rfl,⟨by simp[zT],by simp[zT]⟩,.inl rfl⟩
 ·exact⟨_,rfl,none,0,rfl,⟨by simp[zT],by simp[zT]⟩,.inl rfl⟩
theorem zkd(ho:yg v=true)(h6:v.kind=6):v.keys.Nodup/\v.keys.length=v.items.length:=
 zj9 (jl (zah ho)) h6
set_option maxHeartbeats 2000000 in
theorem z3e(hg:GL gl)(hv:Sm v){key:Bt}{R:Tr×Bool->Prop}(hR:R (Zn v key)):PC Tp gl 92 [Arg.mk .tree v,Arg.mk .str key] [.tree,.bool] R:=by
 intro h M vs hM ag ha
 match vs,ha with
 |[u,uk],⟨hu,Z,_⟩=>
 have hu:RdV M .tree v u:=hu
 have Z:RdV M .str key uk:=Z
 have Z:uk=.string key:=by rw[zhf rfl]at Z;have:[uk]=[AU key]:=Z;simpa using this
 subst Z
 have ae:=hu
 obtain⟨sk,si,rfl,rk,ri⟩:=w9 hu
 apply PX.of
 apply zrk v.kind v.text sk si
 intro h1 h2
 have z1:h1.size=h.size+1:=Ak _
 have z2:h2.size=h1.size+1:=Ak _
 have k1:Keep h.size h h1:=Keep.push _ _ (Ae _)
 have k2:Keep h1.size h1 h2:=Keep.push _ _ (Ae _)
 have b1:Blk h1 h.size (zd v.kind v.text sk si).toArray:=Blk.new _ _ _
 have b2:Blk h2 h1.size (zd 0 ⟨#[]⟩ ⟨none,0,0⟩ ⟨none,0,0⟩).toArray:=Blk.new _ _ _
 clear_value h1 h2
 have K2:Keep h.size h h2:=k1.trans k2 (by omega)
 have al:=ag.keep K2
 refine⟨v.kind,v.text,sk,si,(b1.ofKeep k2).ld (cs:=zd v.kind v.text sk si),?_⟩
 have aa:PC Tp gl 42 [Arg.mk .tree v] [.bool] (λr=>r=yg v):=zfv hg hv rfl
 refine aa.go (vs:=[.agg #[.int .i64 v.kind,.string v.text,slV sk,slV si]]) hM al (qn ae y0) λw h3 M3 r L3 aj hr=>?_
 have hr:r=yg v:=hr
 subst hr
 have K3:Keep h.size h h3:=K2.trans L3.keep (by have:=K2.size;omega)
 have z3:=L3.keep.size
 have ah:=(b1.ofKeep k2).ofKeep L3.keep
 have ai:=b2.ofKeep L3.keep
 refine⟨yg v,zc2 aj,v.kind,λ_=>ah.cellAdd (by rfl),λhx=>?_,λhx=>?_⟩
 ·refine qa ai rfl 0 ⟨#[]⟩ ⟨none,0,0⟩ ⟨none,0,0⟩ λg' b' z' f'=>⟨0,⟨#[]⟩,⟨none,0,0⟩,⟨none,0,0⟩,b'.ld (cs:=zd 0 ⟨#[]⟩ ⟨none,0,0⟩ ⟨none,0,0⟩),?_⟩
  have au:Keep h.size h g':=⟨by have:=K3.size;omega,λj hj=>by rw[f' j (by omega)];exact K3.get j hj⟩
  have e:Zn v key=(zT,false):=by
   unfold Zn
   cases ho:yg v with
   |false=>rfl
   |true=>
    rw[ho]at hx
    have h6:v.kind≠6:=by simpa using hx
    simp[h6]
  rw[e]at hR
  exact⟨M,(zT,false),Later.same ag au,⟨[_,_],⟨_,_,rfl,zha,_,rfl,rdBool _⟩,rfl⟩,hR⟩
 ·have hc:yg v=true/\v.kind=6:=by
   cases ho:yg v with
   |false=>rw[ho]at hx;cases hx
   |true=>rw[ho]at hx;exact⟨rfl,by simpa using hx⟩
  obtain⟨ho,h6⟩:=hc
  obtain⟨ar,am⟩:=zkd ho h6
  have ay:=zoh ho
  refine⟨v.kind,v.text,sk,si,ah.ld (cs:=zd v.kind v.text sk si),?_⟩
  refine zf5 ar am hv.items (ag.keep K3) ae λh4 m us k4 hm az ap w4=>?_
  refine⟨some m,rfl,?_⟩
  have z4:=k4.size
  have K4:Keep h.size h h4:=K3.trans k4 (by have:=K3.size;omega)
  have O:=zbq mapVal w4.at key true
  simp only[if_true]at O
  obtain⟨y,dk,di,b,hget,hry,hsy,hy⟩:∃(y:Tr) (dk di:Sl) (b:Bool),(zwp (v.keys.zip us) key (.agg #[.int .i64 0,.string ⟨#[]⟩,.slice none 0 0,.slice none 0 0])=.agg #[.int .i64 y.kind,.string y.text,slV dk,slV di]/\(zdd (v.keys.zip us) key).isSome=b)/\RdV M .tree y (.agg #[.int .i64 y.kind,.string y.text,slV dk,slV di]) /\
    Sm y/\Zn v key=(y,b):=by
   rcases zo7 key v.keys us 0 (by omega)with⟨g1,g2⟩|⟨j,w,g1,g2,g3⟩
   ·refine⟨zT,⟨none,0,0⟩,⟨none,0,0⟩,false,⟨by unfold zwp;rw[g2];rfl,by rw[g2];rfl⟩,zha,Ji,?_⟩
    unfold Zn Lib.idxOfS
    rw[g1]
    simp
   ·obtain⟨hj,ej⟩:=Az.1 g2
    have ac:j<v.items.length:=by omega
    have hr:=ap j ac hj
    rw[ej]at hr
    obtain⟨dk,di,ew,t3,t4⟩:=w9 hr
    refine⟨v.items[j],dk,di,true,⟨by unfold zwp;rw[g3];exact ew,by rw[g3];rfl⟩,by rw[<-ew];exact hr,hv.item (As ac),?_⟩
    unfold Zn Lib.idxOfS
    rw[g1,ho]
    simp[h6,ac]
  rw[hget.1,hget.2]at O
  refine⟨y.kind,y.text,dk,di,b,O,?_⟩
  intro h5
  have k5:Keep h4.size h4 h5:=Keep.push _ _ (Ae _)
  have z5:h5.size=h4.size+1:=Ak _
  have b5:Blk h5 h4.size (zd 0 ⟨#[]⟩ ⟨none,0,0⟩ ⟨none,0,0⟩).toArray:=Blk.new _ _ _
  clear_value h5
  refine qa b5 rfl _ _ _ _ λax b6 z6 f6=>?_
  refine⟨y.kind,y.text,dk,di,b6.ld (cs:=zd y.kind y.text dk di),?_⟩
  have K6:Keep h.size h ax:=⟨by have:=K4.size;omega,λi hi=>by rw[f6 i (by have:=K4.size;omega),k5.get i (by have:=K4.size;omega)];exact K4.get i hi⟩
  refine(zon (tsz y) y (Ae _) hsy (ag.keep K6) hry).mono ?_
  rintro w' h7 ⟨k7,bs,ck,ci,rfl,ot,af⟩
  have z7:=k7.size
  have K7:Keep h.size h h7:=K6.trans k7 (by have:=K6.size;omega)
  refine⟨y.kind,y.text,ck,ci,rfl,?_⟩
  have an:Blk h7 h1.size (zd 0 ⟨#[]⟩ ⟨none,0,0⟩ ⟨none,0,0⟩).toArray:=by
   have e4:=ai.ofKeep k4
   have e5:=e4.ofKeep k5
   unfold Blk at e5 ⊢
   rw[k7.get _ (by omega),f6 _ (by omega)]
   exact e5
  refine qa an rfl _ _ _ _ λh8 b8 z8 f8=>?_
  have K8:Keep h.size h h8:=⟨by have:=K7.size;omega,λi hi=>by rw[f8 i (by omega)];exact K7.get i hi⟩
  have ak:=ot.frame λb hb=>f8 b (by have:=af b hb;omega)
  rw[hy]at hR
  exact⟨y.kind,y.text,ck,ci,b8.ld (cs:=zd y.kind y.text ck ci),MxL M h8 bs,(y,b),MxL.later ag K8 (λb hb=>by have:=af b hb;have:=K6.size;omega),⟨[_,_],⟨_,_,rfl,ak.rdv,_,rfl,rdBool _⟩,rfl⟩,hR⟩
theorem ztx(hg:GL gl)(hv:Sm v){key:Bt}{R:Tr×Bool->Prop}(hR:R (Zn v key)):PC Tp gl 93 [Arg.mk .tree v,Arg.mk .str key] [.tree,.bool] R:=by
 apply zf0
 rw[qo]
 refine z6c hg hv (qd4 (by have:=hv.keys;omega) ⟨λhx=>?_,λhx=>?_⟩)
 ·have e:Zn v key=(zT,false):=by
   unfold Zn
   cases ho:yg v with
   |false=>rfl
   |true=>
    rw[ho]at hx
    by_cases h6:v.kind=6
    ·have:Lib.idxOfS v.keys key<0:=by simpa[h6]using hx
     rw[decide_eq_false (p:=0<=Lib.idxOfS v.keys key) (by omega)];simp
    ·simp[h6]
  rw[e]at hR
  exact hR
 ·have hc:yg v=true/\v.kind=6/\0<=Lib.idxOfS v.keys key:=by
   cases ho:yg v with
   |false=>rw[ho]at hx;cases hx
   |true=>
    rw[ho]at hx
    have:=hx
    simp at this
    exact⟨rfl,this.1,by omega⟩
  obtain⟨ho,h6,h0⟩:=hc
  obtain⟨Z,O⟩:=zkd ho h6
  have hj:(Lib.idxOfS v.keys key).toNat<v.items.length:=by
   have:=zrw (ks:=v.keys) (k:=key) (j:=(Lib.idxOfS v.keys key).toNat) (by omega)
   omega
  refine⟨v.items[(Lib.idxOfS v.keys key).toNat],⟨h0,Am hj⟩,?_⟩
  rw[qo]
  refine zjo _ (hv.item (As hj)) ?_
  rw[qo]
  have e:Zn v key=(v.items[(Lib.idxOfS v.keys key).toNat],true):=by
   unfold Zn
   rw[ho,decide_eq_true h6,decide_eq_true h0]
   simp[hj]
  rw[e]at hR
  exact hR
end
section
variable {v:Tr} {gl M M':Fr} {h g g':zb} {b:Nat} {sk si:Sl} {o:OpT}
def kOp:Bt:=⟨#[111,112]⟩
def Q1:Bt:=⟨#[112,97,116,104]⟩
def Q2:Bt:=⟨#[102,114,111,109]⟩
def yp:Bt:=⟨#[118,97,108,117,101]⟩
def w6(v:Tr)(key:Bt):Bt×Bool:=((Zn v key).1.text,bif (Zn v key).2 then((Zn v key).1.kind==4)else false)
def y8(v:Tr)(key:Bt):List Bt×Bool:=if(w6 v key).2=true then((zpi (lb (w6 v key).1)).1.map bl,(zpi (lb (w6 v key).1)).2==0)else([],false)
def shR(v:Tr):Bool×Bool×Bool:=zy (lb (w6 v kOp).1)
def Qs(v:Tr):Bool:=(w6 v kOp).2&&((shR v).2.2&&((y8 v Q1).2&&((!(shR v).2.1||(y8 v Q2).2)&&(!(shR v).1||(Zn v yp).2))))
def Yv(v:Tr):OpT:=((w6 v kOp).1,(y8 v Q1).1,(if(shR v).2.1=true then(y8 v Q2).1 else []),if(shR v).1=true then(Zn v yp).1 else zT)
theorem zty(hv:Sm v)(key:Bt):Sm (Zn v key).1:=by
 unfold Zn
 split
 ·show Sm (v.items.getD _ zT)
  rw[Bl]
  cases h:v.items[(Lib.idxOfS v.keys key).toNat]? with
  |none=>exact Ji
  |some y=>exact hv.item (CF h)
 ·exact Ji
theorem zry(hv:Sm v)(key:Bt):(lb (w6 v key).1).length<=1048576:=(zty hv key).text
theorem z8n(hg:GL gl)(hv:Sm v){key:Bt}{R:Bt×Bool->Prop}(hR:R (w6 v key)):PC Tp gl 90 [Arg.mk .tree v,Arg.mk .str key] [.str,.bool] R:=by
 apply zow
 rw[qo]
 exact z3e hg hv hR
theorem qd6(hg:GL gl)(hv:Sm v){key:Bt}{R:List Bt×Bool->Prop}(hR:R (y8 v key)):PC Tp gl 91 [Arg.mk .tree v,Arg.mk .str key] [.row .str,.bool] R:=by
 apply zox
 rw[qo]
 refine z8n hg hv ⟨λhx=>?_,λhx=>?_⟩
 ·unfold y8 at hR
  rw[if_neg (by simpa using hx)]at hR
  exact hR
 ·unfold y8 at hR
  rw[if_pos (by simpa using hx)]at hR
  have:=z6k hg (zry hv key) (R:=λr=>r=((zpi (lb (w6 v key).1)).1.map bl,(zpi (lb (w6 v key).1)).2)) rfl
  rw[Jc]at this
  refine this.mono λr hr=>?_
  subst hr
  exact hR
theorem qbv(hg:GL gl)(hv:Sm v){key:Bt}{R:List Bt×Bool->Prop}(hR:∀p b,b=(y8 v key).2->(b=true->p=(y8 v key).1)->R (p,b)):PC Tp gl 94 [Arg.mk .tree v,Arg.mk .str key] [.row .str,.bool] R:=by
 apply zes
 rw[qo]
 refine ztx hg hv ?_
 have:=z1t (gl:=gl) (zry hv key) (R:=λr=>r=((zpi (lb (w6 v key).1)).1.map bl,(zpi (lb (w6 v key).1)).2)) rfl
 rw[Jc]at this
 refine this.mono λr hr=>?_
 subst hr
 have e:(bif (Zn v key).2 then((Zn v key).1.kind==4)else false)=(w6 v key).2:=rfl
 rw[e]
 refine hR _ _ ?_ ?_
 ·unfold y8
  cases h:(w6 v key).2 <;> simp
 ·unfold y8
  cases h:(w6 v key).2 <;> simp
structure Bx (h:zb) (M:Fr) (b:Nat) (o:OpT):Prop where
 rd:∃sp sf sk si:Sl,Blk h b (zr o.1 sp sf o.2.2.2 sk si).toArray/\RdV M (.row .str) o.2.1 (slV sp)/\RdV M (.row .str) o.2.2.1 (slV sf)/\RdV M .tree o.2.2.2 (.agg (zh o.2.2.2 sk si).toArray)
 no:M b=none
theorem AgM.but{h h':zb}(ag:AgM M h)(hb:M b=Option.none)(f:∀j,j≠b->h'[j]?=h[j]?):AgM M h':=λc cs e=>by
 obtain⟨T,m,e2⟩:=ag c cs e
 exact⟨T,m,by rw[f c (λe'=>by rw[e',hb]at e;cases e)];exact e2⟩
structure Rin (h:zb) (M:Fr) (v:Tr) (sk si:Sl) (b:Nat) (g:zb) (M':Fr) (o:OpT):Prop where
 la:Later h M g M'
 hb:Blk g h.size (zd v.kind v.text sk si).toArray
 bx:Bx g M' b o
 lt:h.size<b
 bg:b<g.size
theorem Rin.call{M' M'':Fr}(I:Rin h M v sk si b g M' o)(L:Later g M' g' M''):Rin h M v sk si b g' M'' o:=by
 have:=L.keep.size
 have:=I.la.keep.size
 obtain⟨sp,sf,ck,ci,e1,e2,e3,e4⟩:=I.bx.rd
 exact⟨I.la.trans L,I.hb.ofKeep L.keep,⟨⟨sp,sf,ck,ci,e1.ofKeep L.keep,RdV.mono L.le e2,RdV.mono L.le e3,RdV.mono L.le e4⟩,by rw[L.old b I.bg];exact I.bx.no⟩,I.lt,by have:=I.bg;omega⟩
theorem Rin.put{o o':OpT}(I:Rin h M v sk si b g M' o)(f:∀j,j≠b->g'[j]?=g[j]?)(z:g'.size=g.size)
  (hb:∃sp sf sk si:Sl,Blk g' b (zr o'.1 sp sf o'.2.2.2 sk si).toArray/\RdV M' (.row .str) o'.2.1 (slV sp)/\RdV M' (.row .str) o'.2.2.1 (slV sf)/\RdV M' .tree o'.2.2.2 (.agg (zh o'.2.2.2 sk si).toArray)):Rin h M v sk si b g' M' o':=by
 have h1:=I.lt
 have h2:=I.la.keep.size
 refine⟨⟨⟨by omega,λj hj=>by rw[f j (by omega)];exact I.la.keep.get j hj⟩,I.la.le,I.la.old,AgM.but I.la.ag I.bx.no f⟩,?_,⟨hb,I.bx.no⟩,h1,by have:=I.bg;omega⟩
 have:=I.hb
 unfold Blk at this ⊢
 rw[f h.size (by omega)];exact this
theorem qes:jb Tp 22=true:=by kernel_rfl
theorem qet:ja Tp 22=1:=by kernel_rfl
theorem ok9:jb Tp 9=true:=by kernel_rfl
theorem sz9:ja Tp 9=1:=by kernel_rfl
theorem qgj:jb Tp 25=true:=by kernel_rfl
theorem qgk:ja Tp 25=4:=by kernel_rfl
section
variable {h : zb} {M : Fr} {v : Tr} {sk si : Sl} {b : Nat} {g : zb} {M' : Fr} {o : OpT} {K : zb -> Prop}
theorem Rin.put0(I:Rin h M v sk si b g M' o)(s:Bt)(hK:∀g',Rin h M v sk si b g' M' (s,o.2)->(∀j,j≠b->g'[j]?=g[j]?)->K g'):XRunU Tp (Ai 9 (.pointer (some ⟨b,0,none⟩)) (.string s)) g K:=by
 obtain⟨sp,sf,ck,ci,e1,e2,e3,e4⟩:=I.bx.rd
 refine zdf ok9 sz9 e1 (by show 0<7;omega) rfl λg' q1 q2 q3=>hK g' (I.put q3 q2 ⟨sp,sf,ck,ci,?_,e2,e3,e4⟩) q3
 exact q1
theorem Rin.put1(I:Rin h M v sk si b g M' o)(p:List Bt){s:Sl}(hp:RdV M' (.row .str) p (slV s))(hK:∀g',Rin h M v sk si b g' M' (o.1,p,o.2.2)->(∀j,j≠b->g'[j]?=g[j]?)->K g'):XRunU Tp (Ai 22 (.pointer (some ⟨b,1,none⟩)) (slV s)) g K:=by
 obtain⟨sp,sf,ck,ci,e1,e2,e3,e4⟩:=I.bx.rd
 refine zdf qes qet e1 (by show 1<7;omega) rfl λg' q1 q2 q3=>hK g' (I.put q3 q2 ⟨s,sf,ck,ci,?_,hp,e3,e4⟩) q3
 exact q1
theorem Rin.put2(I:Rin h M v sk si b g M' o)(p:List Bt){s:Sl}(hp:RdV M' (.row .str) p (slV s))(hK:∀g',Rin h M v sk si b g' M' (o.1,o.2.1,p,o.2.2.2)->(∀j,j≠b->g'[j]?=g[j]?)->K g'):XRunU Tp (Ai 22 (.pointer (some ⟨b,2,none⟩)) (slV s)) g K:=by
 obtain⟨sp,sf,ck,ci,e1,e2,e3,e4⟩:=I.bx.rd
 refine zdf qes qet e1 (by show 2<7;omega) rfl λg' q1 q2 q3=>hK g' (I.put q3 q2 ⟨sp,s,ck,ci,?_,e2,hp,e4⟩) q3
 exact q1
theorem Rin.put3(I:Rin h M v sk si b g M' o)(w:Tr){dk di:Sl}(hp:RdV M' .tree w (.agg (zh w dk di).toArray))(hK:∀g',Rin h M v sk si b g' M' (o.1,o.2.1,o.2.2.1,w)->(∀j,j≠b->g'[j]?=g[j]?)->K g'):XRunU Tp (Ai 25 (.pointer (some ⟨b,3,none⟩)) (.agg #[.int .i64 w.kind,.string w.text,slV dk,slV di])) g K:=by
 obtain⟨sp,sf,ck,ci,e1,e2,e3,e4⟩:=I.bx.rd
 refine Yu (vs:=zh w dk di) qgj e1 rfl qgk (by show 3+4<=7;omega) (λu hu=>?_) λg' q1 q2 q3=>hK g' (I.put q3 q2 ⟨sp,sf,dk,di,?_,e2,e3,hp⟩) q3
 ·simp[zh]at hu
  rcases hu with rfl|rfl|rfl|rfl <;> simp[Value.oneCell',slV]
 ·exact q1
theorem Rin.get(I:Rin h M v sk si b g M' o):∃sp sf ck ci:Sl,ze g ⟨b,0,none⟩ 0 (zr o.1 sp sf o.2.2.2 ck ci)/\Blk g b (zr o.1 sp sf o.2.2.2 ck ci).toArray/\RdV M' Z1 o (.agg (zr o.1 sp sf o.2.2.2 ck ci).toArray):=by
 obtain⟨sp,sf,ck,ci,e1,e2,e3,e4⟩:=I.bx.rd
 exact⟨sp,sf,ck,ci,e1.ld (cs:=zr o.1 sp sf o.2.2.2 ck ci),e1,z3c e2 e3 e4⟩
end
end
section
variable {M:Fr} {w:Value} {b a:Bool}
theorem z8o{s:Bt}(h:RdV M .str s w):w=.string s:=by
 rw[zhf rfl]at h
 have:[w]=[AU s]:=h
 simpa using this
theorem zf6(h:RdV M .bool b w):w=.bool b:=by
 rw[zhf rfl]at h
 have:[w]=[Value.bool b]:=h
 simpa using this
theorem qfx{r:Bt×Bool}(h:Xu M [.str,.bool] r w):w=.tuple #[.string r.1,.bool r.2]:=by
 obtain⟨vs,⟨v1,rest,rfl,hx,v2,rfl,hy⟩,rfl⟩:=h
 rw[z8o hx,zf6 hy];rfl
theorem zv8{r:Bool×Bool×Bool}(h:Xu M [.bool,.bool,.bool] r w):w=.tuple #[.bool r.1,.bool r.2.1,.bool r.2.2]:=by
 obtain⟨vs,⟨v1,rest,rfl,hx,v2,O,rfl,hy,v3,rfl,hz⟩,rfl⟩:=h
 rw[zf6 hx,zf6 hy,zf6 hz];rfl
theorem qd7{r:List Bt×Bool}(h:Xu M [.row .str,.bool] r w):∃s:Sl,w=.tuple #[slV s,.bool r.2]/\RdV M (.row .str) r.1 (slV s):=by
 obtain⟨vs,⟨v1,rest,rfl,hx,v2,rfl,hy⟩,rfl⟩:=h
 obtain⟨s,rfl,_⟩:=zit hx
 exact⟨s,by rw[zf6 hy];rfl,hx⟩
theorem qbw{r:Tr×Bool}(h:Xu M [.tree,.bool] r w):∃sk si:Sl,w=.tuple #[.agg #[.int .i64 r.1.kind,.string r.1.text,slV sk,slV si],.bool r.2]/\RdV M .tree r.1 (.agg (zh r.1 sk si).toArray):=by
 obtain⟨vs,⟨v1,rest,rfl,hx,v2,rfl,hy⟩,rfl⟩:=h
 obtain⟨sk,si,e,_⟩:=w9 hx
 exact⟨sk,si,by rw[zf6 hy,e];rfl,by rw[e]at hx;exact hx⟩
theorem zv9(h:(bif a then b else false)=true):a=true/\b=true:=by cases a <;> cases b <;> simp at h ⊢
theorem qd8(h:(bif (!a)then true else(!b))=false):a=true/\b=true:=by cases a <;> cases b <;> simp at h ⊢
theorem qbx(h:(bif (!a)then true else(!b))=true):(a&&b)=false:=by cases a <;> cases b <;> simp at h ⊢
theorem zke:RdV M (.row .str) [] (slV ⟨none,0,0⟩):=by
 rw[zhf rfl]
 exact⟨_,rfl,none,0,rfl,⟨by simp,by simp⟩,.inl rfl⟩
set_option maxHeartbeats 4000000 in
theorem qd9{gl:Fr}(hg:GL gl){v:Tr}(hv:Sm v){R:OpT×Bool->Prop}(hR:∀o b,b=Qs v->(b=true->o=Yv v)->R (o,b)):PC Tp gl 53 [Arg.mk .tree v] [Z1,.bool] R:=by
 intro h M vs hM ag ha
 match vs,ha with
 |[u],⟨hu,_⟩=>
 have hu:RdV M .tree v u:=hu
 have ah:=hu
 obtain⟨sk,si,rfl,rk,ri⟩:=w9 hu
 apply PX.of
 apply zpd v.kind v.text sk si
 intro h1 h2
 have z1:h1.size=h.size+1:=Ak _
 have z2:h2.size=h1.size+1:=Ak _
 have k1:Keep h.size h h1:=Keep.push _ _ (Ae _)
 have k2:Keep h1.size h1 h2:=Keep.push _ _ (Ae _)
 have b1:Blk h1 h.size (zd v.kind v.text sk si).toArray:=Blk.new _ _ _
 have b2:Blk h2 h1.size (zr ⟨#[]⟩ ⟨none,0,0⟩ ⟨none,0,0⟩ zT ⟨none,0,0⟩ ⟨none,0,0⟩).toArray:=Blk.new _ _ _
 clear_value h1 h2
 have K2:Keep h.size h h2:=k1.trans k2 (by omega)
 have ar:M h1.size=none:=by
  cases e:M h1.size with
  |none=>rfl
  |some cs=>have:=ag.lt e;omega
 have I0:Rin h M v sk si h1.size h2 M (⟨#[]⟩,[],[],zT):=⟨Later.same ag K2,b1.ofKeep k2,⟨⟨_,_,_,_,b2,zke,zke,zha⟩,ar⟩,by omega,by omega⟩
 have ae:∀(b':Bool) (g:zb) (M':Fr) (o':OpT),Rin h M v sk si h1.size g M' o'->b'=Qs v->(b'=true->o'=Yv v) ->
   ∃x1:Bt,∃x2:Sl,∃x3:Sl,∃x4:Int,∃x5:Bt,∃x6:Sl,∃x7:Sl,ze g ⟨h1.size,0,none⟩ 0 [.string x1,.slice x2.a x2.len x2.cap,.slice x3.a x3.len x3.cap,.int .i64 x4,.string x5,.slice x6.a x6.len x6.cap,.slice x7.a x7.len x7.cap] /\
    XRunU Tp (Ai 38 (.pointer (some ⟨h1.size,0,none⟩)) (.agg #[.string x1,.slice x2.a x2.len x2.cap,.slice x3.a x3.len x3.cap,.int .i64 x4,.string x5,.slice x6.a x6.len x6.cap,.slice x7.a x7.len x7.cap])) g (λh'=>
     ∃x1:Bt,∃x2:Sl,∃x3:Sl,∃x4:Int,∃x5:Bt,∃x6:Sl,∃x7:Sl,ze h' ⟨h1.size,0,none⟩ 0 [.string x1,.slice x2.a x2.len x2.cap,.slice x3.a x3.len x3.cap,.int .i64 x4,.string x5,.slice x6.a x6.len x6.cap,.slice x7.a x7.len x7.cap] /\
     (∃M' r',Later h M h' M'/\Xu M' [Z1,.bool] r' (.tuple #[.agg #[.string x1,.slice x2.a x2.len x2.cap,.slice x3.a x3.len x3.cap,.int .i64 x4,.string x5,.slice x6.a x6.len x6.cap,.slice x7.a x7.len x7.cap],.bool b'])/\R r')):=by
  intro b' g M' o' I hb ho
  obtain⟨sp,sf,ck,ci,e1,e2,e3⟩:=I.get
  refine⟨o'.1,sp,sf,o'.2.2.2.kind,o'.2.2.2.text,ck,ci,e1,?_⟩
  refine zka e2 rfl o'.1 sp sf o'.2.2.2 ck ci λg' q1 q2 q3=>⟨o'.1,sp,sf,o'.2.2.2.kind,o'.2.2.2.text,ck,ci,q1.ld (cs:=zr o'.1 sp sf o'.2.2.2 ck ci),M',(o',b'),?_,?_,hR o' b' hb ho⟩
  ·have i1:=I.lt
   have i2:=I.la.keep.size
   exact⟨⟨by omega,λj hj=>by rw[q3 j (by omega)];exact I.la.keep.get j hj⟩,I.la.le,I.la.old,AgM.but I.la.ag I.bx.no q3⟩
  ·exact⟨[_,_],⟨_,_,rfl,e3,_,rfl,rdBool _⟩,rfl⟩
 refine⟨v.kind,v.text,sk,si,I0.hb.ld (cs:=zd v.kind v.text sk si),?_⟩
 have ht:PC Tp gl 90 [Arg.mk .tree v,Arg.mk .str kOp] [.str,.bool] (λr=>r=w6 v kOp):=z8n hg hv rfl
 refine ht.go (vs:=[.agg #[.int .i64 v.kind,.string v.text,slV sk,slV si],.string kOp]) hM I0.la.ag (qn (RdV.mono I0.la.le ah) (qn (rdStr _) y0)) λw h8 M8 r L8 O hr=>?_
 have hr:r=w6 v kOp:=hr
 subst hr
 have I8:=I0.call L8
 refine⟨(w6 v kOp).1,(w6 v kOp).2,qfx O,?_⟩
 have hs:PC Tp gl 36 [Arg.mk .str (w6 v kOp).1] [.bool,.bool,.bool] (λr=>r=shR v):=zo9 rfl
 refine hs.go (vs:=[.string (w6 v kOp).1]) (hM.trans I8.la.le) I8.la.ag (qn (rdStr _) y0) λw aF aC r au O hr=>?_
 have hr:r=shR v:=hr
 subst hr
 have ak:=I8.call au
 refine⟨(shR v).1,(shR v).2.1,(shR v).2.2,zv8 O,λhx=>?_,λhx=>?_⟩
 ·refine ae false aF aC _ ak ?_ (λe=>by cases e)
  unfold Qs
  rw[<-Bool.and_assoc,qbx hx];rfl
 obtain⟨ay,aA⟩:=qd8 hx
 refine ak.put0 (w6 v kOp).1 λaJ am _=>?_
 refine⟨v.kind,v.text,sk,si,am.hb.ld (cs:=zd v.kind v.text sk si),?_⟩
 have Z:∀(key:Bt) {g:zb} {M':Fr} {o:OpT},Rin h M v sk si h1.size g M' o->∀{K:Value->zb->Prop},(∀g' M'' (s:Sl),Rin h M v sk si h1.size g' M'' o->RdV M'' (.row .str) (y8 v key).1 (slV s)->K (.tuple #[slV s,.bool (y8 v key).2]) g') ->
   XC Tp 91 #[.agg #[.int .i64 v.kind,.string v.text,slV sk,slV si],.string key] g K:=by
  intro key g M' o I K hK
  have hp:PC Tp gl 91 [Arg.mk .tree v,Arg.mk .str key] [.row .str,.bool] (λr=>r=y8 v key):=qd6 hg hv rfl
  refine hp.go (vs:=[.agg #[.int .i64 v.kind,.string v.text,slV sk,slV si],.string key]) (hM.trans I.la.le) I.la.ag (qn (RdV.mono I.la.le ah) (qn (rdStr _) y0)) λw h8 M8 r L8 O hr=>?_
  have hr:r=y8 v key:=hr
  subst hr
  obtain⟨s,rfl,hs⟩:=qd7 O
  exact hK h8 M8 s (I.call L8) hs
 refine Z Q1 am λaL an s aH hs=>⟨s,(y8 v Q1).2,rfl,?_⟩
 refine aH.put1 (y8 v Q1).1 hs λal ac _=>?_
 intro az ap
 have aa:∀(is:Bool) (g:zb) (M':Fr) (o':OpT),Rin h M v sk si h1.size g M' o'->is=((y8 v Q1).2&&(!(shR v).2.1||(y8 v Q2).2))->(is=true->o'=((w6 v kOp).1,(y8 v Q1).1,(if(shR v).2.1=true then(y8 v Q2).1 else []),zT))->az is g:=by
  intro is g M' o' I aI ho
  apply ap
  intro aN af
  have aj:((shR v).1=false->Qs v=is)/\((shR v).1=true->Qs v=(is&&(Zn v yp).2)):=by
   unfold Qs
   rw[ay,aA,aI]
   constructor <;> intro e <;> rw[e] <;> simp[Bool.and_assoc]
  refine⟨λhc=>?_,λhc=>?_⟩
  ·obtain⟨c1,c2⟩:=zv9 hc
   refine⟨v.kind,v.text,sk,si,I.hb.ld (cs:=zd v.kind v.text sk si),?_⟩
   have hp:PC Tp gl 92 [Arg.mk .tree v,Arg.mk .str yp] [.tree,.bool] (λr=>r=Zn v yp):=z3e hg hv rfl
   refine hp.go (vs:=[.agg #[.int .i64 v.kind,.string v.text,slV sk,slV si],.string yp]) (hM.trans I.la.le) I.la.ag (qn (RdV.mono I.la.le ah) (qn (rdStr _) y0)) λw h8 M8 r L8 O hr=>?_
   have hr:r=Zn v yp:=hr
   subst hr
   obtain⟨dk,di,rfl,hd⟩:=qbw O
   refine⟨(Zn v yp).1.kind,(Zn v yp).1.text,dk,di,(Zn v yp).2,rfl,?_⟩
   refine(I.call L8).put3 (Zn v yp).1 hd λg' I' _=>?_
   apply af
   refine ae _ g' M8 _ I' ?_ (λe=>?_)
   ·rw[aj.2 c1,c2];rfl
   ·rw[ho c2]
    unfold Yv
    rw[if_pos c1]
  ·apply af
   by_cases c1:(shR v).1=true
   ·have c2:is=false:=by
     cases h2:is with
     |false=>rfl
     |true=>rw[c1,h2]at hc;cases hc
    refine ae _ g M' o' I (by rw[aj.2 c1,c2];rfl) (λe=>by rw[c2]at e;cases e)
   ·have ai:(shR v).1=false:=by simpa using c1
    refine ae _ g M' o' I (aj.1 ai).symm (λe=>?_)
    rw[ho e]
    unfold Yv
    rw[if_neg c1]
 refine⟨λhc=>?_,λhc=>?_⟩
 ·obtain⟨c1,c2⟩:=zv9 hc
  refine⟨v.kind,v.text,sk,si,ac.hb.ld (cs:=zd v.kind v.text sk si),?_⟩
  refine Z Q2 ac λaM aE s2 ax aD=>⟨s2,(y8 v Q2).2,rfl,?_⟩
  refine ax.put2 (y8 v Q2).1 aD λaG aB _=>?_
  refine aa _ aG aE _ aB (by rw[c1,c2];rfl) (λe=>?_)
  rw[if_pos c1]
 ·by_cases c1:(shR v).2.1=true
  ·have c2:(y8 v Q1).2=false:=by
    cases h2:(y8 v Q1).2 with
    |false=>rfl
    |true=>rw[c1,h2]at hc;cases hc
   exact aa _ al an _ ac (by rw[c2];rfl) (λe=>by rw[c2]at e;cases e)
  ·have ai:(shR v).2.1=false:=by simpa using c1
   refine aa _ al an _ ac (by rw[ai];simp) (λe=>?_)
   rw[if_neg c1]
end
section
variable {c b:Nat} {h g g':zb} {M M':Fr} {v:Tr} {sk si:Sl} {o:OpT} {a:Bool}
def oZ:OpT:=(⟨#[]⟩,[],[],zT)
structure Rim (c:Nat) (h:zb) (M:Fr) (v:Tr) (sk si:Sl) (b:Nat) (g:zb) (M':Fr) (o:OpT):Prop where
 r:Rin h M v sk si b g M' o
 z:∃cs:Array Value,Blk g c cs/\cs.size=7
 zl:h.size<c/\c<b
 zn:M' c=none
theorem Rim.call{M' M'':Fr}(I:Rim c h M v sk si b g M' o)(L:Later g M' g' M''):Rim c h M v sk si b g' M'' o:=by
 obtain⟨cs,e1,e2⟩:=I.z
 exact⟨I.r.call L,⟨cs,e1.ofKeep L.keep,e2⟩,I.zl,by rw[L.old c (by have:=I.r.bg;have:=I.zl;omega)];exact I.zn⟩
theorem Rim.next{o o':OpT}(I:Rim c h M v sk si b g M' o)(J:Rin h M v sk si b g' M' o')(f:∀j,j≠b->g'[j]?=g[j]?):Rim c h M v sk si b g' M' o':=by
 obtain⟨cs,e1,e2⟩:=I.z
 refine⟨J,⟨cs,?_,e2⟩,I.zl,I.zn⟩
 unfold Blk at e1 ⊢
 rw[f c (by have:=I.zl;omega)];exact e1
theorem qby{a b c:Bool}(h:(bif (bif (!a)then true else b)then true else(!c))=false):a=true/\b=false/\c=true:=by cases a <;> cases b <;> cases c <;> simp at h ⊢
theorem z7f{a b c:Bool}(h:(bif (bif (!a)then true else b)then true else(!c))=true):a=false\/b=true\/c=false:=by cases a <;> cases b <;> cases c <;> simp at h ⊢
set_option maxHeartbeats 4000000 in
theorem qea{gl:Fr}(hg:GL gl)(hv:Sm v){R:OpT×Bool->Prop}(hR:∀o b,b=Qs v->(b=true->o=Yv v)->R (o,b)):PC Tp gl 54 [Arg.mk .tree v] [Z1,.bool] R:=by
 intro h M vs hM ag ha
 match vs,ha with
 |[u],⟨hu,_⟩=>
 have hu:RdV M .tree v u:=hu
 have au:=hu
 obtain⟨sk,si,rfl,rk,ri⟩:=w9 hu
 apply PX.of
 apply zev v.kind v.text sk si
 intro h1 h2
 have z1:h1.size=h.size+1:=Ak _
 have z2:h2.size=h1.size+1:=Ak _
 have k1:Keep h.size h h1:=Keep.push _ _ (Ae _)
 have k2:Keep h1.size h1 h2:=Keep.push _ _ (Ae _)
 have b1:Blk h1 h.size (zd v.kind v.text sk si).toArray:=Blk.new _ _ _
 have b2:Blk h2 h1.size (zr ⟨#[]⟩ ⟨none,0,0⟩ ⟨none,0,0⟩ zT ⟨none,0,0⟩ ⟨none,0,0⟩).toArray:=Blk.new _ _ _
 clear_value h1 h2
 have K2:Keep h.size h h2:=k1.trans k2 (by omega)
 have bD:M h1.size=none:=by
  cases e:M h1.size with
  |none=>rfl
  |some cs=>have:=ag.lt e;omega
 have I0:Rin h M v sk si h1.size h2 M oZ:=⟨Later.same ag K2,b1.ofKeep k2,⟨⟨_,_,_,_,b2,zke,zke,zha⟩,bD⟩,by omega,by omega⟩
 have out:∀(b':Bool) (g:zb) (M':Fr) (o':OpT) (sp sf ck ci:Sl),Later h M g M'->(∃cs:Array Value,Blk g h1.size cs/\cs.size=7)->M' h1.size=none->RdV M' Z1 o' (.agg (zr o'.1 sp sf o'.2.2.2 ck ci).toArray)->b'=Qs v->(b'=true->o'=Yv v) ->
    XRunU Tp (Ai 38 (.pointer (some ⟨h1.size,0,none⟩)) (.agg (zr o'.1 sp sf o'.2.2.2 ck ci).toArray)) g (λh'=>
     ∃x1:Bt,∃x2:Sl,∃x3:Sl,∃x4:Int,∃x5:Bt,∃x6:Sl,∃x7:Sl,ze h' ⟨h1.size,0,none⟩ 0 [.string x1,.slice x2.a x2.len x2.cap,.slice x3.a x3.len x3.cap,.int .i64 x4,.string x5,.slice x6.a x6.len x6.cap,.slice x7.a x7.len x7.cap] /\
     (∃M' r',Later h M h' M'/\Xu M' [Z1,.bool] r' (.tuple #[.agg #[.string x1,.slice x2.a x2.len x2.cap,.slice x3.a x3.len x3.cap,.int .i64 x4,.string x5,.slice x6.a x6.len x6.cap,.slice x7.a x7.len x7.cap],.bool b'])/\R r')):=by
  intro b' g M' o' sp sf ck ci L hz hn e3 hb ho
  obtain⟨cs,e1,e2⟩:=hz
  refine zka e1 e2 o'.1 sp sf o'.2.2.2 ck ci λg' q1 q2 q3=>⟨o'.1,sp,sf,o'.2.2.2.kind,o'.2.2.2.text,ck,ci,q1.ld (cs:=zr o'.1 sp sf o'.2.2.2 ck ci),M',(o',b'),?_,?_,hR o' b' hb ho⟩
  ·have i2:=L.keep.size
   exact⟨⟨by omega,λj hj=>by rw[q3 j (by omega)];exact L.keep.get j hj⟩,L.le,L.old,AgM.but L.ag hn q3⟩
  ·exact⟨[_,_],⟨_,_,rfl,e3,_,rfl,rdBool _⟩,rfl⟩
 refine⟨v.kind,v.text,sk,si,I0.hb.ld (cs:=zd v.kind v.text sk si),?_⟩
 have ht:PC Tp gl 93 [Arg.mk .tree v,Arg.mk .str kOp] [.tree,.bool] (λr=>r=Zn v kOp):=ztx hg hv rfl
 refine ht.go (vs:=[.agg #[.int .i64 v.kind,.string v.text,slV sk,slV si],.string kOp]) hM I0.la.ag (qn (RdV.mono I0.la.le au) (qn (rdStr _) y0)) λw h8 M8 r L8 Z hr=>?_
 have hr:r=Zn v kOp:=hr
 subst hr
 have I8:=I0.call L8
 obtain⟨dk,di,rfl,hd⟩:=qbw Z
 refine⟨(Zn v kOp).1.kind,(Zn v kOp).1.text,dk,di,(Zn v kOp).2,rfl,?_⟩
 intro al
 have bH:al.size=h8.size+1:=Ak _
 have a1:Keep h8.size h8 al:=Keep.push _ _ (Ae _)
 have aZ:Blk al h8.size (zd 0 ⟨#[]⟩ ⟨none,0,0⟩ ⟨none,0,0⟩).toArray:=Blk.new _ _ _
 clear_value al
 refine qa aZ rfl _ _ _ _ λaV aL bO aN=>?_
 have aM:Keep h8.size h8 aV:=⟨by omega,λj hj=>by rw[aN j (by omega)];exact a1.get j hj⟩
 have ar:=I8.call (Later.same I8.la.ag aM)
 refine⟨(w6 v kOp).1,aL.cellAdd (by rfl),?_⟩
 have hs:PC Tp gl 39 [Arg.mk .str (w6 v kOp).1] [.bool,.bool,.bool] (λr=>r=shR v):=zpa rfl
 refine hs.go (vs:=[.string (w6 v kOp).1]) (hM.trans ar.la.le) ar.la.ag (qn (rdStr _) y0) λw bc be r aH Z hr=>?_
 have hr:r=shR v:=hr
 subst hr
 have ac:=ar.call aH
 have aI:=aL.ofKeep aH.keep
 refine⟨(shR v).1,(shR v).2.1,(shR v).2.2,zv8 Z,(Zn v kOp).1.kind,λ_=>aI.cellAdd (by rfl),λhx=>?_,λhx=>?_⟩
 ·obtain⟨sp,sf,ck,ci,e1,e2,e3,e4⟩:=ac.bx.rd
  refine out false bc be oZ ⟨none,0,0⟩ ⟨none,0,0⟩ ⟨none,0,0⟩ ⟨none,0,0⟩ ac.la ⟨_,e1,rfl⟩ ac.bx.no (z3c zke zke zha) ?_ (λe=>by cases e)
  unfold Qs w6
  rcases z7f hx with e|e|e
  ·rw[e];rfl
  ·have e':((Zn v kOp).1.kind==4)=false:=by
    simpa[bne]using e
   rw[e']
   cases(Zn v kOp).2 <;> rfl
  ·rw[e];simp
 obtain⟨c1,c2,a6⟩:=qby hx
 have aO:(w6 v kOp).2=true:=by
  unfold w6
  have e':((Zn v kOp).1.kind==4)=true:=by simpa[bne]using c2
  rw[c1,e'];rfl
 have aa:∀(key:Bt) {g:zb} {M':Fr} (ba:Blk g h.size (zd v.kind v.text sk si).toArray) (la:Later h M g M') {K:Value->zb->Prop},(∀g' M'' (s:Sl) (p:List Bt) (ok:Bool),Later g M' g' M''->ok=(y8 v key).2->(ok=true->p=(y8 v key).1)->RdV M'' (.row .str) p (slV s)->K (.tuple #[slV s,.bool ok]) g') ->
   XC Tp 94 #[.agg #[.int .i64 v.kind,.string v.text,slV sk,slV si],.string key] g K:=by
  intro key g M' ba la K hK
  have hp:PC Tp gl 94 [Arg.mk .tree v,Arg.mk .str key] [.row .str,.bool] (λr=>r.2=(y8 v key).2/\(r.2=true->r.1=(y8 v key).1)):=qbv hg hv λp b e1 e2=>⟨e1,e2⟩
  refine hp.go (vs:=[.agg #[.int .i64 v.kind,.string v.text,slV sk,slV si],.string key]) (hM.trans la.le) la.ag (qn (RdV.mono la.le au) (qn (rdStr _) y0)) λw h8 M8 r L8 Z hr=>?_
  obtain⟨s,rfl,hs⟩:=qd7 Z
  exact hK h8 M8 s r.1 r.2 L8 hr.1 hr.2 hs
 refine⟨v.kind,v.text,sk,si,ac.hb.ld (cs:=zd v.kind v.text sk si),?_⟩
 refine aa Q1 ac.hb ac.la λO am s p ok az aB hp hs=>⟨s,ok,rfl,?_⟩
 have ai:=ac.call az
 refine⟨(w6 v kOp).1,(aI.ofKeep az.keep).cellAdd (by rfl),?_⟩
 intro aj
 have bI:aj.size=O.size+1:=Ak _
 have a7:Keep O.size O aj:=Keep.push _ _ (Ae _)
 have bu:Blk aj O.size (zr ⟨#[]⟩ ⟨none,0,0⟩ ⟨none,0,0⟩ zT ⟨none,0,0⟩ ⟨none,0,0⟩).toArray:=Blk.new _ _ _
 clear_value aj
 refine zka bu rfl (w6 v kOp).1 s ⟨none,0,0⟩ zT ⟨none,0,0⟩ ⟨none,0,0⟩ λay bC bS bo=>?_
 have aP:Keep O.size O ay:=⟨by omega,λj hj=>by rw[bo j (by omega)];exact a7.get j hj⟩
 have bE:=Later.same ai.la.ag aP
 have ae:=ai.call bE
 have bQ:=ai.bg
 have ax:am O.size=none:=by
  cases e:am O.size with
  |none=>rfl
  |some cs=>have:=ai.la.ag.lt e;omega
 have ah:Rim h1.size h M v sk si O.size ay am ((w6 v kOp).1,p,[],zT):=by
  obtain⟨sp,sf,ck,ci,e1,e2,e3,e4⟩:=ae.bx.rd
  exact⟨⟨ae.la,ae.hb,⟨⟨s,_,_,_,bC,hs,zke,zha⟩,ax⟩,by omega,by omega⟩,⟨_,e1,rfl⟩,⟨by omega,by omega⟩,ae.bx.no⟩
 have aC:∀(b':Bool) (g:zb) (M':Fr) (o':OpT),Rim h1.size h M v sk si O.size g M' o'->b'=Qs v->(b'=true->o'=Yv v) ->
   ∃x1:Bt,∃x2:Sl,∃x3:Sl,∃x4:Int,∃x5:Bt,∃x6:Sl,∃x7:Sl,ze g ⟨O.size,0,none⟩ 0 [.string x1,.slice x2.a x2.len x2.cap,.slice x3.a x3.len x3.cap,.int .i64 x4,.string x5,.slice x6.a x6.len x6.cap,.slice x7.a x7.len x7.cap] /\
    XRunU Tp (Ai 38 (.pointer (some ⟨h1.size,0,none⟩)) (.agg #[.string x1,.slice x2.a x2.len x2.cap,.slice x3.a x3.len x3.cap,.int .i64 x4,.string x5,.slice x6.a x6.len x6.cap,.slice x7.a x7.len x7.cap])) g (λh'=>
     ∃x1:Bt,∃x2:Sl,∃x3:Sl,∃x4:Int,∃x5:Bt,∃x6:Sl,∃x7:Sl,ze h' ⟨h1.size,0,none⟩ 0 [.string x1,.slice x2.a x2.len x2.cap,.slice x3.a x3.len x3.cap,.int .i64 x4,.string x5,.slice x6.a x6.len x6.cap,.slice x7.a x7.len x7.cap] /\
     (∃M' r',Later h M h' M'/\Xu M' [Z1,.bool] r' (.tuple #[.agg #[.string x1,.slice x2.a x2.len x2.cap,.slice x3.a x3.len x3.cap,.int .i64 x4,.string x5,.slice x6.a x6.len x6.cap,.slice x7.a x7.len x7.cap],.bool b'])/\R r')):=by
  intro b' g M' o' I hb ho
  obtain⟨sp,sf,ck,ci,e1,e2,e3⟩:=I.r.get
  exact⟨o'.1,sp,sf,o'.2.2.2.kind,o'.2.2.2.text,ck,ci,e1,out b' g M' o' sp sf ck ci I.r.la I.z I.zn e3 hb ho⟩
 intro bh aD
 have an:∀(is:Bool) (g:zb) (M':Fr) (o':OpT),Rim h1.size h M v sk si O.size g M' o'->is=((y8 v Q1).2&&(!(shR v).2.1||(y8 v Q2).2))->(is=true->o'=((w6 v kOp).1,(y8 v Q1).1,(if(shR v).2.1=true then(y8 v Q2).1 else []),zT))->bh is g:=by
  intro is g M' o' I aQ ho
  apply aD
  intro bM ap
  have aJ:((shR v).1=false->Qs v=is)/\((shR v).1=true->Qs v=(is&&(Zn v yp).2)):=by
   unfold Qs
   rw[aO,a6,aQ]
   constructor <;> intro e <;> rw[e] <;> simp[Bool.and_assoc]
  refine⟨λc1=>?_,λc1=>?_⟩
  ·refine⟨v.kind,v.text,sk,si,I.r.hb.ld (cs:=zd v.kind v.text sk si),?_⟩
   have hp:PC Tp gl 93 [Arg.mk .tree v,Arg.mk .str yp] [.tree,.bool] (λr=>r=Zn v yp):=ztx hg hv rfl
   refine hp.go (vs:=[.agg #[.int .i64 v.kind,.string v.text,slV sk,slV si],.string yp]) (hM.trans I.r.la.le) I.r.la.ag (qn (RdV.mono I.r.la.le au) (qn (rdStr _) y0)) λw af bB r bj Z hr=>?_
   have hr:r=Zn v yp:=hr
   subst hr
   obtain⟨ek,ei,rfl,he⟩:=qbw Z
   have aG:=I.call bj
   refine⟨(Zn v yp).1.kind,(Zn v yp).1.text,ek,ei,(Zn v yp).2,rfl,?_⟩
   intro ak
   have bJ:ak.size=af.size+1:=Ak _
   have bn:Keep af.size af ak:=Keep.push _ _ (Ae _)
   have aS:Blk ak af.size (zd 0 ⟨#[]⟩ ⟨none,0,0⟩ ⟨none,0,0⟩).toArray:=Blk.new _ _ _
   clear_value ak
   refine qa aS rfl _ _ _ _ λaU bm bL a8=>?_
   have aT:Keep af.size af aU:=⟨by omega,λj hj=>by rw[a8 j (by omega)];exact bn.get j hj⟩
   have aA:=aG.call (Later.same aG.r.la.ag aT)
   refine⟨(Zn v yp).1.kind,(Zn v yp).1.text,ek,ei,bm.ld (cs:=zd (Zn v yp).1.kind (Zn v yp).1.text ek ei),?_⟩
   refine aA.r.put3 (Zn v yp).1 he λg' I' f'=>?_
   have J':=aA.next I' f'
   apply ap
   refine aC _ g' bB _ J' ?_ (λe=>?_)
   ·rw[aJ.2 c1];cases is <;> rfl
   ·obtain⟨c2,_⟩:=zv9 e
    rw[ho c2]
    unfold Yv
    rw[if_pos c1]
  ·apply ap
   refine aC _ g M' o' I (aJ.1 c1).symm (λe=>?_)
   rw[ho e]
   unfold Yv
   rw[if_neg (show¬(shR v).1=true by rw[c1];simp)]
 refine⟨λc1=>?_,λc1=>?_⟩
 ·refine⟨v.kind,v.text,sk,si,ah.r.hb.ld (cs:=zd v.kind v.text sk si),?_⟩
  refine aa Q2 ah.r.hb ah.r.la λbP bA s2 p2 ok2 bF aE bq bz=>⟨s2,ok2,rfl,?_⟩
  have aF:=ah.call bF
  refine aF.r.put2 p2 bz λbp aY bG=>?_
  refine an _ bp bA _ (aF.next aY bG) (by rw[c1,aB,aE];cases(y8 v Q1).2 <;> rfl) (λe=>?_)
  obtain⟨q1,q2⟩:=zv9 e
  rw[if_pos c1,hp q1,bq q2]
 ·refine an _ ay am _ ah (by rw[c1,aB];simp) (λe=>?_)
  rw[if_neg (show¬(shR v).2.1=true by rw[c1];simp),hp e]
end
section
variable {v:Tr} {gl:Fr}
def z7g(v:Tr):Nat:=v.items.findIdx λx=>!Qs x
def Jb(v:Tr):List OpT×Int×Int:=if qe v=true/\v.kind=5 then(if z7g v=v.items.length then(v.items.map Yv,(v.items.length:Int),0)else([],(z7g v:Int),2))else([],0,2)
theorem z3f{k:Nat}(hk:k<v.items.length)(h1:∀x∈v.items.take k,Qs x=true)(h2:Qs v.items[k]=false):z7g v=k:=by
 unfold z7g
 rw[List.findIdx_eq hk]
 refine⟨by rw[h2];rfl,λj hj=>?_⟩
 have:v.items[j]∈v.items.take k:=by
  rw[List.mem_take_iff_getElem];exact⟨j,by omega,rfl⟩
 rw[h1 _ this];rfl
theorem zwa(h1:∀x∈v.items,Qs x=true):z7g v=v.items.length:=by
 unfold z7g
 rw[List.findIdx_eq_length]
 intro x hx
 rw[h1 x hx];rfl
theorem qbz(o:OpT):(o.1,(o.2.1,(o.2.2.1,Tr.mk o.2.2.2.kind o.2.2.2.text o.2.2.2.keys o.2.2.2.items)))=o:=by rw[qo]
set_option maxHeartbeats 1000000 in
theorem z3g(hg:GL gl)(hv:Sm v){R:List OpT×Int×Int->Prop}(hR:R (Jb v)):PC Tp gl 24 [Arg.mk .tree v] [.row Z1,.int .i64,.int .i64] R:=by
 apply zk9
 rw[qo]
 refine zai hg hv ⟨λhx=>?_,λhx=>?_⟩
 ·unfold Jb at hR
  rw[if_neg (by rintro⟨e1,e2⟩;rw[e1,e2]at hx;cases hx)]at hR
  exact hR
 have hc:qe v=true/\v.kind=5:=by
  cases h:qe v with
  |false=>rw[h]at hx;cases hx
  |true=>rw[h]at hx;exact⟨rfl,by simpa using hx⟩
 have af:v.items.length<=4095:=by
  have h1:=zaj hc.1
  have h2:=Zw v.items
  rw[j5]at h1;omega
 unfold Jb at hR
 rw[if_pos hc]at hR
 refine⟨λout i=>∃k:Nat,i=k/\k<=v.items.length/\out=(v.items.take k).map Yv/\∀x∈v.items.take k,Qs x=true,λ_ i=>v.items.length-i.toNat,⟨0,rfl,by omega,by simp,by simp⟩,?_⟩
 rintro out i ⟨k,rfl,hk,rfl,h1⟩
 refine⟨λZ=>?_,λZ=>?_⟩
 ·have O:k<v.items.length:=by simpa using Z
  refine⟨v.items[k],⟨by omega,by rw[Ad];exact Am O⟩,λe=>by simp at e;omega,λ_=>?_⟩
  rw[qo]
  refine qd9 hg (hv.item (As O)) λo b hb ho=>⟨λe=>?_,λe=>?_⟩
  ·have ac:Qs v.items[k]=false:=by rw[<-hb];simpa using e
   have:=z3f O h1 ac
   rw[if_neg (by omega),this]at hR
   exact hR
  ·have aa:b=true:=by simpa using e
   have ae:=ho aa
   subst ae
   rw[aa]at hb
   simp only[qbz]
   have hl:((v.items.take k).map Yv).length=k:=by rw[Ba,AR];omega
   refine⟨by rw[hl];show(k+1)*136<=_;omega,?_⟩
   rw[w64 (by omega)]
   refine⟨⟨k+1,by omega,by omega,?_,λx hx=>?_⟩,by simp only[Ad];omega⟩
   ·rw[Ag O,BF];rfl
   ·rw[Ag O]at hx
    rcases An.1 hx with hx|hx
    ·exact h1 x hx
    ·rw[Be.1 hx];exact hb.symm
 ·have O:k=v.items.length:=by
   have:¬((k:Int)<v.items.length):=by simpa using Z
   omega
  subst O
  rw[AD]at h1 ⊢
  rw[if_pos (zwa h1)]at hR
  rw[Ba]
  exact hR
set_option maxHeartbeats 1000000 in
theorem zyb(hg:GL gl)(hv:Sm v){R:List OpT×Int×Int->Prop}(hR:R (Jb v)):PC Tp gl 25 [Arg.mk .tree v] [.row Z1,.int .i64,.int .i64] R:=by
 apply zcv
 rw[qo]
 refine zf4 hg hv ⟨λhx=>?_,λhx=>?_⟩
 ·unfold Jb at hR
  rw[if_neg (by rintro⟨e1,e2⟩;rw[e1,e2]at hx;cases hx)]at hR
  exact hR
 have hc:qe v=true/\v.kind=5:=by
  cases h:qe v with
  |false=>rw[h]at hx;cases hx
  |true=>rw[h]at hx;exact⟨rfl,by simpa using hx⟩
 have af:v.items.length<=4095:=by
  have h1:=zaj hc.1
  have h2:=Zw v.items
  rw[j5]at h1;omega
 unfold Jb at hR
 rw[if_pos hc]at hR
 refine⟨λout i=>∃k:Nat,i=k/\k<=v.items.length/\out=(v.items.take k).map Yv/\∀x∈v.items.take k,Qs x=true,λ_ i=>v.items.length-i.toNat,⟨0,rfl,by omega,by simp,by simp⟩,?_⟩
 rintro out i ⟨k,rfl,hk,rfl,h1⟩
 refine⟨λZ=>?_,λZ=>?_⟩
 ·have O:k<v.items.length:=by simpa using Z
  refine⟨λe=>by simp at e;omega,λ_=>⟨v.items[k],⟨by omega,by rw[Ad];exact Am O⟩,?_⟩⟩
  rw[qo]
  refine qea hg (hv.item (As O)) λo b hb ho=>⟨λe=>?_,λe=>?_⟩
  ·have ac:Qs v.items[k]=false:=by rw[<-hb];simpa using e
   have:=z3f O h1 ac
   rw[if_neg (by omega),this]at hR
   exact hR
  ·have aa:b=true:=by simpa using e
   have ae:=ho aa
   subst ae
   rw[aa]at hb
   simp only[qbz]
   have hl:((v.items.take k).map Yv).length=k:=by rw[Ba,AR];omega
   refine⟨by rw[hl];show(k+1)*136<=_;omega,?_⟩
   rw[w64 (by omega)]
   refine⟨⟨k+1,by omega,by omega,?_,λx hx=>?_⟩,by simp only[Ad];omega⟩
   ·rw[Ag O,BF];rfl
   ·rw[Ag O]at hx
    rcases An.1 hx with hx|hx
    ·exact h1 x hx
    ·rw[Be.1 hx];exact hb.symm
 ·have O:k=v.items.length:=by
   have:¬((k:Int)<v.items.length):=by simpa using Z
   omega
  subst O
  rw[AD]at h1 ⊢
  rw[if_pos (zwa h1)]at hR
  rw[Ba]
  exact hR
end
end Go.X
end
section
namespace Go.X
set_option maxHeartbeats 1000000 in
section
theorem z7h{gl:Fr}{a b:List OpT}(ha:∀o∈a,OpS o)(hn:a.length<=1000000){R:Bool->Prop}(h:∀r,(r=true↔a=b)->R r):PC Tp gl 26 [Arg.mk (.row Z1) a,Arg.mk (.row Z1) b] [.bool] R:=by
 apply zeq
 refine⟨λe=>h false ⟨λe=>(by cases e),λe'=>(by subst e';simp at e)⟩,λe=>?_⟩
 have hl:a.length=b.length:=by
  have:((a.length:Nat):Int)=b.length:=by simpa[bne]using e
  omega
 refine⟨λi=>∃k:Nat,i=k/\k<=a.length/\a.take k=b.take k,λi=>a.length-i.toNat,⟨0,rfl,by omega,by simp⟩,?_⟩
 rintro i ⟨k,rfl,hk,h1⟩
 refine⟨λhc=>?_,λhc=>?_⟩
 ·have O:k<a.length:=by simpa using hc
  have ac:k<b.length:=by omega
  have ga:a[(k:Int).toNat]?=some a[k]:=by rw[Ad];exact Am O
  have gb:b[(k:Int).toNat]?=some b[k]:=by rw[Ad];exact Am ac
  have ho:=ha a[k] (As O)
  have pa:(0:Int)<=k/\a[(k:Int).toNat]?=some a[k]:=⟨by omega,ga⟩
  have pb:(0:Int)<=k/\b[(k:Int).toNat]?=some b[k]:=⟨by omega,gb⟩
  refine⟨a[k],pa,b[k],pb,?_⟩
  rw[qo,qo]
  refine zjn _ _ ho.v.sz λr1 ae=>⟨a[k],λ_=>pa,b[k],λ_=>pb,a[k],λ_=>pa,b[k],λ_=>pb,λr=>r=true↔a[k].2.1=b[k].2.1,λ_=>zvt ho.p.n λr hr=>hr,λr2 aa=>⟨a[k],λ_=>pa,b[k],λ_=>pb,λr=>r=true↔a[k].2.2.1=b[k].2.2.1,λ_=>zvt ho.f.n λr hr=>hr,λr3 Z=>⟨λhx=>h false ⟨λe=>(by cases e),λe'=>?_⟩,λhx=>?_⟩⟩⟩
  ·subst e'
   have e1:r1=true:=ae.2 rfl
   have e2:r2=true:=(aa (by rw[e1];simp)).2 rfl
   have e3:r3=true:=(Z (by rw[e1,e2];simp)).2 rfl
   rw[e1,e2,e3]at hx
   simp at hx
  ·have hs:r1=true/\a[k].1=b[k].1/\r2=true/\r3=true:=by
    cases r1 <;> cases r2 <;> cases r3 <;> simp at hx
    exact⟨rfl,(by rw[xq,xq]at hx;exact zmb.1 hx),rfl,rfl⟩
   obtain⟨e1,e2,e3,e4⟩:=hs
   have f2:=(aa (by rw[e1,e2];simp)).1 e3
   have f3:=(Z (by rw[e1,e2,e3];simp)).1 e4
   have f4:=ae.1 e1
   rw[w64 (by omega)]
   refine⟨⟨k+1,by omega,by omega,?_⟩,by simp only[Ad];omega⟩
   rw[Ag O,Ag ac,h1]
   congr 1
   congr 1
   exact Prod.ext e2 (Prod.ext f2 (Prod.ext f3 f4))
 ·have O:k=a.length:=by
   have:¬((k:Int)<a.length):=by simpa using hc
   omega
  subst O
  rw[AD,hl,AD]at h1
  exact h true ⟨λ_=>h1,λ_=>rfl⟩
end
end Go.X
end
section
namespace Go.X
section
variable {lo:Nat} {h h':zb} {M M':Fr} {T:Ty} {bs:List Nat}
def ORow(lo:Nat)(h:zb)(M:Fr)(T:Ty)(xs:List (El T))(s:Sl)(bs:List Nat):Prop:=
 (xs=[]/\s.len=0/\s.cap=0/\bs=[])\/∃(b:Nat) (cs:Array Value),bs=[b]/\s.a=some ⟨b,0,none⟩/\s.len=xs.length/\s.len<=s.cap/\Blk h b cs/\s.cap*sz T<=cs.size/\lo<=b/\M b=none/\∀i (hi:i<xs.length),Rd M T xs[i] (cut cs (i*sz T) (sz T))
theorem ORow.nil:ORow lo h M T [] ⟨none,0,0⟩ []:=.inl ⟨rfl,rfl,rfl,rfl⟩
theorem ORow.len{xs:List (El T)}{s:Sl}(H:ORow lo h M T xs s bs):s.len=xs.length:=by
 rcases H with⟨rfl,h1,_⟩|⟨b,cs,_,_,h1,_⟩
 ·exact h1
 ·exact h1
theorem ORow.own{xs:List (El T)}{s:Sl}(H:ORow lo h M T xs s bs):∀c∈bs,lo<=c/\c<h.size/\M c=none:=by
 rcases H with⟨_,_,_,rfl⟩|⟨b,cs,rfl,_,_,_,e,_,h1,h2,_⟩
 ·intro c hc;cases hc
 ·intro c hc
  rw[Be.1 hc]
  exact⟨h1,e.lt,h2⟩
theorem ORow.frame{xs:List (El T)}{s:Sl}(H:ORow lo h M T xs s bs)(f:∀c∈bs,h'[c]?=h[c]?)(le:Fr.le M M')(no:∀c∈bs,M' c=none):ORow lo h' M' T xs s bs:=by
 rcases H with H|⟨b,cs,rfl,h1,h2,h3,h4,h5,h6,h7,h8⟩
 ·exact .inl H
 ·refine .inr ⟨b,cs,rfl,h1,h2,h3,?_,h5,h6,no b (by simp),λi hi=>Rd.mono le (h8 i hi)⟩
  unfold Blk at h4 ⊢
  rw[f b (by simp)];exact h4
theorem ORow.call{xs:List (El T)}{s:Sl}(H:ORow lo h M T xs s bs)(L:Later h M h' M'):ORow lo h' M' T xs s bs:=by
 refine H.frame (λc hc=>L.keep.get c (H.own c hc).2.1) L.le λc hc=>?_
 rw[L.old c (H.own c hc).2.1];exact(H.own c hc).2.2
theorem ORow.rd{xs:List (El T)}{s:Sl}{bs all:List Nat}(H:ORow lo h M T xs s bs)(ag:AgM M h)(ha:∀c∈bs,c∈all)(hn:xs.length<=1000000):Rd (MxL M h all) (.row T) xs [slV s]:=by
 rcases H with⟨rfl,h1,h2,rfl⟩|⟨b,cs,rfl,h1,h2,h3,h4,h5,h6,h7,h8⟩
 ·refine⟨_,rfl,s.a,s.cap,?_,⟨by simp,by simp⟩,.inl rfl⟩
  show slV s=_
  unfold slV;rw[h1];rfl
 ·refine⟨_,rfl,s.a,s.cap,?_,⟨by omega,by omega⟩,?_⟩
  ·unfold slV;rw[h2]
  ·by_cases he:xs=[]
   ·exact .inl he
   ·refine .inr ⟨b,0,cs,h1,MxL.at (ha b (by simp)) h4,λi hi=>?_⟩
    rw[AH]
    exact Rd.mono (zag ag all) (h8 i hi)
theorem ORow.app{t e:TypeId}{z:Value}{bytes:Nat}(E:ElemT Tp t e z (sz T) bytes)(al:bytes<=1000){ty:TypeId}{xs:List (El T)}{s:Sl}(ag:AgM M h)(H:ORow lo h M T xs s bs)(ar:lo<=h.size){bv cv:Nat}{vs:List Value}{x:El T}(hv:Blk h bv vs.toArray)(hx:Rd M T x vs)(hn:xs.length<=1000000){K:Value->zb->Prop}
  (hK:∀(s':Sl) (h':zb) (ah:List Nat),ORow lo h' M T (xs++[x]) s' ah->h.size<=h'.size->(∀c∈ah,c∈bs\/h.size<=c)->(∀j,j<h.size->j∉bs->h'[j]?=h[j]?)->K (.slice s'.a s'.len s'.cap) h'):
  XRun Tp (Au #[t,t] ty #[.slice s.a s.len s.cap,.slice (some ⟨bv,0,none⟩) 1 cv]) h K:=by
 have an:vs.length=sz T:=Rd.len hx
 have h1:∀u∈vs,u.oneCell'=true:=Rd.one hx
 have aa:=H.len
 have ak:∀c,h.size<=c->M c=none:=by
  intro c hc
  cases e:M c with
  |none=>rfl
  |some cs=>have:=ag.lt e;omega
 obtain⟨b,cs,O,hb,ai⟩:∃b cs,RowO h s b cs (sz T)/\((bs=[b]/\lo<=b/\M b=none)\/(b=h.size/\bs=[]))/\∀i (hi:i<xs.length),i*sz T+sz T<=cs.size/\Rd M T xs[i] (cut cs (i*sz T) (sz T)):=by
  rcases H with⟨rfl,e1,e2,rfl⟩|⟨b,cs,rfl,e1,e2,e3,e4,e5,e6,e7,e8⟩
  ·exact⟨h.size,#[],⟨by omega,.inl ⟨e1,e2⟩⟩,.inr ⟨rfl,rfl⟩,λi hi=>by simp at hi⟩
  ·refine⟨b,cs,⟨e3,.inr ⟨e1,e4,e5⟩⟩,.inl ⟨rfl,e6,e7⟩,λi hi=>⟨?_,e8 i hi⟩⟩
   have:(i+1)*sz T<=s.cap*sz T:=AM _ (by omega)
   rw[DI]at this;omega
 have af:(s.len+1)*bytes<=140737488355328:=by
  have:(s.len+1)*bytes<=1000001*1000:=Nat.mul_le_mul (by omega) al
  omega
 refine zo3 E O hv an h1 af (by omega) λs' h' b' cs' N=>?_
 have Z:(b'∈bs/\lo<=b'/\M b'=none)\/h.size<=b':=by
  rcases N.new with e|e
  ·rcases hb with⟨q1,q2,q3⟩|⟨q1,_⟩
   ·subst e;exact .inl ⟨by rw[q1];simp,q2,q3⟩
   ·exact .inr (by omega)
  ·exact .inr e
 refine hK s' h' [b'] (.inr ⟨b',cs',rfl,N.a,by rw[N.len,Ao,aa];rfl,by rw[N.len];exact N.cap,N.blk,N.size,?_,?_,λi hi=>?_⟩) N.grow (λc hc=>?_) λj hj hn=>N.old j hj λe=>?_
 ·rcases Z with q|q
  ·exact q.2.1
  ·omega
 ·rcases Z with q|q
  ·exact q.2.2
  ·exact ak b' q
 ·have ae:=N.cut
  have au:i<xs.length+1:=by simpa using hi
  have hm:(i+1)*sz T<=(s.len+1)*sz T:=AM _ (by omega)
  have az:(i+1)*sz T=i*sz T+sz T:=DI _ _
  have ax:(s.len+1)*sz T=s.len*sz T+sz T:=DI _ _
  have key:∀q,q<sz T->(cut cs' (i*sz T) (sz T))[q]?=(cut cs 0 (s.len*sz T)++vs)[i*sz T+q]?:=by
   intro q hq
   rw[zu,if_pos hq,<-ae,zu,if_pos (by omega),AH]
  by_cases ac:i<xs.length
  ·rw[CX ac]
   obtain⟨g1,g2⟩:=ai i ac
   have ay:(i+1)*sz T<=s.len*sz T:=AM _ (by omega)
   have e:cut cs' (i*sz T) (sz T)=cut cs (i*sz T) (sz T):=by
    apply A7
    intro q
    by_cases hq:q<sz T
    ·rw[key q hq,Bo ?_,zu,zu,if_pos hq,if_pos (by omega),AH]
     have ap:s.len*sz T<=cs.size:=by
      rcases O.at_ with⟨q1,q2⟩|⟨_,_,q3⟩
      ·omega
      ·have:s.len*sz T<=s.cap*sz T:=AM _ O.le
       omega
     rw[xc (by omega)];omega
    ·rw[zu,zu,if_neg hq,if_neg hq]
   rw[e];exact g2
  ·have aj:i=xs.length:=by omega
   subst aj
   rw[Cx (Ae _)]
   have am:(cut cs 0 (s.len*sz T)).length=xs.length*sz T:=by
    rcases O.at_ with⟨q1,q2⟩|⟨_,_,q3⟩
    ·have:xs.length=0:=by omega
     rw[q1,this];unfold cut;simp
    ·have:s.len*sz T<=s.cap*sz T:=AM _ O.le
     rw[xc (by omega),aa]
   have e:cut cs' (xs.length*sz T) (sz T)=vs:=by
    apply A7
    intro q
    by_cases hq:q<sz T
    ·rw[key q hq,Bj (by omega),am]
     congr 1;omega
    ·rw[zu,if_neg hq,Bu (by omega)]
   rw[e]
   simpa using hx
 ·rw[Be.1 hc]
  rcases Z with q|q
  ·exact .inl q.1
  ·exact .inr q
 ·rcases Z with q|q
  ·exact hn (by rw[e];exact q.1)
  ·omega
end
section
variable {M:Fr} {h h':zb} {b:Nat} {ks:List Bt} {xs:List Tr} {sk si:Sl} {bk bi:List Nat}
theorem AgM.app{bs:List Nat}(ag:AgM M h)(f:∀j,j<h.size->j∉bs->h'[j]?=h[j]?)(no:∀c∈bs,M c=Option.none):AgM M h':=λc cs e=>by
 obtain⟨T,m,e2⟩:=ag c cs e
 have hm:c∉bs:=λhc=>by rw[no c hc]at e;cases e
 exact⟨T,m,by rw[f c (ag.lt e) hm];exact e2⟩
structure Obj (lo:Nat) (h:zb) (M:Fr) (b:Nat) (ks:List Bt) (xs:List Tr) (sk si:Sl) (bk bi:List Nat):Prop where
 ag:AgM M h
 box:Blk h b (zd 6 ⟨#[]⟩ sk si).toArray
 keys:ORow lo h M .str ks sk bk
 items:ORow lo h M .tree xs si bi
 nk:b∉bk
 ni:b∉bi
 dj:∀c∈bk,c∉bi
 no:M b=none
 lo:lo<=b
theorem Obj.call{lo:Nat}{M M':Fr}(O:Obj lo h M b ks xs sk si bk bi)(L:Later h M h' M'):Obj lo h' M' b ks xs sk si bk bi:=
 ⟨L.ag,O.box.ofKeep L.keep,O.keys.call L,O.items.call L,O.nk,O.ni,O.dj,by rw[L.old b O.box.lt];exact O.no,O.lo⟩
theorem qeu:jb Tp 23=true:=by kernel_rfl
theorem qev:ja Tp 23=1:=by kernel_rfl
structure ObK (lo:Nat) (h:zb) (M:Fr) (b:Nat) (ks:List Bt) (xs:List Tr) (sk si s1:Sl) (bk bi bk1:List Nat) (g:zb):Prop where
 ag:AgM M g
 box:Blk g b (zd 6 ⟨#[]⟩ sk si).toArray
 keys:ORow lo g M .str ks s1 bk1
 items:ORow lo g M .tree xs si bi
 nk:b∉bk1
 dj:∀c∈bk1,c∉bi
 kp:Keep lo h g
 grow:h.size<=g.size
theorem ObK.keep{lo:Nat}{sk si s1:Sl}{bk bi bk1:List Nat}{g g':zb}(H:ObK lo h M b ks xs sk si s1 bk bi bk1 g)(O:lo<=h.size)(k:Keep g.size g g'):ObK lo h M b ks xs sk si s1 bk bi bk1 g':=by
 have L:=Later.same H.ag k
 have:=H.grow
 exact⟨L.ag,H.box.ofKeep k,H.keys.call L,H.items.call L,H.nk,H.dj,⟨by have:=H.kp.size;have:=k.size;omega,λj hj=>by rw[k.get j (by omega)];exact H.kp.get j hj⟩,by have:=k.size;omega⟩
set_option maxHeartbeats 4000000 in
theorem z3h{lo:Nat}(O:Obj lo h M b ks xs sk si bk bi)(hn:ks.length<=1000/\xs.length<=1000){key:Bt}{x:Tr}{ck ci:Sl}(hx:RdV M .tree x (.agg (zh x ck ci).toArray)){K:Value->zb->Prop}
  (hK:∀(h':zb) (sk' si':Sl) (bk' a6:List Nat),Obj lo h' M b (ks++[key]) (xs++[x]) sk' si' bk' a6->Keep lo h h'->K (.tuple #[]) h'):
  XC Tp 87 #[.pointer (some ⟨b,0,none⟩),.string key,.agg #[.int .i64 x.kind,.string x.text,slV ck,slV ci]] h K:=by
 have bp:=O.box.lt
 have bh:=O.lo
 have aS:Rd M .tree x (zh x ck ci):=by
  unfold RdV at hx
  simp only[zdm,if_true]at hx
  obtain⟨cs,e,hr⟩:=hx
  have:zh x ck ci=cs:=by injection e with e;simpa using congrArg Dk e
  rw[this];exact hr
 have aH:Rd M .str key [.string key]:=rfl
 apply zkc (some ⟨b,0,none⟩) key x.kind x.text ck ci
 intro h1
 have z1:h1.size=h.size+1:=Ak _
 have k1:Keep h.size h h1:=Keep.push _ _ (Ae _)
 have b1:Blk h1 h.size (zh x ck ci).toArray:=Blk.new _ _ _
 clear_value h1
 have aM:=O.box.ofKeep k1
 have ah:∀(g:zb) (kb:Nat),Keep h.size h g->Blk g kb [AU key].toArray->∀(K:Value->zb->Prop),(∀(s1:Sl) (g2:zb) (bk1:List Nat),ObK lo h M b (ks++[key]) xs sk si s1 bk bi bk1 g2->(∀j,j<g.size->j∉bk->g2[j]?=g[j]?)->g.size<=g2.size->K (.slice s1.a s1.len s1.cap) g2) ->
   XRun Tp (Au #[22,22] 22 #[.slice sk.a sk.len sk.cap,.slice (some ⟨kb,0,none⟩) 1 1]) g K:=by
  intro g kb kg aU K hK
  have L:=Later.same O.ag kg
  have zg:=kg.size
  have Og:=O.call L
  refine ORow.app zfw (by omega) L.ag Og.keys (by omega) aU aH (by omega) λs1 g2 bk1 r1 r2 r3 r4=>hK s1 g2 bk1 ?_ r4 r2
  have aN:AgM M g2:=AgM.app L.ag r4 λc hc=>(Og.keys.own c hc).2.2
  refine⟨aN,?_,r1,?_,?_,?_,⟨by omega,λj hj=>?_⟩,by omega⟩
  ·have:=Og.box
   unfold Blk at this ⊢
   rw[r4 b (by omega) O.nk];exact this
  ·refine Og.items.frame (λc hc=>r4 c (Og.items.own c hc).2.1 λhk=>O.dj c hk hc) (Fr.le.refl _) λc hc=>(Og.items.own c hc).2.2
  ·intro hc
   rcases r3 b hc with q|q
   ·exact O.nk q
   ·omega
  ·intro c hc hi
   rcases r3 c hc with q|q
   ·exact O.dj c q hi
   ·have:=(Og.items.own c hi).2.1;omega
  ·rw[r4 j (by omega) λhk=>by have:=(Og.keys.own j hk).1;omega]
   exact kg.get j (by omega)
 have az:∀(s1 s2:Sl) (g3 g4:zb) (bk1 Z:List Nat),ObK lo h M b (ks++[key]) xs sk si s1 bk bi bk1 g3->ORow lo g4 M .tree (xs++[x]) s2 Z->g3.size<=g4.size->(∀c∈Z,c∈bi\/g3.size<=c)->(∀j,j<g3.size->j∉bi->g4[j]?=g3[j]?) ->
   ∃a:Addr,some (⟨b,0,none⟩:Addr)=some a/\XRunU Tp (Ai 22 (.pointer (some (Aj a 2))) (.slice s1.a s1.len s1.cap)) g4 (λg5=>∃a:Addr,some (⟨b,0,none⟩:Addr)=some a/\XRunU Tp (Ai 23 (.pointer (some (Aj a 3))) (.slice s2.a s2.len s2.cap)) g5 (λg6=>K (.tuple #[]) g6)):=by
  intro s1 s2 g3 g4 bk1 Z A r1 r2 r3 r4
  have aP:=A.box.lt
  have bm:=A.grow
  have aJ:Blk g4 b (zd 6 ⟨#[]⟩ sk si).toArray:=by
   have:=A.box
   unfold Blk at this ⊢
   rw[r4 b aP O.ni];exact this
  have aF:b∉Z:=λhc=>by
   rcases r3 b hc with q|q
   ·exact O.ni q
   ·omega
  have ar:ORow lo g4 M .str (ks++[key]) s1 bk1:=A.keys.frame (λc hc=>r4 c (A.keys.own c hc).2.1 (A.dj c hc)) (Fr.le.refl _) λc hc=>(A.keys.own c hc).2.2
  have a8:AgM M g4:=AgM.app A.ag r4 λc hc=>(A.items.own c hc).2.2
  refine⟨_,rfl,?_⟩
  refine zdf qes qet (o:=2) aJ (by show 2<4;omega) rfl λg5 q1 q2 q3=>⟨_,rfl,?_⟩
  have q1:Blk g5 b (zd 6 ⟨#[]⟩ s1 si).toArray:=q1
  refine zdf qeu qev (o:=3) q1 (by show 3<4;omega) rfl λg6 p1 p2 p3=>?_
  have p1:Blk g6 b (zd 6 ⟨#[]⟩ s1 s2).toArray:=p1
  have f6:∀j,j≠b->g6[j]?=g4[j]?:=λj hj=>(p3 j hj).trans (q3 j hj)
  refine hK g6 s1 s2 bk1 Z ⟨AgM.but a8 O.no f6,p1,?_,?_,A.nk,aF,?_,O.no,O.lo⟩ ⟨by have:=A.kp.size;omega,λj hj=>?_⟩
  ·exact ar.frame (λc hc=>f6 c λe=>A.nk (e ▸ hc)) (Fr.le.refl _) λc hc=>(ar.own c hc).2.2
  ·exact r1.frame (λc hc=>f6 c λe=>aF (e ▸ hc)) (Fr.le.refl _) λc hc=>(r1.own c hc).2.2
  ·intro c hc hi
   rcases r3 c hi with q|q
   ·exact A.dj c hc q
   ·have:=(A.keys.own c hc).2.1;omega
  ·rw[f6 j (by omega),r4 j (by omega) λhi=>by have:=(O.items.own j hi).1;omega]
   exact A.kp.get j hj
 have af:∀(s1:Sl) (g3:zb) (bk1:List Nat) (xb:Nat),ObK lo h M b (ks++[key]) xs sk si s1 bk bi bk1 g3->Blk g3 xb (zh x ck ci).toArray->∀(K2:Value->zb->Prop),(∀(s2:Sl) (g4:zb) (Z:List Nat),ORow lo g4 M .tree (xs++[x]) s2 Z->g3.size<=g4.size->(∀c∈Z,c∈bi\/g3.size<=c)->(∀j,j<g3.size->j∉bi->g4[j]?=g3[j]?)->K2 (.slice s2.a s2.len s2.cap) g4) ->
   XRun Tp (Au #[23,23] 23 #[.slice si.a si.len si.cap,.slice (some ⟨xb,0,none⟩) 1 1]) g3 K2:=by
  intro s1 g3 bk1 xb A aQ K2 a1
  have:=A.grow
  exact ORow.app elemTree (by omega) A.ag A.items (by omega) aQ aS (by omega) λs2 g4 Z r1 r2 r3 r4=>a1 s2 g4 Z r1 r2 r3 r4
 refine⟨_,rfl,sk,aM.cellAdd (by rfl),_,rfl,si,aM.cellAdd (by rfl),x.kind,x.text,ck,ci,b1.ld (cs:=zh x ck ci),?_,?_⟩
 ·intro aa
  have bn:aa.size=h1.size+1:=Ak _
  have ae:Keep h1.size h1 aa:=Keep.push _ _ (Ae _)
  have aE:Blk aa h1.size [AU key].toArray:=Blk.new _ _ _
  clear_value aa
  have au:Keep h.size h aa:=k1.trans ae (by omega)
  refine⟨ae.get _ (show h.size<h1.size by omega),ae.get _ (show b<h1.size by omega),ae.get _ (show b<h1.size by omega),?_,?_⟩
  ·refine ah aa h1.size au aE _ λs1 am bk1 A aA bu=>⟨s1,rfl,?_,?_,?_⟩
   ·refine(aA h.size (by omega) λhc=>?_).trans (ae.get _ (by omega))
    have:=(O.keys.own _ hc).2.1;omega
   ·exact(aA b (by omega) O.nk).trans (ae.get _ (by omega))
   ·intro ak
    have be:ak.size=am.size+1:=Ak _
    have aI:Keep am.size am ak:=Keep.push _ _ (Ae _)
    have aZ:Blk ak am.size (zh x ck ci).toArray:=Blk.new _ _ _
    clear_value ak
    refine⟨(aI.get _ (show b<am.size by omega)).trans ((aA b (by omega) O.nk).trans (ae.get _ (by omega))),?_⟩
    have aL:=A.keep (by omega) aI
    exact af s1 ak bk1 am.size aL aZ _ λs2 g4 Z r1 r2 r3 r4=>⟨s2,rfl,az s1 s2 ak g4 bk1 Z aL r1 r2 r3 r4⟩
  ·intro al
   have bj:al.size=aa.size+1:=Ak _
   have an:Keep aa.size aa al:=Keep.push _ _ (Ae _)
   have aT:Blk al aa.size (zh x ck ci).toArray:=Blk.new _ _ _
   clear_value al
   have aG:Keep h.size h al:=au.trans an (by omega)
   refine⟨(an.get _ (show b<aa.size by omega)).trans (ae.get _ (by omega)),(an.get _ (show b<aa.size by omega)).trans (ae.get _ (by omega)),?_⟩
   refine ah al h1.size aG (aE.ofKeep an) _ λs1 ax bk1 A aC ba=>⟨s1,rfl,?_,?_⟩
   ·exact(aC b (by omega) O.nk).trans ((an.get _ (by omega)).trans (ae.get _ (by omega)))
   ·have aV:Blk ax aa.size (zh x ck ci).toArray:=by
     have:=aT
     unfold Blk at this ⊢
     rw[aC aa.size (by omega) λhc=>by have:=(O.keys.own _ hc).2.1;omega];exact this
    exact af s1 ax bk1 aa.size A aV _ λs2 g4 Z r1 r2 r3 r4=>⟨s2,rfl,az s1 s2 ax g4 bk1 Z A r1 r2 r3 r4⟩
 ·intro ac
  have bc:ac.size=h1.size+1:=Ak _
  have ai:Keep h1.size h1 ac:=Keep.push _ _ (Ae _)
  have a7:Blk ac h1.size (zh x ck ci).toArray:=Blk.new _ _ _
  clear_value ac
  refine⟨ai.get _ (show b<h1.size by omega),ai.get _ (show b<h1.size by omega),?_⟩
  intro aj
  have bq:aj.size=ac.size+1:=Ak _
  have ap:Keep ac.size ac aj:=Keep.push _ _ (Ae _)
  have aY:Blk aj ac.size [AU key].toArray:=Blk.new _ _ _
  clear_value aj
  have aD:Keep h.size h aj:=(k1.trans ai (by omega)).trans ap (by omega)
  refine⟨(ap.get _ (show b<ac.size by omega)).trans (ai.get _ (by omega)),(ap.get _ (show b<ac.size by omega)).trans (ai.get _ (by omega)),?_⟩
  refine ah aj ac.size aD aY _ λs1 ay bk1 A aB bo=>⟨s1,rfl,?_,?_⟩
  ·exact(aB b (by omega) O.nk).trans ((ap.get _ (by omega)).trans (ai.get _ (by omega)))
  ·have aO:Blk ay h1.size (zh x ck ci).toArray:=by
    have:=a7.ofKeep ap
    unfold Blk at this ⊢
    rw[aB h1.size (by omega) λhc=>by have:=(O.keys.own _ hc).2.1;omega];exact this
   exact af s1 ay bk1 h1.size A aO _ λs2 g4 Z r1 r2 r3 r4=>⟨s2,rfl,az s1 s2 ay g4 bk1 Z A r1 r2 r3 r4⟩
end
section
variable {gl M M':Fr} {R:Tr -> Prop} {w:Value} {h g:zb} {b:Nat} {ks:List Bt} {xs:List Tr}
def Yz(s:Bt):Tr:=.mk 4 s [] []
def Jj(p:List Bt):Bt:=bl (Xg (p.map lb))
def qb0(o:OpT):List Bt:=([kOp]++[Q1])++((if(zy (lb o.1)).2.1=true then [Q2]else [])++(if(zy (lb o.1)).1=true then [yp]else []))
def qb1(o:OpT):List Tr:=([Yz o.1]++[Yz (Jj o.2.1)])++((if(zy (lb o.1)).2.1=true then [Yz (Jj o.2.2.1)]else [])++(if(zy (lb o.1)).1=true then [o.2.2.2]else []))
def Zo(o:OpT):Tr:=.mk 6 ⟨#[]⟩ (qb0 o) (qb1 o)
theorem qgl{s:Bt}(h:R (Yz s)):PC Tp gl 88 [Arg.mk .str s] [.tree] R:=by
 apply ztk;exact h
theorem qfy{s:Bt}(h:R (Yz s)):PC Tp gl 52 [Arg.mk .str s] [.tree] R:=by
 apply zg6;exact h
theorem qb2{r:Bt×Int}(h:Xu M [.str,.int .i64] r w):w=.tuple #[.string r.1,.int .i64 r.2]:=by
 obtain⟨vs,⟨v1,rest,rfl,hx,v2,rfl,hy⟩,rfl⟩:=h
 rw[z8o hx,zux hy];rfl
theorem qb3{r:Tr}(h:Xu M [.tree] r w):∃sk si:Sl,w=.agg #[.int .i64 r.kind,.string r.text,slV sk,slV si]/\RdV M .tree r (.agg (zh r sk si).toArray):=by
 have h:=zdx.1 h
 obtain⟨sk,si,e,_⟩:=w9 h
 exact⟨sk,si,e,by rw[e]at h;exact h⟩
theorem Later.own{bs:List Nat}(L:Later h M g M')(hb:∀c∈bs,h.size<=c):Later h M g (MxL M' g bs):=by
 refine⟨L.keep,L.le.trans (zag L.ag bs),λc hc=>?_,MxL.ag L.ag bs⟩
 have hn:c∉bs:=λhm=>by have:=hb c hm;omega
 rw[<-L.old c hc]
 unfold MxL
 rw[if_neg hn]
theorem Obj.rd{lo:Nat}{sk si:Sl}{bk bi:List Nat}(O:Obj lo h M b ks xs sk si bk bi)(hn:ks.length<=1000000/\xs.length<=1000000):RdV (MxL M h (bk++bi)) .tree (.mk 6 ⟨#[]⟩ ks xs) (.agg (zd 6 ⟨#[]⟩ sk si).toArray):=by
 refine yn (v:=.mk 6 ⟨#[]⟩ ks xs) ?_ ?_
 ·exact O.keys.rd O.ag (λc hc=>Aq _ hc) hn.1
 ·exact O.items.rd O.ag (λc hc=>AC _ hc) hn.2
structure Mk (h:zb) (M:Fr) (ab:List Value) (b:Nat) (g:zb) (M':Fr) (ks:List Bt) (xs:List Tr):Prop where
 la:Later h M g M'
 ab:Blk g h.size ab.toArray
 rb:∃cs:Array Value,Blk g (h.size+1) cs/\cs.size=4
 no:M' (h.size+1)=none
 lt:h.size+1<b
 ob:∃sk si bk bi,Obj b g M' b ks xs sk si bk bi
theorem Mk.call{ab:List Value}{g g':zb}{M' M'':Fr}(I:Mk h M ab b g M' ks xs)(L:Later g M' g' M''):Mk h M ab b g' M'' ks xs:=by
 obtain⟨cs,e1,e2⟩:=I.rb
 obtain⟨sk,si,bk,bi,O⟩:=I.ob
 exact⟨I.la.trans L,I.ab.ofKeep L.keep,⟨cs,e1.ofKeep L.keep,e2⟩,by rw[L.old _ e1.lt];exact I.no,I.lt,⟨sk,si,bk,bi,O.call L⟩⟩
theorem Mk.more{ab:List Value}(I:Mk h M ab b g M' ks xs)(hn:ks.length<=1000/\xs.length<=1000){key:Bt}{x:Tr}{ck ci:Sl}(hx:RdV M' .tree x (.agg (zh x ck ci).toArray)){K:Value->zb->Prop}
  (hK:∀g',Mk h M ab b g' M' (ks++[key]) (xs++[x])->K (.tuple #[]) g'):
  XC Tp 87 #[.pointer (some ⟨b,0,none⟩),.string key,.agg #[.int .i64 x.kind,.string x.text,slV ck,slV ci]] g K:=by
 obtain⟨sk,si,bk,bi,O⟩:=I.ob
 have hl:=I.lt
 refine z3h O hn hx λg' sk' si' bk' Z O' kp=>hK g' ?_
 have z:=I.la.keep.size
 have kk:Keep h.size h g':=⟨by have:=kp.size;have:=O.box.lt;omega,λj hj=>by rw[kp.get j (by omega)];exact I.la.keep.get j hj⟩
 obtain⟨cs,e1,e2⟩:=I.rb
 refine⟨⟨kk,I.la.le,I.la.old,O'.ag⟩,?_,⟨cs,?_,e2⟩,I.no,hl,⟨sk',si',bk',Z,O'⟩⟩
 ·have:=I.ab
  unfold Blk at this ⊢
  rw[kp.get _ (by omega)];exact this
 ·unfold Blk at e1 ⊢
  rw[kp.get _ (by omega)];exact e1
set_option maxHeartbeats 4000000 in
theorem z7i(hg:GL gl){o:OpT}(ho:OpS o)(hr:qc o=true)(hR:R (Zo o)):PC Tp gl 50 [Arg.mk Z1 o] [.tree] R:=by
 have aT:qh o.2.1=true/\qh o.2.2.1=true:=by
  have:=hr
  unfold qc at this
  simp only[AI]at this
  exact⟨this.2.1,this.2.2.1⟩
 intro h M vs hM ag ha
 match vs,ha with
 |[u],⟨hu,_⟩=>
 have hu:RdV M Z1 o u:=hu
 obtain⟨sp,sf,sk,si,rfl,r1,r2,r3⟩:=z3v hu
 apply PX.of
 apply zkb o.1 sp sf o.2.2.2.kind o.2.2.2.text sk si
 intro h1 h2
 have z1:h1.size=h.size+1:=Ak _
 have z2:h2.size=h1.size+1:=Ak _
 have k1:Keep h.size h h1:=Keep.push _ _ (Ae _)
 have k2:Keep h1.size h1 h2:=Keep.push _ _ (Ae _)
 have b1:Blk h1 h.size (zr o.1 sp sf o.2.2.2 sk si).toArray:=Blk.new _ _ _
 have b2:Blk h2 h1.size (zd 0 ⟨#[]⟩ ⟨none,0,0⟩ ⟨none,0,0⟩).toArray:=Blk.new _ _ _
 clear_value h1 h2
 have K2:Keep h.size h h2:=k1.trans k2 (by omega)
 have L2:Later h M h2 M:=Later.same ag K2
 have a8:M h1.size=none:=by
  cases e:M h1.size with
  |none=>rfl
  |some cs=>have:=ag.lt e;omega
 have aL:=b1.ofKeep k2
 refine⟨o.1,aL.cellAdd (by rfl),?_⟩
 have hs:PC Tp gl 36 [Arg.mk .str o.1] [.bool,.bool,.bool] (λr=>r=zy (lb o.1)):=zo9 rfl
 refine hs.go (vs:=[.string o.1]) (hM.trans L2.le) L2.ag (qn (rdStr _) y0) λw h5 M5 r L5 ai aF=>?_
 have aF:r=zy (lb o.1):=aF
 subst aF
 have z5:=L5.keep.size
 refine⟨(zy (lb o.1)).1,(zy (lb o.1)).2.1,(zy (lb o.1)).2.2,zv8 ai,?_⟩
 intro h9
 have z9:h9.size=h5.size+1:=Ak _
 have k9:Keep h5.size h5 h9:=Keep.push _ _ (Ae _)
 have b9:Blk h9 h5.size (zd 0 ⟨#[]⟩ ⟨none,0,0⟩ ⟨none,0,0⟩).toArray:=Blk.new _ _ _
 clear_value h9
 refine qa b9 rfl 6 ⟨#[]⟩ ⟨none,0,0⟩ ⟨none,0,0⟩ λaI a7 bp a1=>?_
 have aH:Keep h5.size h5 aI:=⟨by omega,λj hj=>by rw[a1 j (by omega)];exact k9.get j hj⟩
 have La:=Later.same L5.ag aH
 have aN:=(L2.trans L5).trans La
 have bo:M5 h5.size=none:=by
  cases e:M5 h5.size with
  |none=>rfl
  |some cs=>have:=L5.ag.lt e;omega
 have aO:Mk h M (zr o.1 sp sf o.2.2.2 sk si) h5.size aI M5 [] []:=by
  refine⟨aN,(aL.ofKeep L5.keep).ofKeep aH,⟨_,by rw[<-z1];exact(b2.ofKeep L5.keep).ofKeep aH,rfl⟩,by rw[<-z1,L5.old _ (by omega)];exact a8,by omega,⟨⟨none,0,0⟩,⟨none,0,0⟩,[],[],⟨aN.ag,a7,ORow.nil,ORow.nil,by simp,by simp,(λc hc=>by cases hc),bo,Ae _⟩⟩⟩
 have aJ:∀(s:Bt) (key:Bt) {g:zb} {M':Fr} {ks:List Bt} {xs:List Tr} (I:Mk h M (zr o.1 sp sf o.2.2.2 sk si) h5.size g M' ks xs) (hn:ks.length<=1000/\xs.length<=1000) {K:zb->Prop},(∀g' M'',Mk h M (zr o.1 sp sf o.2.2.2 sk si) h5.size g' M'' (ks++[key]) (xs++[Yz s])->K g') ->
   XC Tp 88 #[.string s] g (λar ax=>∃ah:Int,∃af:Bt,∃Z:Sl,∃aa:Sl,ar=.agg #[.int .i64 ah,.string af,.slice Z.a Z.len Z.cap,.slice aa.a aa.len aa.cap] /\
    XC Tp 87 #[.pointer (some ⟨h5.size,0,none⟩),.string key,.agg #[.int .i64 ah,.string af,.slice Z.a Z.len Z.cap,.slice aa.a aa.len aa.cap]] ax (λay au=>ay=.tuple #[]/\K au)):=by
  intro s key g M' ks xs I hn K hK
  have bn:PC Tp gl 88 [Arg.mk .str s] [.tree] (λr=>r=Yz s):=qgl rfl
  refine bn.go (vs:=[.string s]) (hM.trans I.la.le) I.la.ag (qn (rdStr _) y0) λw g1 M1 r L1 ai aj=>?_
  have aj:r=Yz s:=aj
  subst aj
  obtain⟨ck,ci,rfl,hx⟩:=qb3 ai
  refine⟨(Yz s).kind,(Yz s).text,ck,ci,rfl,?_⟩
  exact(I.call L1).more hn hx λg' I'=>⟨rfl,hK g' M1 I'⟩
 have aQ:∀(p:List Bt) (key:Bt) (s:Sl) {g:zb} {M':Fr} {ks:List Bt} {xs:List Tr} (I:Mk h M (zr o.1 sp sf o.2.2.2 sk si) h5.size g M' ks xs) (hn:ks.length<=1000/\xs.length<=1000) (hp:SL p) (aU:qh p=true) (hs:RdV M (.row .str) p (slV s)) {K:zb->Prop},(∀g' M'',Mk h M (zr o.1 sp sf o.2.2.2 sk si) h5.size g' M'' (ks++[key]) (xs++[Yz (Jj p)])->K g') ->
   XC Tp 89 #[slV s] g (λaV aY=>∃an:Bt,∃aA:Int,aV=.tuple #[.string an,.int .i64 aA] /\
    XC Tp 88 #[.string an] aY (λar ax=>∃ah:Int,∃af:Bt,∃Z:Sl,∃aa:Sl,ar=.agg #[.int .i64 ah,.string af,.slice Z.a Z.len Z.cap,.slice aa.a aa.len aa.cap] /\
    XC Tp 87 #[.pointer (some ⟨h5.size,0,none⟩),.string key,.agg #[.int .i64 ah,.string af,.slice Z.a Z.len Z.cap,.slice aa.a aa.len aa.cap]] ax (λay au=>ay=.tuple #[]/\K au))):=by
  intro p key s g M' ks xs I hn hp aU hs K hK
  have a6:PC Tp gl 89 [Arg.mk (.row .str) p] [.str,.int .i64] (λr=>r.1=Jj p):=qas hg hp (λ_=>rfl) (λe=>by rw[aU]at e;cases e)
  refine a6.go (vs:=[slV s]) (hM.trans I.la.le) I.la.ag (qn (RdV.mono I.la.le hs) y0) λw g1 M1 r L1 ai aj=>?_
  have aj:r.1=Jj p:=aj
  refine⟨r.1,r.2,qb2 ai,?_⟩
  rw[aj]
  exact aJ (Jj p) key (I.call L1) hn hK
 have aP:∀(g:zb) (M':Fr) (ks:List Bt) (xs:List Tr),Mk h M (zr o.1 sp sf o.2.2.2 sk si) h5.size g M' ks xs->(ks.length<=1000/\xs.length<=1000)->Tr.mk 6 ⟨#[]⟩ ks xs=Zo o ->
   ∃ap:Int,∃am:Bt,∃ac:Sl,∃ae:Sl,ze g ⟨h5.size,0,none⟩ 0 [.int .i64 ap,.string am,.slice ac.a ac.len ac.cap,.slice ae.a ae.len ae.cap] /\
    XRunU Tp (Ai 25 (.pointer (some ⟨h1.size,0,none⟩)) (.agg #[.int .i64 ap,.string am,.slice ac.a ac.len ac.cap,.slice ae.a ae.len ae.cap])) g (λaB=>∃aC:Int,∃aE:Bt,∃ak:Sl,∃al:Sl,ze aB ⟨h1.size,0,none⟩ 0 [.int .i64 aC,.string aE,.slice ak.a ak.len ak.cap,.slice al.a al.len al.cap] /\
     (∃M' r,Later h M aB M'/\Xu M' [.tree] r (.agg #[.int .i64 aC,.string aE,.slice ak.a ak.len ak.cap,.slice al.a al.len al.cap])/\R r)):=by
  intro g M' ks xs I hn e
  obtain⟨ck,ci,bk,bi,O⟩:=I.ob
  obtain⟨cs,e1,e2⟩:=I.rb
  rw[<-z1]at e1
  have bq:=I.lt
  refine⟨6,⟨#[]⟩,ck,ci,O.box.ld (cs:=zd 6 ⟨#[]⟩ ck ci),?_⟩
  refine qa e1 e2 6 ⟨#[]⟩ ck ci λg' q1 q2 q3=>⟨6,⟨#[]⟩,ck,ci,q1.ld (cs:=zd 6 ⟨#[]⟩ ck ci),MxL M' g' (bk++bi),Zo o,?_,?_,hR⟩
  ·have az:M' h1.size=none:=by rw[z1];exact I.no
   have i2:=I.la.keep.size
   have L':Later h M g' M':=⟨⟨by omega,λj hj=>by rw[q3 j (by omega)];exact I.la.keep.get j hj⟩,I.la.le,I.la.old,AgM.but I.la.ag az q3⟩
   refine Later.own L' λc hc=>?_
   rcases An.1 hc with hc|hc
   ·have:=(O.keys.own c hc).1;omega
   ·have:=(O.items.own c hc).1;omega
  ·have az:M' h1.size=none:=by rw[z1];exact I.no
   have O':Obj h5.size g' M' h5.size ks xs ck ci bk bi:=by
    refine⟨AgM.but I.la.ag az q3,?_,?_,?_,O.nk,O.ni,O.dj,O.no,O.lo⟩
    ·have:=O.box
     unfold Blk at this ⊢
     rw[q3 _ (by omega)];exact this
    ·exact O.keys.frame (λc hc=>q3 c (by have:=(O.keys.own c hc).1;omega)) (Fr.le.refl _) λc hc=>(O.keys.own c hc).2.2
    ·exact O.items.frame (λc hc=>q3 c (by have:=(O.items.own c hc).1;omega)) (Fr.le.refl _) λc hc=>(O.items.own c hc).2.2
   rw[<-e]
   exact zdx.2 (O'.rd ⟨by omega,by omega⟩)
 refine⟨o.1,aO.ab.cellAdd (by rfl),?_⟩
 refine aJ o.1 kOp aO (by simp) λbz bu aM=>?_
 refine⟨sp,aM.ab.cellAdd (by rfl),?_⟩
 refine aQ o.2.1 Q1 sp aM (by simp) ho.p aT.1 r1 λbe ba aG=>?_
 intro bm aS
 have aD:∀(g:zb) (M':Fr) (ks:List Bt) (xs:List Tr),Mk h M (zr o.1 sp sf o.2.2.2 sk si) h5.size g M' ks xs->ks=([kOp]++[Q1])++(if(zy (lb o.1)).2.1=true then [Q2]else [])->xs=([Yz o.1]++[Yz (Jj o.2.1)])++(if(zy (lb o.1)).2.1=true then [Yz (Jj o.2.2.1)]else [])->bm g:=by
  intro g M' ks xs I e1 e2
  have hn:ks.length<=999/\xs.length<=999:=by
   rw[e1,e2];split <;> simp
  apply aS
  refine⟨λhc=>?_,λhc=>?_⟩
  ·refine⟨o.2.2.2.kind,o.2.2.2.text,sk,si,?_,?_⟩
   ·exact⟨I.ab.cellAdd (o:=3) (k:=0) (by rfl),I.ab.cellAdd (o:=3) (k:=1) (by rfl),I.ab.cellAdd (o:=3) (k:=2) (by rfl),I.ab.cellAdd (o:=3) (k:=3) (by rfl),trivial⟩
   have bc:PC Tp gl 32 [Arg.mk .tree o.2.2.2] [.tree] (λr=>r=o.2.2.2):=z2e hg ho.v (Xa hr hc) rfl
   refine bc.go (vs:=[.agg #[.int .i64 o.2.2.2.kind,.string o.2.2.2.text,slV sk,slV si]]) (hM.trans I.la.le) I.la.ag (qn (RdV.mono I.la.le r3) y0) λw g1 M1 r L1 ai aj=>?_
   have aj:r=o.2.2.2:=aj
   subst aj
   obtain⟨ck,ci,rfl,hx⟩:=qb3 ai
   refine⟨o.2.2.2.kind,o.2.2.2.text,ck,ci,rfl,?_⟩
   refine(I.call L1).more ⟨by omega,by omega⟩ hx λg' I'=>⟨rfl,?_⟩
   refine aP g' M1 _ _ I' ⟨by simp;omega,by simp;omega⟩ ?_
   unfold Zo qb0 qb1
   rw[e1,e2,if_pos hc,if_pos hc]
   simp only[AP]
   rfl
  ·refine aP g M' ks xs I ⟨by omega,by omega⟩ ?_
   unfold Zo qb0 qb1
   rw[e1,e2,hc]
   simp
 refine⟨λhc=>?_,λhc=>?_⟩
 ·refine⟨sf,aG.ab.cellAdd (by rfl),?_⟩
  refine aQ o.2.2.1 Q2 sf aG (by simp) ho.f aT.2 r2 λbj bh aZ=>?_
  refine aD bj bh _ _ aZ ?_ ?_
  ·rw[if_pos hc];rfl
  ·rw[if_pos hc];rfl
 ·refine aD be ba _ _ aG ?_ ?_
  ·rw[hc];simp
  ·rw[hc];simp
end
section
theorem xw(s0:Sl)(aa:FuncId)(Z:Array Value)(O:Array Value)(h:zb)(R:Value->zb->Prop)
  (H:XC Tp 86 #[slV s0,.func (.func aa) Z O] h (λb c=>∃d,b=.int .i64 d/\R (.bool (decide (d>=0))) c)):
  XC Tp 48 #[.slice s0.a s0.len s0.cap,.func (.func aa) Z O] h R:=
 XF ⟨[],[],[]⟩ [.tmp 4] 9 Tryz.func48 H
theorem Zy(s0:Sl)(O:FuncId)(aa:Array Value)(Z:Array Value)(h:zb)(R:Value->zb->Prop)
  (H:∃(b:Int->zb->Prop) (c:Int->zb->Nat),b 0 h/\∀d:Int,∀e:zb,b d e->((decide (d<s0.len)=true->∃f,(s0.a=some f/\0<=d/\d<s0.len)/\∃g i j k l m n,ze e (f.add (d.toNat*7)) 0 [.string g,slV i,slV j,.int .i64 k,.string l,slV m,slV n]/\qp Tp O=true/\XC Tp O (aa++#[.agg #[.string g,slV i,slV j,.int .i64 k,.string l,slV m,slV n]]++Z) e (λo p=>∃q,o=.bool q/\(q=true->R (.int .i64 d) p)/\(q=false->(b (Aa .i64 (d+1)) p/\c (Aa .i64 (d+1)) p<c d e))))/\(decide (d<s0.len)=false->R (.int .i64 (-1)) e))):
  XC Tp 86 #[.slice s0.a s0.len s0.cap,.func (.func O) aa Z] h R:=
 XF ⟨[],[(2,[(8,.one (.int .i64))])],[]⟩ [.tmp 4] 19 Tryz.func86 H
end
section
variable {gl:Fr}
def zex(l:List Tr):Tr:=.mk 5 ⟨#[]⟩ [] l
def zyc(l:List OpT):Tr×Int:=if l.all qc=true then(if l.length<=4096 then(if qe (zex (l.map Zo))=true then(zex (l.map Zo),0)else(zT,1))else(zT,6))else(zT,1)
set_option maxHeartbeats 1000000 in
theorem qfz{F:FuncId}{A C:Array Value}{h:zb}{M:Fr}(ag:AgM M h){xs:List OpT}{s:Sl}(hr:Rd M (.row Z1) xs [slV s]){p:OpT->Bool}(hb:∀x∈xs,Beh gl F A C h M Z1 x (p x)):
  PX Tp 48 #[slV s,.func (.func F) A C] h M [.bool] (λr=>r=xs.any p):=by
 apply PX.of
 apply xw s F A C
 apply Zy s F A C
 obtain⟨ae,af,ah⟩:=rowLen hr
 refine⟨λi h4=>∃k:Nat,i=k/\k<=xs.length/\(∃M4,Later h M h4 M4)/\(xs.take k).any p=false,λi _=>xs.length-i.toNat,⟨0,rfl,by omega,⟨M,Later.refl ag⟩,by simp⟩,?_⟩
 rintro i h4 ⟨k,rfl,hk,⟨M4,L4⟩,Z⟩
 refine⟨λhc=>?_,λhc=>?_⟩
 ·have O:k<xs.length:=by simp at hc;omega
  obtain⟨a,sp,sf,sk,si,e1,e2,e3⟩:=opAt L4.ag (Rd.mono L4.le hr) O
  refine⟨a,⟨e1,by omega,by omega⟩,xs[k].1,sp,sf,xs[k].2.2.2.kind,xs[k].2.2.2.text,sk,si,by rw[Ad];exact e2,(hb _ (As O)).1,?_⟩
  refine((hb _ (As O)).2 h4 M4 _ L4 e3).go λv h5 M5 r L5 ac aa=>⟨r,zc2 ac,λhx=>?_,λhx=>?_⟩
  ·refine⟨(k:Int),rfl,M5,_,L4.trans L5,zdx.2 (rdBool _),?_⟩
   have:xs.any p=true:=Ei.2 ⟨xs[k],As O,by rw[<-aa];exact hx⟩
   rw[this];simp
  ·rw[y5 O (by omega)]
   refine⟨⟨k+1,rfl,by omega,⟨M5,L4.trans L5⟩,?_⟩,by simp only[Ad];omega⟩
   rw[Ag O,List.any_append,Z]
   simp only[EV,List.any_nil,<-aa,hx];rfl
 ·have O:k=xs.length:=by simp at hc;omega
  subst O
  rw[AD]at Z
  refine⟨-1,rfl,M4,_,L4,zdx.2 (rdBool _),?_⟩
  rw[Z];rfl
theorem qb4(l:List OpT):l.any (λo=>!qc o)=!l.all qc:=by
 induction l with
 |nil=>rfl
 |cons o l ih=>rw[EV,CB,ih];cases qc o <;> rfl
set_option maxHeartbeats 4000000 in
theorem z7j(hg:GL gl){l:List OpT}(hl:∀o∈l,OpS o)(hn:l.length<=100000)(sm:l.all qc=true->l.length<=4096->Sm (zex (l.map Zo))){R:Tr×Int->Prop}(hR:R (zyc l)):PC Tp gl 22 [Arg.mk (.row Z1) l] [.tree,.int .i64] R:=by
 intro h M vs hM ag ha
 match vs,ha with
 |[u],⟨hu,_⟩=>
 have hu:RdV M (.row Z1) l u:=hu
 obtain⟨sl,rfl,rl⟩:=zit hu
 obtain⟨ll,_,_⟩:=rowLen rl
 apply PX.of
 apply zpc sl
 intro h1
 have k1:Keep h.size h h1:=Keep.push _ _ (Ae _)
 have b1:Blk h1 h.size (zd 0 ⟨#[]⟩ ⟨none,0,0⟩ ⟨none,0,0⟩).toArray:=Blk.new _ _ _
 have z1:h1.size=h.size+1:=Ak _
 clear_value h1
 have L1:Later h M h1 M:=Later.same ag k1
 have bm:M h.size=none:=by
  cases e:M h.size with
  |none=>rfl
  |some cs=>have:=ag.lt e;omega
 have ret:∀(g:zb) (M':Fr) (r:Tr) (e:Int) (sk si:Sl) (bs:List Nat),Later h M g M'->(∃cs:Array Value,Blk g h.size cs/\cs.size=4)->M' h.size=none->RdV M' .tree r (.agg (zh r sk si).toArray)->R (r,e) ->
   XRunU Tp (Ai 25 (.pointer (some ⟨h.size,0,none⟩)) (.agg #[.int .i64 r.kind,.string r.text,slV sk,slV si])) g (λg'=>∃az:Int,∃aC:Bt,∃aa:Sl,∃ac:Sl,ze g' ⟨h.size,0,none⟩ 0 [.int .i64 az,.string aC,.slice aa.a aa.len aa.cap,.slice ac.a ac.len ac.cap] /\
    (∃M' r',Later h M g' M'/\Xu M' [.tree,.int .i64] r' (.tuple #[.agg #[.int .i64 az,.string aC,.slice aa.a aa.len aa.cap,.slice ac.a ac.len ac.cap],.int .i64 e])/\R r')):=by
  intro g M' r e sk si bs L hb hn hr hR
  obtain⟨cs,e1,e2⟩:=hb
  refine qa e1 e2 r.kind r.text sk si λg' q1 q2 q3=>⟨r.kind,r.text,sk,si,q1.ld (cs:=zd r.kind r.text sk si),M',(r,e),?_,⟨[_,_],⟨_,_,rfl,hr,_,rfl,z5d _ _⟩,rfl⟩,hR⟩
  have i2:=L.keep.size
  exact⟨⟨by omega,λj hj=>by rw[q3 j (by omega)];exact L.keep.get j hj⟩,L.le,L.old,AgM.but L.ag hn q3⟩
 have aV:∀x∈l,Beh gl 49 #[] #[] h1 M Z1 x (!qc x):=by
  intro x hx
  refine⟨by kernel_rfl,λh' M' u L hu=>?_⟩
  have hp:PC Tp gl 49 [Arg.mk Z1 x] [.bool] (λr=>r=!qc x):=by
   apply zjv
   rw[qbz]
   exact zrx hg (hl x hx) rfl
  exact hp.px (vs:=[u]) (hM.trans L.le) L.ag (qn hu y0)
 refine(qfz (gl:=gl) (F:=49) (A:=#[]) (C:=#[]) L1.ag rl aV).go λw h3 M3 r L3 ae hr=>?_
 have hr:r=l.any (λo=>!qc o):=hr
 rw[qb4]at hr
 subst hr
 have z3:=L3.keep.size
 have aJ:=L1.trans L3
 have b3:=b1.ofKeep L3.keep
 have aE:M3 h.size=none:=by rw[L3.old _ (by omega)];exact bm
 unfold zyc at hR
 refine⟨_,zc2 ae,λhx=>?_,λhx=>?_⟩
 ·have al:¬l.all qc=true:=by simpa using hx
  rw[if_neg al]at hR
  exact ret h3 M3 zT 1 ⟨none,0,0⟩ ⟨none,0,0⟩ [] aJ ⟨_,b3,rfl⟩ aE zha hR
 have au:l.all qc=true:=by simpa using hx
 rw[if_pos au]at hR
 refine⟨λhx=>?_,λhx=>?_⟩
 ·have:¬l.length<=4096:=by
   have:(sl.len:Int)>4096:=by simpa using hx
   omega
  rw[if_neg this]at hR
  exact ret h3 M3 zT 6 ⟨none,0,0⟩ ⟨none,0,0⟩ [] aJ ⟨_,b3,rfl⟩ aE zha hR
 have aQ:l.length<=4096:=by
  have:¬(sl.len:Int)>4096:=by simpa using hx
  omega
 rw[if_pos aQ]at hR
 intro ax
 have a8:Keep h3.size h3 ax:=Keep.push _ _ (Ae _)
 have bE:Blk ax h3.size (zd 0 ⟨#[]⟩ ⟨none,0,0⟩ ⟨none,0,0⟩).toArray:=Blk.new _ _ _
 have bF:ax.size=h3.size+1:=Ak _
 clear_value ax
 refine qa bE rfl 5 ⟨#[]⟩ ⟨none,0,0⟩ ⟨none,0,0⟩ λbD bA bJ bj=>?_
 have aL:Keep h3.size h3 bD:=⟨by omega,λj hj=>by rw[bj j (by omega)];exact a8.get j hj⟩
 have bn:=Later.same L3.ag aL
 have aT:M3 h3.size=none:=by
  cases e:M3 h3.size with
  |none=>rfl
  |some cs=>have:=L3.ag.lt e;omega
 refine⟨λi g=>∃(k:Nat) (M':Fr) (si:Sl) (bi:List Nat),i=k/\k<=l.length/\Later h M g M'/\(∃cs:Array Value,Blk g h.size cs/\cs.size=4)/\M' h.size=none/\Blk g h3.size (zd 5 ⟨#[]⟩ ⟨none,0,0⟩ si).toArray/\M' h3.size=none/\ORow (h3.size+1) g M' .tree ((l.take k).map Zo) si bi,
  λi _=>l.length-i.toNat,⟨0,M3,⟨none,0,0⟩,[],rfl,by omega,aJ.trans bn,⟨_,b3.ofKeep aL,rfl⟩,aE,bA,aT,ORow.nil⟩,?_⟩
 rintro i g ⟨k,M',si,bi,rfl,hk,L,aZ,aI,Z,bp,ah⟩
 refine⟨λhc=>?_,λhc=>?_⟩
 ·have af:k<l.length:=by simp at hc;omega
  obtain⟨a,sp,sf,ck,ci,e1,e2,e3⟩:=opAt L.ag (Rd.mono L.le rl) af
  refine⟨a,⟨e1,by omega,by omega⟩,l[k].1,sp,sf,l[k].2.2.2.kind,l[k].2.2.2.text,ck,ci,by rw[Ad];exact e2,?_⟩
  intro ay
  have a6:Keep g.size g ay:=Keep.push _ _ (Ae _)
  have a7:Blk ay g.size (zr ⟨#[]⟩ ⟨none,0,0⟩ ⟨none,0,0⟩ zT ⟨none,0,0⟩ ⟨none,0,0⟩).toArray:=Blk.new _ _ _
  have bI:ay.size=g.size+1:=Ak _
  clear_value ay
  refine zka a7 rfl l[k].1 sp sf l[k].2.2.2 ck ci λaP bo bL bB=>?_
  have aM:Keep g.size g aP:=⟨by omega,λj hj=>by rw[bB j (by omega)];exact a6.get j hj⟩
  have aH:=Later.same L.ag aM
  have bH:=Z.lt
  refine⟨si,(Z.ofKeep aM).cellAdd (by rfl),l[k].1,sp,sf,l[k].2.2.2.kind,l[k].2.2.2.text,ck,ci,bo.ld (cs:=zr l[k].1 sp sf l[k].2.2.2 ck ci),?_⟩
  have bz:PC Tp gl 50 [Arg.mk Z1 l[k]] [.tree] (λr=>r=Zo l[k]):=z7i hg (hl _ (As af)) (AQ.1 au _ (As af)) rfl
  refine bz.go (vs:=[.agg (zr l[k].1 sp sf l[k].2.2.2 ck ci).toArray]) ((hM.trans L.le).trans aH.le) aH.ag (qn e3 y0) λw am ai r ap ae hr=>?_
  have hr:r=Zo l[k]:=hr
  subst hr
  obtain⟨dk,di,rfl,hx⟩:=qb3 ae
  have bG:=ap.keep.size
  refine⟨(Zo l[k]).kind,(Zo l[k]).text,dk,di,rfl,ap.keep.get _ (show h3.size<aP.size by omega),?_⟩
  intro an
  have aY:Keep am.size am an:=Keep.push _ _ (Ae _)
  have bq:Blk an am.size (zh (Zo l[k]) dk di).toArray:=Blk.new _ _ _
  have bM:an.size=am.size+1:=Ak _
  clear_value an
  have be:=Later.same ap.ag aY
  refine⟨(aY.get _ (show h3.size<am.size by omega)).trans (ap.keep.get _ (by omega)),?_⟩
  have LL:Later g M' an ai:=(aH.trans ap).trans be
  have O:=ah.call LL
  have ba:Rd ai .tree (Zo l[k]) (zh (Zo l[k]) dk di):=by
   unfold RdV at hx
   simp only[zdm,if_true]at hx
   obtain⟨cs,e,hr⟩:=hx
   have:zh (Zo l[k]) dk di=cs:=by injection e with e;simpa using congrArg Dk e
   rw[this];exact hr
  have bC:((l.take k).map Zo).length=k:=by rw[Ba,AR];omega
  have ak:=Z.ofKeep LL.keep
  refine ORow.app elemTree (by omega) LL.ag O (by omega) bq ba (by omega) λs' aU bh r1 r2 r3 r4=>⟨s',rfl,?_⟩
  have aO:h3.size∉bi:=λhm=>by have:=(O.own _ hm).1;omega
  have n0:h.size∉bi:=λhm=>by have:=(O.own _ hm).1;omega
  have aD:Blk aU h3.size (zd 5 ⟨#[]⟩ ⟨none,0,0⟩ si).toArray:=by
   unfold Blk at ak ⊢
   rw[r4 _ (by omega) aO];exact ak
  refine zdf qeu qev (o:=3) aD (by show 3<4;omega) rfl λbc q1 q2 q3=>?_
  have q1:Blk bc h3.size (zd 5 ⟨#[]⟩ ⟨none,0,0⟩ s').toArray:=q1
  have aA:ai h3.size=none:=by rw[LL.old _ (by omega)];exact bp
  have aS:ai h.size=none:=by rw[LL.old _ (by omega)];exact aI
  have aN:AgM ai aU:=AgM.app LL.ag r4 λc hc=>(O.own c hc).2.2
  have Lg:=L.trans LL
  rw[y5 af (by omega)]
  refine⟨⟨k+1,ai,s',bh,rfl,by omega,⟨⟨by have:=Lg.keep.size;omega,λj hj=>?_⟩,Lg.le,Lg.old,AgM.but aN aA q3⟩,?_,aS,q1,aA,?_⟩,by simp only[Ad];omega⟩
  ·rw[q3 j (by omega),r4 j (by have:=Lg.keep.size;omega) λhm=>by have:=(O.own _ hm).1;omega]
   exact Lg.keep.get j hj
  ·obtain⟨cs,e1,e2⟩:=aZ
   refine⟨cs,?_,e2⟩
   have:=e1.ofKeep LL.keep
   unfold Blk at this ⊢
   rw[q3 _ (by omega),r4 _ (by omega) n0];exact this
  ·rw[Ag af,BF]
   exact r1.frame (λc hc=>q3 c (by have:=(r1.own c hc).1;omega)) (Fr.le.refl _) λc hc=>(r1.own c hc).2.2
 ·have af:k=l.length:=by simp at hc;omega
  subst af
  rw[AD]at ah
  have bC:(l.map Zo).length=l.length:=Ba ..
  refine⟨5,⟨#[]⟩,⟨none,0,0⟩,si,Z.ld (cs:=zd 5 ⟨#[]⟩ ⟨none,0,0⟩ si),?_⟩
  have aB:=ah.own
  have hv:RdV (MxL M' g bi) .tree (zex (l.map Zo)) (.agg (zd 5 ⟨#[]⟩ ⟨none,0,0⟩ si).toArray):=by
   refine yn (v:=zex (l.map Zo)) (sk:=⟨none,0,0⟩) ?_ ?_
   ·exact⟨_,rfl,none,0,rfl,⟨by simp[zex],by simp[zex]⟩,.inl rfl⟩
   ·exact ah.rd L.ag (λc hc=>hc) (by omega)
  have Lf:Later h M g (MxL M' g bi):=Later.own L λc hc=>by have:=(aB c hc).1;omega
  have sm:=sm au aQ
  have bu:PC Tp gl 21 [Arg.mk .tree (zex (l.map Zo))] [.bool] (λr=>r=qe (zex (l.map Zo))):=zai hg sm rfl
  refine bu.go (vs:=[.agg #[.int .i64 5,.string ⟨#[]⟩,slV ⟨none,0,0⟩,slV si]]) (hM.trans Lf.le) Lf.ag (qn hv y0) λw aG aF r ar ae hr=>?_
  have hr:r=qe (zex (l.map Zo)):=hr
  subst hr
  have Lx:=Lf.trans ar
  have a1:∀c,c<=h3.size->M' c=none->aF c=none:=λc hc e=>by
   rw[ar.old _ (by have:=Z.lt;omega)]
   unfold MxL
   rw[if_neg (λhm=>by have:=(aB _ hm).1;omega)];exact e
  have aj:∃cs:Array Value,Blk aG h.size cs/\cs.size=4:=by
   obtain⟨cs,e1,e2⟩:=aZ
   exact⟨cs,e1.ofKeep ar.keep,e2⟩
  refine⟨_,zc2 ae,λhx=>?_,λhx=>?_⟩
  ·have al:¬qe (zex (l.map Zo))=true:=by simpa using hx
   rw[if_neg al]at hR
   exact ret aG aF zT 1 ⟨none,0,0⟩ ⟨none,0,0⟩ [] Lx aj (a1 _ (by omega) aI) zha hR
  ·have al:qe (zex (l.map Zo))=true:=by simpa using hx
   rw[if_pos al]at hR
   refine⟨5,⟨#[]⟩,⟨none,0,0⟩,si,(Z.ofKeep ar.keep).ld (cs:=zd 5 ⟨#[]⟩ ⟨none,0,0⟩ si),?_⟩
   exact ret aG aF (zex (l.map Zo)) 0 ⟨none,0,0⟩ si [] Lx aj (a1 _ (by omega) aI) (RdV.mono ar.le hv) hR
end
section
variable {lo b ob:Nat} {g h g':zb} {M M' M'':Fr} {ks:List Bt} {xs ys:List Tr} {sk si:Sl} {bk bi:List Nat} {K:zb -> Prop}
theorem Obj.keyA(O:Obj lo g M b ks xs sk si bk bi)(hn:ks.length<=1000){key:Bt}{kb:Nat}(af:Blk g kb [AU key].toArray)
  (hK:∀g3 sk' bk',Obj lo g3 M b (ks++[key]) xs sk' si bk' bi->Keep lo g g3->K g3):
  XRun Tp (Au #[22,22] 22 #[.slice sk.a sk.len sk.cap,.slice (some ⟨kb,0,none⟩) 1 1]) g (λv g2=>∃s:Sl,v=.slice s.a s.len s.cap /\
   XRunU Tp (Ai 22 (.pointer (some (Aj ⟨b,0,none⟩ 2))) (.slice s.a s.len s.cap)) g2 (λg3=>K g3)):=by
 have ac:=O.box.lt
 have ah:=O.lo
 have aa:Rd M .str key [.string key]:=rfl
 refine ORow.app zfw (by omega) O.ag O.keys (by omega) af aa (by omega) λs1 g2 bk1 r1 r2 r3 r4=>⟨s1,rfl,?_⟩
 have box2:Blk g2 b (zd 6 ⟨#[]⟩ sk si).toArray:=by
  have:=O.box
  unfold Blk at this ⊢
  rw[r4 b ac O.nk];exact this
 have ae:AgM M g2:=AgM.app O.ag r4 λc hc=>(O.keys.own c hc).2.2
 have Z:b∉bk1:=λhc=>by
  rcases r3 b hc with q|q
  ·exact O.nk q
  ·omega
 refine zdf qes qet (o:=2) box2 (by show 2<4;omega) rfl λg3 q1 q2 q3=>?_
 have q1:Blk g3 b (zd 6 ⟨#[]⟩ s1 si).toArray:=q1
 refine hK g3 s1 bk1 ⟨AgM.but ae O.no q3,q1,?_,?_,Z,O.ni,?_,O.no,O.lo⟩ ⟨by omega,λj hj=>?_⟩
 ·exact r1.frame (λc hc=>q3 c λe=>Z (e ▸ hc)) (Fr.le.refl _) λc hc=>(r1.own c hc).2.2
 ·exact O.items.frame (λc hc=>(q3 c λe=>O.ni (e ▸ hc)).trans (r4 c (O.items.own c hc).2.1 λhk=>O.dj c hk hc)) (Fr.le.refl _) λc hc=>(O.items.own c hc).2.2
 ·intro c hc hi
  rcases r3 c hc with q|q
  ·exact O.dj c q hi
  ·have:=(O.items.own c hi).2.1;omega
 ·rw[q3 j (by omega),r4 j (by omega) λhk=>by have:=(O.keys.own j hk).1;omega]
theorem Obj.itemA(O:Obj lo g M b ks xs sk si bk bi)(hn:xs.length<=1000){x:Tr}{ck ci:Sl}{xb:Nat}(af:Blk g xb (zh x ck ci).toArray)(ah:Rd M .tree x (zh x ck ci))
  (hK:∀g3 si' ai,Obj lo g3 M b ks (xs++[x]) sk si' bk ai->Keep lo g g3->K g3):
  XRun Tp (Au #[23,23] 23 #[.slice si.a si.len si.cap,.slice (some ⟨xb,0,none⟩) 1 1]) g (λv g2=>∃s:Sl,v=.slice s.a s.len s.cap /\
   XRunU Tp (Ai 23 (.pointer (some (Aj ⟨b,0,none⟩ 3))) (.slice s.a s.len s.cap)) g2 (λg3=>K g3)):=by
 have ac:=O.box.lt
 have aj:=O.lo
 refine ORow.app elemTree (by omega) O.ag O.items (by omega) af ah (by omega) λs1 g2 Z r1 r2 r3 r4=>⟨s1,rfl,?_⟩
 have box2:Blk g2 b (zd 6 ⟨#[]⟩ sk si).toArray:=by
  have:=O.box
  unfold Blk at this ⊢
  rw[r4 b ac O.ni];exact this
 have ae:AgM M g2:=AgM.app O.ag r4 λc hc=>(O.items.own c hc).2.2
 have aa:b∉Z:=λhc=>by
  rcases r3 b hc with q|q
  ·exact O.ni q
  ·omega
 refine zdf qeu qev (o:=3) box2 (by show 3<4;omega) rfl λg3 q1 q2 q3=>?_
 have q1:Blk g3 b (zd 6 ⟨#[]⟩ sk s1).toArray:=q1
 refine hK g3 s1 Z ⟨AgM.but ae O.no q3,q1,?_,?_,O.nk,aa,?_,O.no,O.lo⟩ ⟨by omega,λj hj=>?_⟩
 ·exact O.keys.frame (λc hc=>(q3 c λe=>O.nk (e ▸ hc)).trans (r4 c (O.keys.own c hc).2.1 (O.dj c hc))) (Fr.le.refl _) λc hc=>(O.keys.own c hc).2.2
 ·exact r1.frame (λc hc=>q3 c λe=>aa (e ▸ hc)) (Fr.le.refl _) λc hc=>(r1.own c hc).2.2
 ·intro c hc hi
  rcases r3 c hi with q|q
  ·exact O.dj c hc q
  ·have:=(O.keys.own c hc).2.1;omega
 ·rw[q3 j (by omega),r4 j (by omega) λhk=>by have:=(O.items.own j hk).1;omega]
structure Out (h:zb) (M:Fr) (ob:Nat) (g:zb) (M':Fr) (xs:List Tr) (si:Sl) (bi:List Nat):Prop where
 la:Later h M g M'
 rb:∃cs:Array Value,Blk g h.size cs/\cs.size=4
 n0:M' h.size=none
 box:Blk g ob (zd 5 ⟨#[]⟩ ⟨none,0,0⟩ si).toArray
 nb:M' ob=none
 row:ORow (ob+1) g M' .tree xs si bi
 lt:h.size<ob
theorem Out.call(O:Out h M ob g M' xs si bi)(L:Later g M' g' M''):Out h M ob g' M'' xs si bi:=by
 obtain⟨cs,e1,e2⟩:=O.rb
 exact⟨O.la.trans L,⟨cs,e1.ofKeep L.keep,e2⟩,by rw[L.old _ e1.lt];exact O.n0,O.box.ofKeep L.keep,by rw[L.old _ O.box.lt];exact O.nb,O.row.call L,O.lt⟩
theorem Out.kp(O:Out h M ob g M' xs si bi)(hl:ob<lo/\∀c∈bi,c<lo)(k:Keep lo g g')(ag:AgM M' g')(hz:g.size<=g'.size):Out h M ob g' M' xs si bi:=by
 have h1:=O.lt
 have h2:=O.la.keep.size
 obtain⟨cs,e1,e2⟩:=O.rb
 refine⟨⟨⟨by omega,λj hj=>by rw[k.get j (by omega)];exact O.la.keep.get j hj⟩,O.la.le,O.la.old,ag⟩,⟨cs,?_,e2⟩,O.n0,?_,O.nb,?_,O.lt⟩
 ·unfold Blk at e1 ⊢;rw[k.get _ (by omega)];exact e1
 ·have:=O.box
  unfold Blk at this ⊢;rw[k.get _ (by omega)];exact this
 ·exact O.row.frame (λc hc=>k.get c (hl.2 c hc)) (Fr.le.refl _) λc hc=>(O.row.own c hc).2.2
theorem Out.frz{bi bs:List Nat}(O:Out h M ob g M' xs si bi)(hl:ob<lo/\∀c∈bi,c<lo)(hb:∀c∈bs,lo<=c):Out h M ob g (MxL M' g bs) xs si bi:=by
 have h1:=O.lt
 have key:∀c,c<lo->M' c=none->MxL M' g bs c=none:=λc hc e=>by
  unfold MxL
  rw[if_neg (λhm=>by have:=hb c hm;omega)];exact e
 refine⟨Later.own O.la λc hc=>by have:=hb c hc;omega,O.rb,key _ (by omega) O.n0,O.box,key _ hl.1 O.nb,?_,O.lt⟩
 exact O.row.frame (λ_ _=>rfl) (zag O.la.ag bs) λc hc=>key c (hl.2 c hc) (O.row.own c hc).2.2
structure Wk (h:zb) (M:Fr) (ob:Nat) (xs:List Tr) (si:Sl) (bi:List Nat) (lo b:Nat) (g:zb) (M':Fr) (ks:List Bt) (ys:List Tr):Prop where
 out:Out h M ob g M' xs si bi
 up:ob<lo/\∀c∈bi,c<lo
 obj:∃sk si bk bi,Obj lo g M' b ks ys sk si bk bi
theorem Wk.call(W:Wk h M ob xs si bi lo b g M' ks ys)(L:Later g M' g' M''):Wk h M ob xs si bi lo b g' M'' ks ys:=by
 obtain⟨sk,s2,bk,b2,O⟩:=W.obj
 exact⟨W.out.call L,W.up,⟨sk,s2,bk,b2,O.call L⟩⟩
theorem Wk.kp{ks ks':List Bt}{ys Z:List Tr}(W:Wk h M ob xs si bi lo b g M' ks ys)(k:Keep lo g g')(hz:g.size<=g'.size){sk' si':Sl}{bk' aa:List Nat}(O:Obj lo g' M' b ks' Z sk' si' bk' aa):Wk h M ob xs si bi lo b g' M' ks' Z:=
 ⟨W.out.kp W.up k O.ag hz,W.up,⟨sk',si',bk',aa,O⟩⟩
end
section
variable {M:Fr}
theorem z3i{x:Tr}{ck ci:Sl}(hx:RdV M .tree x (.agg (zh x ck ci).toArray)):Rd M .tree x (zh x ck ci):=by
 unfold RdV at hx
 simp only[zdm,if_true]at hx
 obtain⟨cs,e,hr⟩:=hx
 have:zh x ck ci=cs:=by injection e with e;simpa using congrArg Dk e
 rw[this];exact hr
theorem z7k{x y:Tr}{a1 a2 b1 b2:Sl}(hx:Rd M .tree x (zh x a1 a2))(hy:Rd M .tree y (zh y b1 b2)):∀i (hi:i < [x,y].length),Rd M .tree [x,y][i] (cut (zh x a1 a2++zh y b1 b2).toArray (i*4) 4):=by
 intro i hi
 match i,hi with
 |0,_=>exact hx
 |1,_=>exact hy
theorem qf0{xs:List OpT}{s:Sl}(H:Rd M (.row Z1) xs [slV s]){k:Nat}(hk:k<xs.length):∃(a:Addr) (sp sf sk si:Sl),s.a=some a/\(∀{h':zb} {M':Fr},AgM M' h'->Fr.le M M'->ze h' (a.add (((k:Nat):Int).toNat*7)) 0 (zr xs[k].1 sp sf xs[k].2.2.2 sk si)) /\
  RdV M (.row .str) xs[k].2.1 (slV sp)/\RdV M (.row .str) xs[k].2.2.1 (slV sf)/\RdV M .tree xs[k].2.2.2 (.agg (zh xs[k].2.2.2 sk si).toArray):=by
 obtain⟨b,o,cs,e1,e2,e3⟩:=Go.X.rowAt H hk
 have e4:RdV M Z1 xs[k] (.agg (cut cs (o+k*sz Z1) (sz Z1)).toArray):=by
  unfold RdV;simp only[zdm,if_true];exact⟨_,rfl,e3⟩
 obtain⟨sp,sf,sk,si,q,r1,r2,r3⟩:=z3v e4
 have:(cut cs (o+k*sz Z1) (sz Z1))=zr xs[k].1 sp sf xs[k].2.2.2 sk si:=by
  injection q with q
  exact congrArg Dk q
 refine⟨_,sp,sf,sk,si,e1,λag le=>?_,r1,r2,r3⟩
 rw[Ad,qep]
 exact zz8 ag (le _ _ e2) (i:=0) this
theorem qeb{h:zb}(ag:AgM M h){b:Nat}(hb:h.size<=b):M b=none:=by
 cases e:M b with
 |none=>rfl
 |some cs=>have:=ag.lt e;omega
set_option maxHeartbeats 8000000 in
theorem z3j{gl:Fr}(hg:GL gl){l:List OpT}(hl:∀o∈l,OpS o)(hn:l.length<=100000)(sm:l.all qc=true->l.length<=4096->Sm (zex (l.map Zo))){R:Tr×Int->Prop}(hR:R (zyc l)):PC Tp gl 23 [Arg.mk (.row Z1) l] [.tree,.int .i64] R:=by
 intro h M vs hM ag ha
 match vs,ha with
 |[u],⟨hu,_⟩=>
 have hu:RdV M (.row Z1) l u:=hu
 obtain⟨sl,rfl,rl⟩:=zit hu
 obtain⟨ll,_,_⟩:=rowLen rl
 apply PX.of
 apply zew sl
 intro h1
 have k1:Keep h.size h h1:=Keep.push _ _ (Ae _)
 have b1:Blk h1 h.size (zd 0 ⟨#[]⟩ ⟨none,0,0⟩ ⟨none,0,0⟩).toArray:=Blk.new _ _ _
 have z1:h1.size=h.size+1:=Ak _
 clear_value h1
 have L1:Later h M h1 M:=Later.same ag k1
 have dG:M h.size=none:=by
  cases e:M h.size with
  |none=>rfl
  |some cs=>have:=ag.lt e;omega
 have ret:∀(g:zb) (M':Fr) (r:Tr) (e:Int) (sk si:Sl),Later h M g M'->(∃cs:Array Value,Blk g h.size cs/\cs.size=4)->M' h.size=none->RdV M' .tree r (.agg (zh r sk si).toArray)->R (r,e) ->
   XRunU Tp (Ai 25 (.pointer (some ⟨h.size,0,none⟩)) (.agg #[.int .i64 r.kind,.string r.text,slV sk,slV si])) g (λg'=>∃bm:Int,∃bF:Bt,∃aj:Sl,∃al:Sl,ze g' ⟨h.size,0,none⟩ 0 [.int .i64 bm,.string bF,.slice aj.a aj.len aj.cap,.slice al.a al.len al.cap] /\
    (∃M' r',Later h M g' M'/\Xu M' [.tree,.int .i64] r' (.tuple #[.agg #[.int .i64 bm,.string bF,.slice aj.a aj.len aj.cap,.slice al.a al.len al.cap],.int .i64 e])/\R r')):=by
  intro g M' r e sk si L hb hn hr hR
  obtain⟨cs,e1,e2⟩:=hb
  refine qa e1 e2 r.kind r.text sk si λg' q1 q2 q3=>⟨r.kind,r.text,sk,si,q1.ld (cs:=zd r.kind r.text sk si),M',(r,e),?_,⟨[_,_],⟨_,_,rfl,hr,_,rfl,z5d _ _⟩,rfl⟩,hR⟩
  have i2:=L.keep.size
  exact⟨⟨by omega,λj hj=>by rw[q3 j (by omega)];exact L.keep.get j hj⟩,L.le,L.old,AgM.but L.ag hn q3⟩
 unfold zyc at hR
 refine⟨λi g=>∃(k:Nat) (M':Fr),i=k/\k<=l.length/\Later h M g M'/\(∃cs:Array Value,Blk g h.size cs/\cs.size=4)/\M' h.size=none/\(l.take k).all qc=true,λi _=>l.length-i.toNat,
  ⟨0,M,rfl,by omega,L1,⟨_,b1,rfl⟩,dG,by simp⟩,?_⟩
 rintro i h5 ⟨k,M5,rfl,hk,L5,aS,bJ,aN⟩
 refine⟨λhc=>?_,λhc=>?_⟩
 ·have af:k<l.length:=by simp at hc;omega
  obtain⟨a,sp,sf,ck,ci,e1,e2,e3⟩:=opAt L5.ag (Rd.mono L5.le rl) af
  refine⟨a,⟨e1,by omega,by omega⟩,l[k].1,sp,sf,l[k].2.2.2.kind,l[k].2.2.2.text,ck,ci,by rw[Ad];exact e2,?_⟩
  have hp:PC Tp gl 18 [Arg.mk Z1 l[k]] [.bool] (λr=>r=qc l[k]):=zx8 hg (hl _ (As af)) rfl
  refine hp.go (vs:=[.agg (zr l[k].1 sp sf l[k].2.2.2 ck ci).toArray]) (hM.trans L5.le) L5.ag (qn e3 y0) λw cm bS r bQ Z hr=>?_
  have hr:r=qc l[k]:=hr
  subst hr
  have Lx:=L5.trans bQ
  have bD:∃cs:Array Value,Blk cm h.size cs/\cs.size=4:=by
   obtain⟨cs,q1,q2⟩:=aS
   exact⟨cs,q1.ofKeep bQ.keep,q2⟩
  have bz:bS h.size=none:=by
   obtain⟨cs,q1,q2⟩:=aS
   rw[bQ.old _ q1.lt];exact bJ
  refine⟨_,zc2 Z,λhx=>?_,λhx=>?_⟩
  ·have an:qc l[k]=false:=by simpa using hx
   have:¬l.all qc=true:=λe=>by
    rw[AQ]at e
    rw[e _ (As af)]at an;cases an
   rw[if_neg this]at hR
   exact ret cm bS zT 1 ⟨none,0,0⟩ ⟨none,0,0⟩ Lx bD bz zha hR
  ·have an:qc l[k]=true:=by simpa using hx
   rw[y5 af (by omega)]
   refine⟨⟨k+1,bS,rfl,by omega,Lx,bD,bz,?_⟩,by simp only[Ad];omega⟩
   rw[Ag af,CR,aN,CB,an];rfl
 have cT:k=l.length:=by simp at hc;omega
 subst cT
 rw[AD]at aN
 rw[if_pos aN]at hR
 refine⟨λhx=>?_,λhx=>?_⟩
 ·have:¬l.length<=4096:=by
   have:(sl.len:Int)>4096:=by simpa using hx
   omega
  rw[if_neg this]at hR
  exact ret h5 M5 zT 6 ⟨none,0,0⟩ ⟨none,0,0⟩ L5 aS bJ zha hR
 have cy:l.length<=4096:=by
  have:¬(sl.len:Int)>4096:=by simpa using hx
  omega
 rw[if_pos cy]at hR
 intro a1
 have dE:Keep h5.size h5 a1:=Keep.push _ _ (Ae _)
 have dl:Blk a1 h5.size (zd 0 ⟨#[]⟩ ⟨none,0,0⟩ ⟨none,0,0⟩).toArray:=Blk.new _ _ _
 have ed:a1.size=h5.size+1:=Ak _
 clear_value a1
 refine qa dl rfl 5 ⟨#[]⟩ ⟨none,0,0⟩ ⟨none,0,0⟩ λbZ dh ec d0=>?_
 have cM:Keep h5.size h5 bZ:=⟨by omega,λj hj=>by rw[d0 j (by omega)];exact dE.get j hj⟩
 have dV:=Later.same L5.ag cM
 have cp:M5 h5.size=none:=by
  cases e:M5 h5.size with
  |none=>rfl
  |some cs=>have:=L5.ag.lt e;omega
 have cQ:h.size<h5.size:=by obtain⟨cs,q1,_⟩:=aS;exact q1.lt
 have dA:Out h M h5.size bZ M5 [] ⟨none,0,0⟩ []:=by
  obtain⟨cs,q1,q2⟩:=aS
  exact⟨L5.trans dV,⟨cs,q1.ofKeep cM,q2⟩,bJ,dh,cp,ORow.nil,cQ⟩
 refine⟨λi g=>∃(k:Nat) (M':Fr) (si:Sl) (bi:List Nat),i=k/\k<=l.length/\Out h M h5.size g M' ((l.take k).map Zo) si bi,
  λi _=>l.length-i.toNat,⟨0,M5,⟨none,0,0⟩,[],rfl,by omega,dA⟩,?_⟩
 rintro i g ⟨k,M',si,bi,rfl,hk,O⟩
 refine⟨λhc=>?_,λhc=>?_⟩
 ·have af:k<l.length:=by simp at hc;omega
  have hO:=hl _ (As af)
  have d5:=AQ.1 aN _ (As af)
  have cJ:qh l[k].2.1=true/\qh l[k].2.2.1=true:=by
   have:=d5
   unfold qc at this
   simp only[AI]at this
   exact⟨this.2.1,this.2.2.1⟩
  obtain⟨a,sp,sf,ck,ci,e1,cells,r1,r2,r3⟩:=qf0 rl af
  have aD:sl.a=some a/\(0:Int)<=k/\(k:Int)<sl.len:=⟨e1,by omega,by omega⟩
  have aP:=O.row.own
  have dY:((l.take k).map Zo).length=k:=by rw[Ba,AR];omega
  refine⟨a,aD,l[k].1,(cells O.la.ag O.la.le).1,?_⟩
  have hs:PC Tp gl 39 [Arg.mk .str l[k].1] [.bool,.bool,.bool] (λr=>r=zy (lb l[k].1)):=zpa rfl
  refine hs.go (vs:=[.string l[k].1]) (hM.trans O.la.le) O.la.ag (qn (rdStr _) y0) λw ep eu r c7 Z hr=>?_
  have hr:r=zy (lb l[k].1):=hr
  subst hr
  have aB:=O.call c7
  refine⟨(zy (lb l[k].1)).1,(zy (lb l[k].1)).2.1,(zy (lb l[k].1)).2.2,zv8 Z,a,aD,sp,(cells aB.la.ag aB.la.le).2.1,?_⟩
  have bY:∀(p:List Bt),SL p->qh p=true->PC Tp gl 51 [Arg.mk (.row .str) p] [.str,.int .i64] (λr=>r.1=Jj p):=λp hp dU=>z6h hp (λ_=>rfl) (λe=>by rw[dU]at e;cases e)
  refine(bY _ hO.p cJ.1).go (vs:=[slV sp]) (hM.trans aB.la.le) aB.la.ag (qn (RdV.mono aB.la.le r1) y0) λw ae dy r dr Z hr=>?_
  have hr:r.1=Jj l[k].2.1:=hr
  have aF:=aB.call dr
  refine⟨r.1,r.2,qb2 Z,?_⟩
  rw[hr]
  intro a7
  have dI:Keep ae.size ae a7:=Keep.push _ _ (Ae _)
  have dm:Blk a7 ae.size [AU kOp,AU Q1].toArray:=Blk.new _ _ _
  have ee:a7.size=ae.size+1:=Ak _
  clear_value a7
  have cb:dy ae.size=none:=qeb aF.la.ag (Ae _)
  have aQ:=aF.call (Later.same aF.la.ag dI)
  refine⟨a,aD,l[k].1,(cells aQ.la.ag aQ.la.le).1,?_⟩
  have bO:∀s:Bt,PC Tp gl 52 [Arg.mk .str s] [.tree] (λr=>r=Yz s):=λs=>qfy rfl
  refine(bO l[k].1).go (vs:=[.string l[k].1]) (hM.trans aQ.la.le) aQ.la.ag (qn (rdStr _) y0) λw er eh r bc Z hr=>?_
  have hr:r=Yz l[k].1:=hr
  subst hr
  obtain⟨ak,ai,rfl,de⟩:=qb3 Z
  have bG:=aQ.call bc
  have ej:=bc.keep.size
  refine⟨(Yz l[k].1).kind,(Yz l[k].1).text,ak,ai,rfl,?_⟩
  refine(bO (Jj l[k].2.1)).go (vs:=[.string (Jj l[k].2.1)]) (hM.trans bG.la.le) bG.la.ag (qn (rdStr _) y0) λw ah bH r aI Z hr=>?_
  have hr:r=Yz (Jj l[k].2.1):=hr
  subst hr
  obtain⟨dk,di,rfl,dM⟩:=qb3 Z
  have bU:=bG.call aI
  have ez:=aI.keep.size
  refine⟨(Yz (Jj l[k].2.1)).kind,(Yz (Jj l[k].2.1)).text,dk,di,rfl,?_⟩
  intro ac aZ
  have dx:Keep ah.size ah ac:=Keep.push _ _ (Ae _)
  have dq:Keep ac.size ac aZ:=Keep.push _ _ (Ae _)
  have dH:Blk ac ah.size (zh (Yz l[k].1) ak ai++zh (Yz (Jj l[k].2.1)) dk di).toArray:=Blk.new _ _ _
  have db:Blk aZ ac.size (zd 0 ⟨#[]⟩ ⟨none,0,0⟩ ⟨none,0,0⟩).toArray:=Blk.new _ _ _
  have ew:ac.size=ah.size+1:=Ak _
  have eo:aZ.size=ac.size+1:=Ak _
  clear_value ac aZ
  refine qa db rfl 6 ⟨#[]⟩ ⟨some ⟨ae.size,0,none⟩,2,2⟩ ⟨some ⟨ah.size,0,none⟩,2,2⟩ λbh du eb cY=>?_
  have cn:Keep ac.size ac bh:=⟨by omega,λj hj=>by rw[cY j (by omega)];exact dq.get j hj⟩
  have bp:Keep ah.size ah bh:=dx.trans cn (by omega)
  have dJ:=Later.same bU.la.ag bp
  have cH:=bU.call dJ
  have aL:∀b,ae.size<=b->b=ae.size\/ah.size<=b->bH b=none:=by
   intro b hb dz
   rcases dz with rfl|q
   ·rw[aI.old _ (by omega),bc.old _ (by omega)];exact cb
   ·exact qeb bU.la.ag q
  have au:Wk h M h5.size ((l.take k).map Zo) si bi ae.size ac.size bh bH ([kOp]++[Q1]) ([Yz l[k].1]++[Yz (Jj l[k].2.1)]):=by
   refine⟨cH,⟨aF.box.lt,λc hc=>(aF.row.own c hc).2.1⟩,⟨_,_,[ae.size],[ah.size],⟨cH.la.ag,du,?_,?_,by simp;omega,by simp;omega,?_,aL _ (by omega) (.inr (by omega)),by omega⟩⟩⟩
   ·refine .inr ⟨ae.size,_,rfl,rfl,rfl,Ae _,((dm.ofKeep bc.keep).ofKeep aI.keep).ofKeep bp,by show 2*1<=2;omega,Ae _,aL _ (Ae _) (.inl rfl),λi hi=>?_⟩
    match i,hi with
    |0,_=>rfl
    |1,_=>rfl
   ·refine .inr ⟨ah.size,_,rfl,rfl,rfl,Ae _,dH.ofKeep cn,by show 2*4<=8;omega,by omega,aL _ (by omega) (.inr (Ae _)),?_⟩
    exact z7k (Rd.mono aI.le (z3i de)) (z3i dM)
   ·intro c hc hd
    rw[Be.1 hc]at hd
    have:=Be.1 hd
    omega
  intro da cA
  have bo:∀(g:zb) (M':Fr) (ks:List Bt) (ys:List Tr),Wk h M h5.size ((l.take k).map Zo) si bi ae.size ac.size g M' ks ys->ks=([kOp]++[Q1])++(if(zy (lb l[k].1)).2.1=true then [Q2]else [])->ys=([Yz l[k].1]++[Yz (Jj l[k].2.1)])++(if(zy (lb l[k].1)).2.1=true then [Yz (Jj l[k].2.2.1)]else [])->da g:=by
   intro g M' ks ys W bM bT
   have dD:ks.length<=999/\ys.length<=999:=by
    rw[bM,bT];split <;> simp
   apply cA
   intro dd ca
   have cB:∀(g:zb) (M':Fr) (ks:List Bt) (ys:List Tr),Wk h M h5.size ((l.take k).map Zo) si bi ae.size ac.size g M' ks ys->(ks.length<=1000/\ys.length<=1000)->Tr.mk 6 ⟨#[]⟩ ks ys=Zo l[k]->dd g:=by
    intro g M' ks ys W dD e
    apply ca
    obtain⟨sk,s2,bk,b2,Ob⟩:=W.obj
    have cZ:∀c∈bk++b2,ae.size<=c:=by
     intro c hc
     rcases An.1 hc with hc|hc
     ·exact(Ob.keys.own c hc).1
     ·exact(Ob.items.own c hc).1
    have O2:=W.out.frz W.up cZ
    have dF:=Ob.rd ⟨by omega,by omega⟩
    refine⟨si,W.out.box.cellAdd (by rfl),6,⟨#[]⟩,sk,s2,Ob.box.ld (cs:=zd 6 ⟨#[]⟩ sk s2),?_⟩
    intro be
    have dZ:Keep g.size g be:=Keep.push _ _ (Ae _)
    have df:Blk be g.size (zh (Tr.mk 6 ⟨#[]⟩ ks ys) sk s2).toArray:=Blk.new _ _ _
    have en:be.size=g.size+1:=Ak _
    clear_value be
    have dw:=Later.same O2.la.ag dZ
    have aa:=O2.call dw
    have dN:=aa.box.lt
    have ar:=aa.row
    have dS:=aa.lt
    refine ORow.app elemTree (by omega) aa.la.ag ar (by omega) df (z3i dF) (by omega) λs' dC dB q1 q2 q3 q4=>⟨s',rfl,?_⟩
    have cG:h5.size∉bi:=λhm=>by have:=(ar.own _ hm).1;omega
    have n0:h.size∉bi:=λhm=>by have:=(ar.own _ hm).1;omega
    have bL:Blk dC h5.size (zd 5 ⟨#[]⟩ ⟨none,0,0⟩ si).toArray:=by
     have:=aa.box
     unfold Blk at this ⊢
     rw[q4 _ (by omega) cG];exact this
    refine zdf qeu qev (o:=3) bL (by show 3<4;omega) rfl λcc p1 p2 p3=>?_
    have p1:Blk cc h5.size (zd 5 ⟨#[]⟩ ⟨none,0,0⟩ s').toArray:=p1
    have cr:=AgM.app aa.la.ag q4 λc hc=>(ar.own c hc).2.2
    have zz:=aa.la.keep.size
    rw[y5 af (by omega)]
    refine⟨⟨k+1,_,s',dB,rfl,by omega,⟨⟨⟨by omega,λj hj=>?_⟩,aa.la.le,aa.la.old,AgM.but cr aa.nb p3⟩,?_,aa.n0,p1,aa.nb,?_,aa.lt⟩⟩,by simp only[Ad];omega⟩
    ·rw[p3 j (by omega),q4 j (by omega) λhm=>by have:=(ar.own _ hm).1;omega]
     exact aa.la.keep.get j hj
    ·obtain⟨cs,f1,f2⟩:=aa.rb
     refine⟨cs,?_,f2⟩
     unfold Blk at f1 ⊢
     rw[p3 _ (by omega),q4 _ (by omega) n0];exact f1
    ·rw[Ag af,BF]
     have q1:=q1.frame (h':=cc) (M':=MxL M' g (bk++b2)) (λc hc=>p3 c (by have:=(q1.own c hc).1;omega)) (Fr.le.refl _) λc hc=>(q1.own c hc).2.2
     rw[e]at q1
     exact q1
   refine⟨λhc=>?_,λhc=>?_⟩
   ·obtain⟨sk,s2,bk,b2,Ob⟩:=W.obj
    refine⟨sk,Ob.box.cellAdd (by rfl),?_⟩
    intro bj
    have dO:Keep g.size g bj:=Keep.push _ _ (Ae _)
    have c8:Blk bj g.size [AU yp].toArray:=Blk.new _ _ _
    have ev:bj.size=g.size+1:=Ak _
    clear_value bj
    have bV:=Later.same W.out.la.ag dO
    have dQ:=W.call bV
    refine(Ob.call bV).keyA (by omega) c8 λei sk' bk' ba bn=>?_
    have aC:=dQ.kp bn bn.size ba
    refine⟨s2,ba.box.cellAdd (by rfl),a,aD,l[k].2.2.2.kind,l[k].2.2.2.text,ck,ci,?_,?_⟩
    ·have a8:=cells aC.out.la.ag aC.out.la.le
     exact⟨a8.2.2.2.1,a8.2.2.2.2.1,a8.2.2.2.2.2.1,a8.2.2.2.2.2.2.1,trivial⟩
    have dv:PC Tp gl 12 [Arg.mk .tree l[k].2.2.2] [.tree] (λr=>r=l[k].2.2.2):=zjo _ hO.v rfl
    refine dv.go (vs:=[.agg #[.int .i64 l[k].2.2.2.kind,.string l[k].2.2.2.text,slV ck,slV ci]]) (hM.trans aC.out.la.le) aC.out.la.ag (qn (RdV.mono aC.out.la.le r3) y0) λw aH dt r aV Z hr=>?_
    have hr:r=l[k].2.2.2:=hr
    subst hr
    obtain⟨fk,fi,rfl,hx⟩:=qb3 Z
    have b8:=aC.call aV
    have bC:=ba.box.lt
    have ey:=aV.keep.size
    refine⟨l[k].2.2.2.kind,l[k].2.2.2.text,fk,fi,rfl,aV.keep.get _ bC,?_⟩
    intro a6
    have cO:Keep aH.size aH a6:=Keep.push _ _ (Ae _)
    have dT:Blk a6 aH.size (zh l[k].2.2.2 fk fi).toArray:=Blk.new _ _ _
    have ek:a6.size=aH.size+1:=Ak _
    clear_value a6
    have cg:=Later.same b8.out.la.ag cO
    have cV:=b8.call cg
    refine⟨(cO.get _ (show ac.size<aH.size by omega)).trans (aV.keep.get _ bC),?_⟩
    refine((ba.call aV).call cg).itemA (by omega) dT (z3i hx) λcF si' dL cu aJ=>?_
    refine cB cF dt _ _ (cV.kp aJ aJ.size cu) ⟨by simp;omega,by simp;omega⟩ ?_
    unfold Zo qb0 qb1
    rw[bM,bT,if_pos hc,if_pos hc]
    simp only[AP]
   ·refine cB g M' ks ys W ⟨by omega,by omega⟩ ?_
    unfold Zo qb0 qb1
    rw[bM,bT,hc]
    simp
  refine⟨λhc=>?_,λhc=>?_⟩
  ·refine⟨a,aD,sf,(cells au.out.la.ag au.out.la.le).2.2.1,?_⟩
   refine(bY _ hO.f cJ.2).go (vs:=[slV sf]) (hM.trans au.out.la.le) au.out.la.ag (qn (RdV.mono au.out.la.le r2) y0) λw aA d7 r co Z hr=>?_
   have hr:r.1=Jj l[k].2.2.1:=hr
   have aU:=au.call co
   refine⟨r.1,r.2,qb2 Z,?_⟩
   rw[hr]
   obtain⟨sk,s2,bk,b2,Ob⟩:=aU.obj
   refine⟨sk,Ob.box.cellAdd (by rfl),?_⟩
   intro ax
   have cL:Keep aA.size aA ax:=Keep.push _ _ (Ae _)
   have cj:Blk ax aA.size [AU Q2].toArray:=Blk.new _ _ _
   have d8:ax.size=aA.size+1:=Ak _
   clear_value ax
   have bq:=Later.same aU.out.la.ag cL
   have cd:=aU.call bq
   refine(Ob.call bq).keyA (by simp) cj λea sk' bk' ay aE=>?_
   have aM:=cd.kp aE aE.size ay
   refine⟨s2,ay.box.cellAdd (by rfl),?_⟩
   refine(bO (Jj l[k].2.2.1)).go (vs:=[.string (Jj l[k].2.2.1)]) (hM.trans aM.out.la.le) aM.out.la.ag (qn (rdStr _) y0) λw am cz r ap Z hr=>?_
   have hr:r=Yz (Jj l[k].2.2.1):=hr
   subst hr
   obtain⟨fk,fi,rfl,hx⟩:=qb3 Z
   have bA:=aM.call ap
   have aT:=ay.box.lt
   have d9:=ap.keep.size
   refine⟨(Yz (Jj l[k].2.2.1)).kind,(Yz (Jj l[k].2.2.1)).text,fk,fi,rfl,ap.keep.get _ aT,?_⟩
   intro az
   have bu:Keep am.size am az:=Keep.push _ _ (Ae _)
   have cq:Blk az am.size (zh (Yz (Jj l[k].2.2.1)) fk fi).toArray:=Blk.new _ _ _
   have d6:az.size=am.size+1:=Ak _
   clear_value az
   have bE:=Later.same bA.out.la.ag bu
   have cE:=bA.call bE
   refine⟨(bu.get _ (show ac.size<am.size by omega)).trans (ap.keep.get _ aT),?_⟩
   refine((ay.call ap).call bE).itemA (by simp) cq (z3i hx) λb9 si' dL cC aO=>?_
   refine bo b9 cz _ _ (cE.kp aO aO.size cC) ?_ ?_
   ·rw[if_pos hc]
   ·rw[if_pos hc]
  ·refine bo bh bH _ _ au ?_ ?_
   ·rw[hc];simp
   ·rw[hc];simp
 ·have af:k=l.length:=by simp at hc;omega
  subst af
  have O':=O
  rw[AD]at O'
  have bB:=O'.row
  have dY:(l.map Zo).length=l.length:=Ba ..
  refine⟨5,⟨#[]⟩,⟨none,0,0⟩,si,O'.box.ld (cs:=zd 5 ⟨#[]⟩ ⟨none,0,0⟩ si),?_⟩
  have aP:=bB.own
  have dS:=O'.lt
  have hv:RdV (MxL M' g bi) .tree (zex (l.map Zo)) (.agg (zd 5 ⟨#[]⟩ ⟨none,0,0⟩ si).toArray):=by
   refine yn (v:=zex (l.map Zo)) (sk:=⟨none,0,0⟩) ?_ ?_
   ·exact⟨_,rfl,none,0,rfl,⟨by simp[zex],by simp[zex]⟩,.inl rfl⟩
   ·exact bB.rd O'.la.ag (λc hc=>hc) (by omega)
  have Lf:Later h M g (MxL M' g bi):=Later.own O'.la λc hc=>by have:=(aP c hc).1;omega
  have sm:=sm aN cy
  have dP:PC Tp gl 34 [Arg.mk .tree (zex (l.map Zo))] [.bool] (λr=>r=qe (zex (l.map Zo))):=zf4 hg sm rfl
  refine dP.go (vs:=[.agg #[.int .i64 5,.string ⟨#[]⟩,slV ⟨none,0,0⟩,slV si]]) (hM.trans Lf.le) Lf.ag (qn hv y0) λw bP bI r aY Z hr=>?_
  have hr:r=qe (zex (l.map Zo)):=hr
  subst hr
  have Lx:=Lf.trans aY
  have dN:=O'.box.lt
  have cP:∀c,c<=h5.size->M' c=none->bI c=none:=λc hc e=>by
   rw[aY.old _ (by omega)]
   unfold MxL
   rw[if_neg (λhm=>by have:=(aP _ hm).1;omega)];exact e
  have aG:∃cs:Array Value,Blk bP h.size cs/\cs.size=4:=by
   obtain⟨cs,e1,e2⟩:=O'.rb
   exact⟨cs,e1.ofKeep aY.keep,e2⟩
  refine⟨_,zc2 Z,λhx=>?_,λhx=>?_⟩
  ·have an:¬qe (zex (l.map Zo))=true:=by simpa using hx
   rw[if_neg an]at hR
   exact ret bP bI zT 1 ⟨none,0,0⟩ ⟨none,0,0⟩ Lx aG (cP _ (by omega) O'.n0) zha hR
  ·have an:qe (zex (l.map Zo))=true:=by simpa using hx
   rw[if_pos an]at hR
   refine⟨5,⟨#[]⟩,⟨none,0,0⟩,si,(O'.box.ofKeep aY.keep).ld (cs:=zd 5 ⟨#[]⟩ ⟨none,0,0⟩ si),?_⟩
   exact ret bP bI (zex (l.map Zo)) 0 ⟨none,0,0⟩ si Lx aG (cP _ (by omega) O'.n0) (RdV.mono aY.le hv) hR
end
section
variable {o:OpT} {v:Tr}
structure OpX (o:OpT):Prop where
 s:OpS o
 d:o.1.size<=1048576
 p:(Jj o.2.1).size<=1048576
 f:(Jj o.2.2.1).size<=1048576
theorem ztz{s:Bt}(h:s.size<=1048576):txB 1048576 (Yz s):=by
 unfold Yz
 rw[txB,z3s]
 exact⟨⟨h,by simp,by simp⟩,trivial⟩
theorem zt0(s:Bt):tsz (Yz s)=1:=by rw[Yz,tsz,xj]
theorem z3k(h:OpX o)(hr:qc o=true):tsz (Zo o)<=5000/\txB 1048576 (Zo o):=by
 have hz:=zj7 hr
 constructor
 ·unfold Zo qb1
  rw[tsz,y7,y7,y7]
  have e1:xj [Yz o.1]=1:=by rw[xj,xj,zt0]
  have e2:xj [Yz (Jj o.2.1)]=1:=by rw[xj,xj,zt0]
  have e3:xj (if(zy (lb o.1)).2.1=true then [Yz (Jj o.2.2.1)]else [])<=1:=by
   split
   ·rw[xj,xj,zt0];omega
   ·rw[xj];omega
  have e4:xj (if(zy (lb o.1)).1=true then [o.2.2.2]else [])<=4096:=by
   split
   ·rw[xj,xj];omega
   ·rw[xj];omega
  omega
 ·unfold Zo
  rw[txB]
  refine⟨⟨by decide,?_,?_⟩,?_⟩
  ·unfold qb0
   simp only[Ao]
   split <;> split <;> simp
  ·intro k hk
   unfold qb0 at hk
   have:k=kOp\/k=Q1\/k=Q2\/k=yp:=by
    simp only[An,Be]at hk
    rcases hk with(rfl|rfl)|hk|hk
    ·exact .inl rfl
    ·exact .inr (.inl rfl)
    ·split at hk
     ·exact .inr (.inr (.inl (Be.1 hk)))
     ·cases hk
    ·split at hk
     ·exact .inr (.inr (.inr (Be.1 hk)))
     ·cases hk
   rcases this with rfl|rfl|rfl|rfl <;> decide
  ·rw[Ja]
   intro x hx
   unfold qb1 at hx
   simp only[An,Be]at hx
   rcases hx with(rfl|rfl)|hx|hx
   ·exact ztz h.d
   ·exact ztz h.p
   ·split at hx
    ·rw[Be.1 hx];exact ztz h.f
    ·cases hx
   ·split at hx
    ·rw[Be.1 hx];exact h.s.v.tx
    ·cases hx
theorem qb5{l:List OpT}(hx:∀o∈l,OpX o)(hr:l.all qc=true)(hl:l.length<=4096):Sm (zex (l.map Zo)):=by
 rw[AQ]at hr
 constructor
 ·have:∀m:List OpT,(∀o∈m,OpX o/\qc o=true)->xj (m.map Zo)<=m.length*5000:=by
   intro m
   induction m with
   |nil=>intro _;simp[xj]
   |cons o m ih=>
    intro hm
    have h1:=z3k (hm o (by simp)).1 (hm o (by simp)).2
    have h2:=ih λx hx=>hm x (by simp[hx])
    rw[Dq,xj,Ay];omega
  have h1:=this l λo ho=>⟨hx o ho,hr o ho⟩
  unfold zex
  rw[tsz];omega
 ·unfold zex
  rw[txB,Ja]
  refine⟨⟨by decide,by simp,by simp⟩,λx O=>?_⟩
  obtain⟨o,ho,rfl⟩:=BN.1 O
  exact(z3k (hx o ho) (hr o ho)).2
def kk(f w:Bool):List Bt:=([kOp]++[Q1])++((if f=true then [Q2]else [])++(if w=true then [yp]else []))
theorem ix1(f w:Bool):Lib.idxOfS (kk f w) kOp=((0:Nat):Int):=by cases f <;> cases w <;> kernel_rfl
theorem ix2(f w:Bool):Lib.idxOfS (kk f w) Q1=((1:Nat):Int):=by cases f <;> cases w <;> kernel_rfl
theorem ix3(w:Bool):Lib.idxOfS (kk true w) Q2=((2:Nat):Int):=by cases w <;> kernel_rfl
theorem ix4:Lib.idxOfS (kk true true) yp=((3:Nat):Int):=by kernel_rfl
theorem ix5:Lib.idxOfS (kk false true) yp=((2:Nat):Int):=by kernel_rfl
theorem zkf{v x:Tr}{key:Bt}{k:Nat}(ho:yg v=true)(h6:v.kind=6)(hi:Lib.idxOfS v.keys key=(k:Int))(hx:v.items[k]?=some x):Zn v key=(x,true):=by
 unfold Zn
 rw[ho,hi,decide_eq_true h6,decide_eq_true (by omega:(0:Int)<=(k:Int)),Ad]
 simp[hx]
theorem getObj(ho:yg (Zo o)=true):Zn (Zo o) kOp=(Yz o.1,true)/\Zn (Zo o) Q1=(Yz (Jj o.2.1),true)/\((zy (lb o.1)).2.1=true->Zn (Zo o) Q2=(Yz (Jj o.2.2.1),true))/\((zy (lb o.1)).1=true->Zn (Zo o) yp=(o.2.2.2,true)):=by
 have hk:(Zo o).keys=kk (zy (lb o.1)).2.1 (zy (lb o.1)).1:=rfl
 have hi:(Zo o).items=Yz o.1::Yz (Jj o.2.1)::((if(zy (lb o.1)).2.1=true then [Yz (Jj o.2.2.1)]else [])++(if(zy (lb o.1)).1=true then [o.2.2.2]else [])):=rfl
 refine⟨zkf (k:=0) ho rfl (by rw[hk,ix1]) (by rw[hi];rfl),zkf (k:=1) ho rfl (by rw[hk,ix2]) (by rw[hi];rfl),λhc=>zkf (k:=2) ho rfl (by rw[hk,hc,ix3]) (by rw[hi,if_pos hc];rfl),λhc=>?_⟩
 by_cases hf:(zy (lb o.1)).2.1=true
 ·exact zkf (k:=3) ho rfl (by rw[hk,hf,hc,ix4]) (by rw[hi,if_pos hf,if_pos hc];rfl)
 ·have O:(zy (lb o.1)).2.1=false:=by simpa using hf
  exact zkf (k:=2) ho rfl (by rw[hk,O,hc,ix5]) (by rw[hi,if_neg hf,if_pos hc];rfl)
theorem zkg{v x:Tr}(h:qe v=true)(hx:x∈v.items):qe x=true:=by
 have h1:=Zc h
 unfold qe at h ⊢
 rw[AI]at h ⊢
 exact⟨zmr h.1 hx,jk h.2 hx⟩
theorem z3l{key:Bt}(h:(Zn v key).2=true):(Zn v key).1∈v.items:=by
 unfold Zn at h ⊢
 split at h
 ·rename_i hc
  rw[if_pos hc]
  simp only[AI,decide_eq_true_eq]at hc
  obtain⟨ho,h6,h0⟩:=hc
  obtain⟨Z,O⟩:=zkd ho h6
  have hj:(Lib.idxOfS v.keys key).toNat<v.items.length:=by
   have:=zrw (ks:=v.keys) (k:=key) (j:=(Lib.idxOfS v.keys key).toNat) (by omega)
   omega
  show v.items.getD _ zT∈_
  rw[Bl,Am hj]
  exact As hj
 ·cases h
theorem zpf{key:Bt}(h:(y8 v key).2=true):qh (y8 v key).1=true/\Jj (y8 v key).1=(Zn v key).1.text:=by
 unfold y8 at h ⊢
 split at h
 ·rename_i hc
  rw[if_pos hc]
  have h2:(zpi (lb (w6 v key).1)).2=0:=by simpa using h
  obtain⟨a,b,c⟩:=qad (s:=lb (w6 v key).1) (p:=(zpi (lb (w6 v key).1)).1) (by rw[<-h2])
  constructor
  ·rw[zrs,zrr,b,Ba];simpa using a
  ·unfold Jj
   simp only
   rw[zrr,c,Jc];rfl
 ·cases h
theorem qb6:zeu zT=true:=by kernel_rfl
theorem zt1{x:Tr}(hx:qe x=true)(hb:Qs x=true):qc (Yv x)=true:=by
 unfold Qs at hb
 simp only[AI,Cr,B4]at hb
 obtain⟨b1,b2,b3,b4,b5⟩:=hb
 have O:zy (lb (Yv x).1)=shR x:=rfl
 unfold qc
 rw[O,b2]
 have e1:qh (Yv x).2.1=true:=(zpf b3).1
 have e2:qh (Yv x).2.2.1=true:=by
  show qh (if(shR x).2.1=true then(y8 x Q2).1 else [])=true
  by_cases c:(shR x).2.1=true
  ·rw[if_pos c]
   rcases b4 with q|q
   ·rw[c]at q;cases q
   ·exact(zpf q).1
  ·rw[if_neg c];exact zya
 have e3:((shR x).2.1||decide ((Yv x).2.2.1=[]))=true:=by
  show((shR x).2.1||decide ((if(shR x).2.1=true then(y8 x Q2).1 else [])=[]))=true
  by_cases c:(shR x).2.1=true
  ·rw[c];rfl
  ·rw[if_neg c];simp
 have e4:(bif (shR x).1 then qe (Yv x).2.2.2 else zeu (Yv x).2.2.2)=true:=by
  show(bif (shR x).1 then qe (if(shR x).1=true then(Zn x yp).1 else zT)else zeu (if(shR x).1=true then(Zn x yp).1 else zT))=true
  by_cases c:(shR x).1=true
  ·rw[if_pos c,c]
   rcases b5 with q|q
   ·rw[c]at q;cases q
   ·exact zkg hx (z3l q)
  ·have c':(shR x).1=false:=by simpa using c
   rw[if_neg c,c'];exact qb6
 rw[e1,e2,e3,e4];rfl
theorem qb7{x:Tr}(hx:Sm x)(hb:Qs x=true):OpX (Yv x):=by
 unfold Qs at hb
 simp only[AI,Cr,B4]at hb
 obtain⟨b1,b2,b3,b4,b5⟩:=hb
 have tx:∀key,((Zn x key).1.text).size<=1048576:=λkey=>by rw[<-Yo];exact(zty hx key).text
 have O:∀key,(y8 x key).2=true->SL (y8 x key).1/\(Jj (y8 x key).1).size<=1048576:=by
  intro key hk
  obtain⟨q1,q2⟩:=zpf hk
  have h1:(Jj (y8 x key).1).size<=1048576:=by rw[q2];exact tx key
  refine⟨⟨?_,λs hs=>?_⟩,h1⟩
  ·rw[zrs,AI,decide_eq_true_eq]at q1;omega
  ·have:=z2p (BN.2 ⟨s,hs,rfl⟩:lb s∈(y8 x key).1.map lb)
   unfold Jj at h1
   rw[zj]at h1;omega
 have Z:(Jj []).size<=1048576:=by decide
 refine⟨⟨(O Q1 b3).1,?_,?_⟩,tx kOp,(O Q1 b3).2,?_⟩
 ·show SL (if(shR x).2.1=true then(y8 x Q2).1 else [])
  by_cases c:(shR x).2.1=true
  ·rw[if_pos c]
   rcases b4 with q|q
   ·rw[c]at q;cases q
   ·exact(O Q2 q).1
  ·rw[if_neg c];exact zv7
 ·show Sm (if(shR x).1=true then(Zn x yp).1 else zT)
  split
  ·exact zty hx yp
  ·exact Ji
 ·show(Jj (if(shR x).2.1=true then(y8 x Q2).1 else [])).size<=1048576
  by_cases c:(shR x).2.1=true
  ·rw[if_pos c]
   rcases b4 with q|q
   ·rw[c]at q;cases q
   ·exact(O Q2 q).2
  ·rw[if_neg c];exact Z
theorem zrz(v:Tr):((Jb v).2.2≠0/\(Jb v).1=[]/\0<=(Jb v).2.1/\(Jb v).2.1<=v.items.length)\/(qe v=true/\(∀x∈v.items,Qs x=true)/\Jb v=(v.items.map Yv,(v.items.length:Int),0)):=by
 unfold Jb
 by_cases hc:qe v=true/\v.kind=5
 ·rw[if_pos hc]
  by_cases hb:z7g v=v.items.length
  ·rw[if_pos hb]
   refine .inr ⟨hc.1,λx hx=>?_,rfl⟩
   unfold z7g at hb
   rw[List.findIdx_eq_length]at hb
   have:=hb x hx
   simpa using this
  ·rw[if_neg hb]
   have:z7g v<=v.items.length:=List.findIdx_le_length
   exact .inl ⟨by simp,rfl,by simp,by simp;omega⟩
 ·rw[if_neg hc]
  exact .inl ⟨by simp,rfl,by simp,by simp⟩
theorem z3m{m:Nat}:∀{p:List Bs},(∀x∈p,x.length<=m)->(Xg p).length<=p.length*(2*m+1)
 |[],_=>by simp[Xg]
 |x::p,h=>by
  rw[show x::p=[x]++p from rfl,yh,xx,Ao,Ay]
  have h1:=z3m (p:=p) λy hy=>h y (by simp[hy])
  have h2:=zoc x
  have h3:=h x (by simp)
  simp only[Ao,Cj,BH,Dj]
  omega
theorem OpF.x{o:OpT}(h:OpF o):OpX o:=by
 have key:∀p:List Bt,PS p->(Jj p).size<=1048576:=by
  intro p hp
  unfold Jj
  rw[zj]
  have h1:=z3m (m:=1024) (p:=p.map lb) λx hx=>by
   obtain⟨y,hy,rfl⟩:=BN.1 hx
   exact hp.s y hy
  rw[Ba]at h1
  have h2:=hp.n
  have:p.length*(2*1024+1)<=200*2049:=Nat.mul_le_mul h2 (by omega)
  omega
 exact⟨h.s,by have:=h.d;omega,key _ h.p,key _ h.f⟩
end
section
variable {l:List OpT} {v:Tr}
theorem z7l(sm:l.all qc=true->l.length<=4096->Sm (zex (l.map Zo))):Sm (zyc l).1:=by
 unfold zyc
 split
 ·rename_i h1
  split
  ·rename_i h2
   split
   ·exact sm h1 h2
   ·exact Ji
  ·exact Ji
 ·exact Ji
theorem zyd(hv:Sm v):(∀o∈(Jb v).1,OpX o/\(qc o=true))/\(Jb v).1.length<=4096:=by
 rcases zrz v with⟨_,e,_⟩|⟨h1,h2,e⟩
 ·rw[e];exact⟨(λo ho=>by cases ho),by simp⟩
 ·rw[e]
  have hz:=zaj h1
  have hl:=Zw v.items
  rw[j5]at hz
  refine⟨λo ho=>?_,by rw[Ba];omega⟩
  obtain⟨x,hx,rfl⟩:=BN.1 ho
  exact⟨qb7 (hv.item hx) (h2 x hx),zt1 (zkg h1 hx) (h2 x hx)⟩
set_option maxHeartbeats 1000000 in
theorem zye{gl:Fr}(hg:GL gl){R:Bool->Prop}(hR:R true):PC Tp gl 7 [Arg.mk (.row Z1) l,Arg.mk .tree v] [.bool] R:=by
 apply J8
 refine zx9 hg ?_
 rw[qo]
 refine z8d (by omega) λb1 O=>⟨λb=>b=true->l.length<=30/\∀o∈l,OpF o,λ_=>z7e λb hb=>hb,λb2 Z=>⟨λ_=>hR,λhx=>?_⟩⟩
 have hs:b1=true/\b2=true:=by cases b1 <;> cases b2 <;> simp at hx;exact⟨rfl,rfl⟩
 obtain⟨e1,e2⟩:=hs
 obtain⟨hn,hl⟩:=Z e1 e2
 have hv:=(O e1).2
 have sm:l.all qc=true->l.length<=4096->Sm (zex (l.map Zo)):=λh1 h2=>qb5 (λo ho=>(hl o ho).x) h1 h2
 refine z7j hg (λo ho=>(hl o ho).s) (by omega) sm ?_
 refine z3j hg (λo ho=>(hl o ho).s) (by omega) sm ?_
 refine z3g hg hv ?_
 refine zyb hg hv ?_
 simp only[qo]
 refine⟨λb=>b=true,λ_=>zjn _ _ (z7l sm).sz λr hr=>hr.2 rfl,λb hb=>?_⟩
 rw[hb (by simp)]
 have hp:=zyd hv
 refine⟨λb=>b=true,λ_=>z7h (λo ho=>(hp.1 o ho).1.s) (by omega) λr hr=>hr.2 rfl,λb hb=>?_⟩
 rw[hb (by simp)]
 simpa using hR
end
end Go.X
end
