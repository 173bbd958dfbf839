/- A part of the proof: nothing is stated here for its own sake. -/
import Derived.Test.YtjohlemfgcmaoaaGreatDoorPpC
import Derived.Test.YtjohlemfgcmaoaaGreatDoorTie
import Derived.Test.YtjohlemfgcmaoaaGreatDoorCards
import Derived.PinnedBridge
import Derived.Lay
import Derived.HandedShaped
import Derived.Lib.MapLaws
import Derived.Lib.AppendZerosOnto
open _root_.Go.Addr renaming add->AD
open _root_.Array renaming getElem?_eq_getElem->A0,getElem?_eq_some_iff->Au,getElem?_push->Cq,getElem?_setIfInBounds_ne->A3,getElem?_toList->BI,replicate->Br,size_push->AM
open _root_.BitVec renaming ofInt->AH
open _root_.Bool renaming and_eq_false_iff->CW,and_eq_true->BP,cond_true_left->Cr,eq_iff_iff->A6,false_and->DL,false_eq_true->Bv,false_or->DD,not_true->Ek,or_eq_false_iff->Cu,or_eq_true->Cb,true_and->Dj
open _root_.Go.Builtin renaming append_->AU
open _root_.Classical renaming byContradiction->CU
open _root_.Go.Instr renaming mapUpdate->D4,next->Ea,storeAt->AI
open _root_.Int renaming toNat_natCast->AK
open _root_.Go.IntKind renaming bits->AB,signed->Do,wrap->Ar
open _root_.List renaming all_eq_true->A5,append_assoc->Bo,append_nil->Bu,drop_drop->Bq,drop_eq_getElem_cons->A9,drop_eq_nil_of_le->BJ,drop_take->Dp,drop_zero->Cc,eq_nil_of_length_eq_zero->Bb,exists_cons_of_ne_nil->BK,ext_getElem?->BB,getD_eq_getElem?_getD->Df,getElem?_append_left->BE,getElem?_append_right->Bf,getElem?_drop->AY,getElem?_eq_getElem->AE,getElem?_eq_none->Ce,getElem?_eq_some_iff->AQ,getElem?_map->Ct,getElem?_modify->BX,getElem?_take->AR,getElem_append_left->Dk,getElem_append_right->CV,getElem_mem->BG,length->Db,length_append->AF,length_cons->AN,length_drop->AW,length_eq_zero_iff->Bj,length_map->BN,length_nil->Bh,length_pos_iff->BC,length_take->Bc,map_append->CG,map_cons->Cf,map_nil->Eh,mem_append->AP,mem_append_left->AJ,mem_append_right->AO,mem_cons->Ay,mem_cons_of_mem->Aw,mem_flatMap->BH,mem_of_getElem?->Bl,mem_range->BF,mem_singleton->BQ,nil_append->BV,nodup_append->Ck,range->BS,take_append_drop->Cm,take_length->BL,take_of_length_le->Cv,take_succ_cons->Bw,take_succ_eq_append_getElem->Ba,take_take->Dq,take_zero->Ed
open _root_.List.cons renaming injEq->Ca
open _root_.Nat renaming add_assoc->D3,add_mul->Cp,add_zero->CM,le_refl->Av,le_trans->Ec,lt_or_ge->A1,min_eq_left->C7,mod_eq_of_lt->DW,mul_comm->C4,mul_le_mul_right->AZ,mul_one->C5,or_lt_two_pow->DI,strongRecOn->DC,sub_zero->Dv,succ_mul->C8,zero_add->AX,zero_le->Da,zero_mul->Ef
open _root_.Option renaming map_eq_some_iff->CO,map_some->D6
open _root_.Option.some renaming inj->AL,injEq->As
open _root_.Prod.mk renaming injEq->Bn
open _root_.Go.Proofs.Tryz renaming func212->Eg,isAgg0->Di,isAgg21->DV,isAgg3->CJ,isAgg4->CQ,isAgg5->CK,isAgg9->CL,prog->A7,sizeOf0->C9,sizeOf21->DF,sizeOf3->Cy,sizeOf4->CF,sizeOf5->Cz,sizeOf9->CB,underlying0->Cw,underlying21->C6,underlying3->BZ,underlying4->B6,underlying5->BU,underlying9->BM,zeroValue0->CE,zeroValue21->Dd,zeroValue3->Cg,zeroValue4->Co,zeroValue5->Ci,zeroValue9->Cj
open _root_.UInt8 renaming ofNat->Be,toNat_inj->D7
open _root_.Go.Utf8 renaming encode->En
open _root_.Go.Value renaming int->Ep,string->Dw
open _root_.Go.Value.slice renaming injEq->A4
set_option linter.unusedVariables false
set_option maxRecDepth 100000
namespace Go.X
end Go.X
namespace Go.Proofs
end Go.Proofs
open Go Go.X Go.Proofs
section
namespace Go.X
section
variable {m:Bs} {n b0 b1 b2 b3 lo hi:Nat}
theorem zt0(h:m≠[]):dec m=Lib.decodeN m.length (bN m 0) (bN m 1) (bN m 2) (bN m 3):=by
 simp only[dec,bN,Df]
theorem ok0(h:m≠[])(hb:128<=bN m 0/\bN m 0<194\/245<=bN m 0/\bN m 0<256):Ys m=false:=by
 rw[Ym h,zt0 h,qet hb];rfl
theorem ok2(h:m≠[])(hb:194<=bN m 0/\bN m 0<224):Ys m=(decide (2<=m.length/\128<=bN m 1/\bN m 1<=191)&&Ys (m.drop 2)):=by
 rw[Ym h,zt0 h,qeu hb (zal m 1)]
 by_cases hc:2<=m.length/\128<=bN m 1/\bN m 1<=191
 ·rw[if_pos hc];simp[zc6,hc]
 ·rw[if_neg hc];simp[zc6,hc]
theorem z4x{α:Type}{p q:Prop}[Decidable p][Decidable q]{a b:α}(h:p↔q):(if p then a else b)=if q then a else b:=by
 by_cases hp:p
 ·rw[if_pos hp,if_pos (h.1 hp)]
 ·rw[if_neg hp,if_neg (λhq=>hp (h.2 hq))]
theorem qdi(h:224<=b0/\b0<240)(h1:b1<256)(h2:b2<256)(Z:lo=if b0=224 then 160 else 128)(aa:hi=if b0=237 then 159 else 191):Lib.decodeN n b0 b1 b2 b3=
  if 3<=n/\(lo<=b1/\b1<=hi)/\128<=b2/\b2<=191 then(((b0-224)*64+(b1-128))*64+(b2-128),3)else(65533,1):=by
 rw[qev h h1 h2]
 refine z4x ?_
 split at Z <;> split at aa <;> omega
theorem qdj(h:240<=b0/\b0<245)(h1:b1<256)(h2:b2<256)(h3:b3<256)(Z:lo=if b0=240 then 144 else 128)(aa:hi=if b0=244 then 143 else 191):Lib.decodeN n b0 b1 b2 b3=
  if 4<=n/\(lo<=b1/\b1<=hi)/\(128<=b2/\b2<=191)/\128<=b3/\b3<=191 then((((b0-240)*64+(b1-128))*64+(b2-128))*64+(b3-128),4)else(65533,1):=by
 rw[qew h h1 h2 h3]
 refine z4x ?_
 split at Z <;> split at aa <;> omega
theorem ok3(h:m≠[])(hb:224<=bN m 0/\bN m 0<240)(aa:lo=if bN m 0=224 then 160 else 128)(Z:hi=if bN m 0=237 then 159 else 191):
  Ys m=(decide (3<=m.length/\(lo<=bN m 1/\bN m 1<=hi)/\128<=bN m 2/\bN m 2<=191)&&Ys (m.drop 3)):=by
 rw[Ym h,zt0 h,qdi hb (zal m 1) (zal m 2) aa Z]
 by_cases hc:3<=m.length/\(lo<=bN m 1/\bN m 1<=hi)/\128<=bN m 2/\bN m 2<=191
 ·rw[if_pos hc];simp[zc6,hc]
 ·rw[if_neg hc];simp[zc6,hc]
theorem ok4(h:m≠[])(hb:240<=bN m 0/\bN m 0<245)(aa:lo=if bN m 0=240 then 144 else 128)(Z:hi=if bN m 0=244 then 143 else 191):
  Ys m=(decide (4<=m.length/\(lo<=bN m 1/\bN m 1<=hi)/\(128<=bN m 2/\bN m 2<=191)/\128<=bN m 3/\bN m 3<=191)&&Ys (m.drop 4)):=by
 rw[Ym h,zt0 h,qdj hb (zal m 1) (zal m 2) (zal m 3) aa Z]
 by_cases hc:4<=m.length/\(lo<=bN m 1/\bN m 1<=hi)/\(128<=bN m 2/\bN m 2<=191)/\128<=bN m 3/\bN m 3<=191
 ·rw[if_pos hc];simp[zc6,hc]
 ·rw[if_neg hc];simp[zc6,hc]
set_option maxHeartbeats 2000000 in
theorem zj5{gl:Fr}(hg:Tabs gl){l:Bs}(hl:l.length<=4611686018427387904){R:Bool->Prop}(h:R (Ys l)):PC Tp gl 150 [Arg.mk .str (bl l)] [.bool] R:=by
 apply Xj
 refine⟨λs=>∃m:Bs,s=bl m/\Ys m=Ys l/\m.length<=l.length,λs=>s.size,⟨l,rfl,rfl,Av _⟩,?_⟩
 rintro s ⟨m,rfl,hm,aL⟩
 simp only[Zf,ztz,show(0:Int).toNat=0 from rfl,zph (l:=m) (n:=1) (k:=1) rfl,zph (l:=m) (n:=2) (k:=2) rfl,zph (l:=m) (n:=3) (k:=3) rfl,zph (l:=m) (n:=4) (k:=4) rfl]
 refine⟨λhc=>?_,λhc=>?_⟩
 rotate_left
 ·have:m=[]:=by
   have:¬(m.length:Int)>0:=by simpa using hc
   exact Bb (by omega)
  subst this
  rw[ztr]at hm
  rw[<-hm]at h;exact h
 have hp:0<m.length:=by simp at hc;omega
 have aa:m≠[]:=BC.1 hp
 refine⟨by omega,λha=>⟨by omega,?_⟩,λha=>?_⟩
 ·have hb:bN m 0<128:=by simp at ha;omega
  obtain⟨c,t,rfl⟩:=BK aa
  simp only[List.drop_one,List.tail_cons]
  have az:Ys t=Ys l:=by rw[<-hm];exact(zla hb).symm
  simp only[AN]at aL ⊢
  simp only[zph (l:=t) (n:=8) (k:=8) rfl,Zf]
  refine⟨λr=>r=(Wn t:Int),λhq=>zea (by simp at hq;omega) rfl,λr hr=>⟨λhx=>?_,λhx=>⟨⟨t,rfl,az,by omega⟩,by omega⟩⟩⟩
  have h8:8<t.length:=by
   cases hd:decide ((t.length:Int)>8)with
   |true=>simp at hd;omega
   |false=>rw[hd]at hx;cases hx
  have am:decide ((t.length:Int)>8)=true:=by simp;omega
  have aJ:=hr am
  rw[am,cond_true,aJ,show(9259542123273814144:Int)=((MASK:Nat):Int)from rfl,z2n (Qy t) (by decide)]at hx
  have hz:Wn t &&& MASK=0:=by
   have:((Wn t &&& MASK:Nat):Int)=0:=by simpa using hx
   omega
  have ap:Ys (t.drop 8)=Ys l:=by rw[<-az,J0 (by omega) hz]
  have a6:(t.drop 8).length+8=t.length:=by simp;omega
  generalize t.drop 8=u at *
  simp only[zph (l:=u) (n:=8) (k:=8) rfl,zph (l:=u) (n:=16) (k:=16) rfl]
  refine⟨by omega,λhq=>by simp at hq;omega,λr=>r=(Wn u:Int),λhq=>zea (by simp at hq;omega) rfl,λaU an=>⟨λr=>r=(Wn (u.drop 8):Int),λhq=>zea (by simp at hq ⊢;omega) rfl,λaN aj=>⟨λae=>?_,λae=>⟨⟨u,rfl,ap,by omega⟩,by omega⟩⟩⟩⟩
  have aO:16<u.length:=by
   cases hd:decide ((u.length:Int)>16)with
   |true=>simp at hd;omega
   |false=>rw[hd]at ae;cases ae
  have af:decide ((u.length:Int)>16)=true:=by simp;omega
  rw[af,cond_true,an af,aj af,zy7 (Qy _) (Qy _),show(9259542123273814144:Int)=((MASK:Nat):Int)from rfl,z2n (DI (n:=64) (Qy _) (Qy _)) (by decide)]at ae
  have aF:(Wn u ||| Wn (u.drop 8)) &&& MASK=0:=by
   have:(((Wn u ||| Wn (u.drop 8)) &&& MASK:Nat):Int)=0:=by simpa using ae
   omega
  obtain⟨z1,z2⟩:=zmx aF
  have aG:Ys (u.drop 16)=Ys l:=by
   rw[<-ap,J0 (by omega) z1,J0 (l:=u.drop 8) (by simp;omega) z2,Bq]
  refine⟨by omega,λs=>∃m':Bs,s=bl m'/\Ys m'=Ys l/\m'.length<(c::t).length,λs=>s.size,⟨u.drop 16,rfl,aG,by simp;omega⟩,?_⟩
  rintro s ⟨v,rfl,hv,aE⟩
  simp only[AN]at aE
  simp only[Zf,zph (l:=v) (n:=8) (k:=8) rfl,zph (l:=v) (n:=16) (k:=16) rfl,zph (l:=v) (n:=24) (k:=24) rfl,zph (l:=v) (n:=32) (k:=32) rfl]
  refine⟨λhq=>by simp at hq;omega,λhq=>by simp at hq;omega,λhq=>by simp at hq;omega,λr=>r=(Wn v:Int),λhq=>zea (by simp at hq;omega) rfl,λaY ak=>⟨λr=>r=(Wn (v.drop 8):Int),λhq=>zea (by simp at hq ⊢;omega) rfl,λaS au=>
   ⟨λr=>r=(Wn (v.drop 16):Int),λhq=>zea (by simp at hq ⊢;omega) rfl,λaZ ar=>⟨λr=>r=(Wn (v.drop 24):Int),λhq=>zea (by simp at hq ⊢;omega) rfl,λa1 ay=>⟨λZ=>?_,λZ=>⟨⟨v,rfl,hv,by omega⟩,by omega⟩⟩⟩⟩⟩⟩
  have aQ:32<v.length:=by
   cases hd:decide ((v.length:Int)>32)with
   |true=>simp at hd;omega
   |false=>rw[hd]at Z;cases Z
  have ab:decide ((v.length:Int)>32)=true:=by simp;omega
  have o2:∀a b:Nat,a<18446744073709551616->b<18446744073709551616->a ||| b<18446744073709551616:=λa b ha hb=>DI (n:=64) ha hb
  rw[ab,cond_true,ak ab,au ab,ar ab,ay ab,zy7 (Qy _) (Qy _),zy7 (Qy _) (Qy _),zy7 (o2 _ _ (Qy _) (Qy _)) (o2 _ _ (Qy _) (Qy _)),show(9259542123273814144:Int)=((MASK:Nat):Int)from rfl,
   z2n (o2 _ _ (o2 _ _ (Qy _) (Qy _)) (o2 _ _ (Qy _) (Qy _))) (by decide)]at Z
  have aI:((Wn v ||| Wn (v.drop 8)) ||| (Wn (v.drop 16) ||| Wn (v.drop 24))) &&& MASK=0:=by
   have:((((Wn v ||| Wn (v.drop 8)) ||| (Wn (v.drop 16) ||| Wn (v.drop 24))) &&& MASK:Nat):Int)=0:=by simpa using Z
   omega
  obtain⟨y1,y2⟩:=zmx aI
  obtain⟨x1,x2⟩:=zmx y1
  obtain⟨x3,x4⟩:=zmx y2
  refine⟨by omega,⟨v.drop 32,rfl,?_,by simp;omega⟩,by simp;omega⟩
  rw[<-hv,J0 (by omega) x1,J0 (l:=v.drop 8) (by simp;omega) x2,Bq,J0 (l:=v.drop (8+8)) (by simp;omega) x3,Bq,J0 (l:=v.drop (8+8+8)) (by simp;omega) x4,Bq]
 ·have hb:128<=bN m 0:=by simp at ha;omega
  have aC:=zal m 0
  have hX:=Lib.firstT_cases (bN m 0)
  have aP:=zal m 1;have aT:=zal m 2;have aV:=zal m 3
  refine⟨by omega,(Lib.firstT (bN m 0):Int),by simpa using hg.first aC,?_⟩
  obtain⟨i,lo,hi,k,e2,e3,e4,e5,e6,k1,k2,k3,k4,hk⟩:∃i lo hi k:Nat,((Lib.firstT (bN m 0):Int).fdiv (2 ^ 4))=(i:Int)/\i<16/\Lib.accLo i=lo/\Lib.accHi i=hi /\
    (Ar .i64 (Ar .u8 (((AH (AB .u8) (Lib.firstT (bN m 0):Int)) &&& (AH (AB .u8) 7)).toNat:Int)):Int)=(k:Int) /\
    (k=1->Ys m=false)/\(k=2->Ys m=(decide (2<=m.length/\lo<=bN m 1/\bN m 1<=hi)&&Ys (m.drop 2))) /\
    (k=3->Ys m=(decide (3<=m.length/\(lo<=bN m 1/\bN m 1<=hi)/\128<=bN m 2/\bN m 2<=191)&&Ys (m.drop 3))) /\
    (k=4->Ys m=(decide (4<=m.length/\(lo<=bN m 1/\bN m 1<=hi)/\(128<=bN m 2/\bN m 2<=191)/\128<=bN m 3/\bN m 3<=191)&&Ys (m.drop 4)))/\(k=1\/k=2\/k=3\/k=4):=by
   have aB:∀v,Lib.firstT (bN m 0)=v->(v=241->(128<=bN m 0/\bN m 0<194)\/(245<=bN m 0/\bN m 0<256))/\(v=2->194<=bN m 0/\bN m 0<224)/\(v=19->bN m 0=224)/\(v=3->(225<=bN m 0/\bN m 0<240/\bN m 0≠237))/\(v=35->bN m 0=237)/\(v=52->bN m 0=240)/\(v=4->241<=bN m 0/\bN m 0<244)/\(v=68->bN m 0=244)/\v≠240:=by
    intro v hv
    unfold Lib.firstT at hv
    repeat' split at hv
    all_goals omega
   have cl:=aB _ rfl
   rcases hX with hX|hX|hX|hX|hX|hX|hX|hX|hX
   ·exact absurd hX cl.2.2.2.2.2.2.2.2
   ·exact⟨15,0,0,1,by rw[hX];decide,(by decide),rfl,rfl,by rw[hX];decide,(λ_=>ok0 aa (cl.1 hX)),(λe=>by omega),(λe=>by omega),(λe=>by omega),(by omega)⟩
   ·exact⟨0,128,191,2,by rw[hX];decide,(by decide),rfl,rfl,by rw[hX];decide,(λe=>by omega),(λ_=>ok2 aa (cl.2.1 hX)),(λe=>by omega),(λe=>by omega),(by omega)⟩
   ·have c:=cl.2.2.1 hX
    exact⟨1,160,191,3,by rw[hX];decide,(by decide),rfl,rfl,by rw[hX];decide,(λe=>by omega),(λe=>by omega),(λ_=>ok3 aa (by omega) (by rw[if_pos c]) (by rw[if_neg (by omega)])),(λe=>by omega),(by omega)⟩
   ·have c:=cl.2.2.2.1 hX
    exact⟨0,128,191,3,by rw[hX];decide,(by decide),rfl,rfl,by rw[hX];decide,(λe=>by omega),(λe=>by omega),(λ_=>ok3 aa (by omega) (by rw[if_neg (by omega)]) (by rw[if_neg (by omega)])),(λe=>by omega),(by omega)⟩
   ·have c:=cl.2.2.2.2.1 hX
    exact⟨2,128,159,3,by rw[hX];decide,(by decide),rfl,rfl,by rw[hX];decide,(λe=>by omega),(λe=>by omega),(λ_=>ok3 aa (by omega) (by rw[if_neg (by omega)]) (by rw[if_pos c])),(λe=>by omega),(by omega)⟩
   ·have c:=cl.2.2.2.2.2.1 hX
    exact⟨3,144,191,4,by rw[hX];decide,(by decide),rfl,rfl,by rw[hX];decide,(λe=>by omega),(λe=>by omega),(λe=>by omega),(λ_=>ok4 aa (by omega) (by rw[if_pos c]) (by rw[if_neg (by omega)])),(by omega)⟩
   ·have c:=cl.2.2.2.2.2.2.1 hX
    exact⟨0,128,191,4,by rw[hX];decide,(by decide),rfl,rfl,by rw[hX];decide,(λe=>by omega),(λe=>by omega),(λe=>by omega),(λ_=>ok4 aa (by omega) (by rw[if_neg (by omega)]) (by rw[if_neg (by omega)])),(by omega)⟩
   ·have c:=cl.2.2.2.2.2.2.2.1 hX
    exact⟨4,128,143,4,by rw[hX];decide,(by decide),rfl,rfl,by rw[hX];decide,(λe=>by omega),(λe=>by omega),(λe=>by omega),(λ_=>ok4 aa (by omega) (by rw[if_neg (by omega)]) (by rw[if_pos c])),(by omega)⟩
  generalize Lib.firstT (bN m 0)=x at *
  rw[e2,e6]
  have ac:=hg.acc e3
  rw[e4,e5]at ac
  simp only[show(1:Int).toNat=1 from rfl,show(2:Int).toNat=2 from rfl,show(3:Int).toNat=3 from rfl]
  have ah:Ys m=false->R false:=λe=>by rw[<-hm,e]at h;exact h
  refine⟨by omega,(lo:Int),by simpa using ac.1,(hi:Int),by simpa using ac.2,?_,?_⟩
  ·intro hx
   have aM:k=2:=by simp at hx;omega
   have q:=k2 aM
   refine⟨λhy=>by simp at hy;omega,λhy=>by simp at hy;omega,λhy=>ah ?_,λhy=>?_⟩
   ·simp only[Cr,Cb,decide_eq_true_eq]at hy
    rw[q,decide_eq_false (by omega)];rfl
   ·simp only[Cr,Cu,decide_eq_false_iff_not]at hy
    refine⟨by omega,⟨m.drop 2,rfl,?_,by simp;omega⟩,by simp;omega⟩
    rw[<-hm,q,decide_eq_true (by omega)];simp
  ·intro hx
   refine⟨λZ=>?_,λZ=>⟨λai=>?_,λai=>?_⟩⟩
   ·have aA:k=3:=by simp at Z;omega
    have q:=k3 aA
    refine⟨λhy=>by simp at hy;omega,λhy=>by simp at hy;omega,λhy=>by simp at hy;omega,λhy=>by simp at hy;omega,λhy=>ah ?_,λhy=>?_⟩
    ·simp only[Cr,Cb,decide_eq_true_eq]at hy
     rw[q,decide_eq_false (by omega)];rfl
    ·simp only[Cr,Cu,decide_eq_false_iff_not]at hy
     refine⟨by omega,⟨m.drop 3,rfl,?_,by simp;omega⟩,by simp;omega⟩
     rw[<-hm,q,decide_eq_true (by omega)];simp
   ·have aH:k=4:=by simp at ai;omega
    have q:=k4 aH
    refine⟨λhy=>by simp at hy;omega,λhy=>by simp at hy;omega,λhy=>by simp at hy;omega,λhy=>by simp at hy;omega,λhy=>by simp at hy;omega,λhy=>by simp at hy;omega,λhy=>ah ?_,λhy=>?_⟩
    ·simp only[Cr,Cb,decide_eq_true_eq]at hy
     rw[q,decide_eq_false (by omega)];rfl
    ·simp only[Cr,Cu,decide_eq_false_iff_not]at hy
     refine⟨by omega,⟨m.drop 4,rfl,?_,by simp;omega⟩,by simp;omega⟩
     rw[<-hm,q,decide_eq_true (by omega)];simp
   ·refine ah (k1 ?_)
    simp at hx Z ai;omega
end
end Go.X
end
section
namespace Go.X
open Go Go.Lib
section
variable {v x:Tr}
mutual
def tsz:Tr->Nat | .mk _ _ _ xs=>1+z2q xs
def z2q:List Tr->Nat | []=>0|x::l=>tsz x+z2q l
end
mutual
def tdp:Tr->Nat | .mk _ _ _ xs=>qdk xs+1
def qdk:List Tr->Nat | []=>0|x::l=>max (tdp x) (qdk l)
end
mutual
def qek(p:Tr->Bool):Tr->Bool | .mk k s ks xs=>p (.mk k s ks xs)&&z7k p xs
def z7k(p:Tr->Bool):List Tr->Bool | []=>true|x::l=>qek p x&&z7k p l
end
mutual
def txB(m:Nat):Tr->Prop | .mk _ s ks xs=>(s.size<=m/\ks.length<=m/\∀k∈ks,k.size<=m)/\z7l m xs
def z7l(m:Nat):List Tr->Prop | []=>True|x::l=>txB m x/\z7l m l
end
theorem zza(v:Tr):tsz v=1+z2q v.items:=by cases v;rw[tsz]
theorem zt1(m:Nat)(v:Tr):txB m v↔(v.text.size<=m/\v.keys.length<=m/\∀k∈v.keys,k.size<=m)/\z7l m v.items:=by cases v;rw[txB]
theorem zt2{m:Nat}:∀{l:List Tr},z7l m l↔∀x∈l,txB m x
 |[]=>by simp[z7l]
 |x::l=>by rw[z7l,zt2];simp
theorem z2r{m:Nat}(h:txB m v)(hx:x∈v.items):txB m x:=zt2.1 ((zt1 m v).1 h).2 x hx
theorem zt3{x:Tr}:∀{l:List Tr},x∈l->tsz x<=z2q l
 |y::l,h=>by
  rw[z2q]
  rcases Ay.1 h with rfl|h
  ·omega
  ·have:=zt3 h;omega
theorem zt4(h:x∈v.items):tsz x<tsz v:=by
 have:=zt3 h
 rw[zza v];omega
theorem zt5:∀l:List Tr,l.length<=z2q l
 |[]=>by simp[z2q]
 |x::l=>by
  have:=zt5 l
  rw[z2q,AN,zza];omega
def qaw(ks:List Bt):Bool:=ks.all (λk=>Ys (lb k))&&decide ks.Nodup
def qcm(s:Bs):Nm×Bool:=((Zh s).1,(Zh s).2==0&&decide (We (Zh s).1=s))
def qax(s:Bs):Bool:=(qcm s).2&&(qar (qcm s).1).2&&decide (0<=(qar (qcm s).1).1)
def qay(v:Tr):Bool:=
 if v.kind=1 then lb v.text==[]&&v.keys.isEmpty&&v.items.isEmpty
 else if v.kind=2 then(lb v.text==[116,114,117,101]||lb v.text==[102,97,108,115,101])&&v.keys.isEmpty&&v.items.isEmpty
 else if v.kind=3 then(qcm (lb v.text)).2&&v.keys.isEmpty&&v.items.isEmpty
 else if v.kind=4 then Ys (lb v.text)&&v.keys.isEmpty&&v.items.isEmpty
 else if v.kind=5 then lb v.text==[]&&v.keys.isEmpty
 else if v.kind=6 then qaw v.keys&&decide (v.keys.length=v.items.length)&&lb v.text==[]
 else if v.kind=7 then qax (lb v.text)&&v.keys.isEmpty&&v.items.isEmpty
 else false
structure Sm (v:Tr):Prop where
 sz:tsz v<=1000000000000
 tx:txB 1048576 v
theorem Sm.item(h:Sm v)(hx:x∈v.items):Sm x:=⟨by have:=zt4 hx;have:=h.sz;omega,z2r h.tx hx⟩
theorem Sm.text(h:Sm v):(lb v.text).length<=1048576:=by rw[zo6];exact((zt1 _ v).1 h.tx).1.1
theorem Sm.key(h:Sm v){k:Bt}(hk:k∈v.keys):(lb k).length<=1048576:=by rw[zo6];exact((zt1 _ v).1 h.tx).1.2.2 k hk
theorem Sm.keys(h:Sm v):v.keys.length<=1048576:=((zt1 _ v).1 h.tx).1.2.1
theorem Sm.items(h:Sm v):v.items.length<=1000000000000:=by have:=zt5 v.items;have:=h.sz;rw[zza]at this;omega
end
end Go.X
end
section
namespace Go.X
section
variable {gl:Fr} {l:Bs}
theorem zt6(hg:Tabs gl)(hl:l.length<=4611686018427387904){R:Int×Bool->Prop}(h:∀k,R (k,Ys l)):PC Tp gl 80 [Arg.mk .str (bl l)] [.int .i64,.bool] R:=by
 apply zjw
 refine zj5 hg hl ⟨λhx=>?_,λhx=>?_⟩
 ·have:=h ((bl l).size:Int);rw[hx]at this;exact this
 ·refine⟨λp=>p.1=bl l/\p.2<=l.length/\Ys (l.drop p.2)=false,λp=>l.length-p.2,⟨rfl,by omega,by simpa using hx⟩,?_⟩
  rintro⟨_,p⟩ ⟨rfl,hp,h2⟩
  simp only at hp h2 ⊢
  rw[zpc,zpd]
  refine⟨λhc=>⟨hc,hc,λhq=>?_,λhq=>⟨?_,?_⟩⟩,λhc=>?_⟩
  ·have aa:p<l.length:=by simpa using hc
   have Z:l.drop p≠[]:=λe=>by have:=congrArg Db e;simp at this;omega
   have hb:zc6 (dec (l.drop p))=false:=by
    unfold zc6
    have:¬(dec (l.drop p)).1=65533:=λe=>by rw[e]at hq;simp at hq
    simp[this]
   rw[Ym Z,hb]at h2
   simp only[Bv,if_false,Bq]at h2
   rw[zja l p aa]
   have hw:=Yv (l.drop p);have ab:=ztq Z
   simp only[AW]at ab
   exact⟨⟨trivial,by omega,h2⟩,by omega⟩
  ·have aa:p<l.length:=by simpa using hc
   rw[Zf];omega
  ·have aa:p<l.length:=by simpa using hc
   have Z:l.drop p≠[]:=λe=>by have:=congrArg Db e;simp at this;omega
   rw[Zf,zph (k:=p) rfl]
   refine zpa hg ?_
   have af:(bl (l.drop p)).size≠0:=by rw[Zf];simp;omega
   have hd:Lib.decodeGo (bl (l.drop p))=dec (l.drop p):=by
    unfold Lib.decodeGo
    rw[if_neg af,ztp,Yh,Cc]
   rw[hd]
   refine⟨λae=>?_,λae=>?_⟩
   ·have:=h (p:Int)
    have hu:Ys l=false:=hx
    rw[hu]at this;exact this
   ·have hb:zc6 (dec (l.drop p))=false:=by
     unfold zc6
     have:¬(dec (l.drop p)).2=1:=λe=>by rw[e]at ae;simp at ae
     simp[this]
    rw[Ym Z,hb]at h2
    simp only[Bv,if_false,Bq]at h2
    rw[zja l p aa]
    have hw:=Yv (l.drop p);have ab:=ztq Z
    simp only[AW]at ab
    exact⟨⟨trivial,by omega,h2⟩,by omega⟩
  ·have:l.drop p=[]:=BJ (by(have:¬p<l.length:=by simpa using hc);omega)
   rw[this,ztr]at h2;cases h2
theorem z2s(hg:Tabs gl)(hl:l.length<=4611686018427387904){R:Bool->Prop}(h:R (Ys l)):PC Tp gl 134 [Arg.mk .str (bl l)] [.bool] R:=by
 apply zhk
 exact zt6 hg hl λk=>h
structure GL (gl:Fr):Prop where
 tabs:Tabs gl
 pow:Pow gl
 max:z4u gl
 err:zrq gl
theorem zcj(s:Bs)(hs:s.length<=1152921504606846976):(Zh s).1.2.1.length<=4611686018427387904:=by
 unfold Zh
 split
 ·simp
 ·rename_i x hx
  have h1:=zlc hx
  split
  ·simp
  ·split
   ·simp
   ·simp only
    generalize (if x.low=true then-(Zv (x.exp.dropWhile (· == 48)):Int)else Zv (x.exp.dropWhile (· == 48)))=e
    split
    ·simp
    ·rename_i Z
     have h2:(Yb (x.whole++x.rest)).length<=(x.whole++x.rest).length:=by
      unfold Yb
      rw[List.length_reverse]
      refine Ec (Jk _ _) ?_
      rw[List.length_reverse]
      exact Jk _ _
     rw[AF]at h2
     split
     ·show(Yb (x.whole++x.rest)).length<=_;omega
     ·simp
end
end Go.X
end
section
namespace Go.Proofs.YtjohlemfgcmaoaaGreatDoor
open Go Go.X Go.ChangeShapes Go.WideShapes Go.ChangeAt Go.RowKit Go.Lib
open Go.ChangeMaps (open_string shut_string)
set_option linter.unusedVariables false
section
variable {H:Type} {g:Nat} {t:TypeId}
theorem Tryz.own:ownKnob A7.godebug=none:=by kernel_rfl
theorem Tryz.laidOut:laidOutB A7=true:=by kernel_rfl
theorem zmy{enc:TypeId×Value->H}{a:Assume}{C:Checked}{os:Os}{f:FuncId}{fn:Func}{s:ChangeSpec}{aj:List PathCond}{apart af ab ai:Bool}{X:World->Array Value->Prop}
  (hX:∀(w w':World) (args:Array Value),w.heap=w'.heap->X w args->X w' args)
  (own:ownKnob C.prog.godebug=none) (ak:os.Started) (am:C.prog.inits.idxOf? f=none) (aC:C.prog.funcs[f]?=some fn)
  (ah:∃(w:World) (Z:Tape) (i:Input),w.os=os/\(w.forCall Z i).Shaped C.prog/\i.vars=[]/\Input.okWide C.prog (w.forCall Z i) .any w.heap.size f i /\
   ((s.pre enc C.prog fn aj apart (w.forCall Z i).memory i.args/\X (w.forCall Z i).memory i.args)/\sizedMet enc C.prog fn (OpenSpec.ofChange s) apart (w.forCall Z i).memory i.args)/\a.holds C.prog (lone (Frame.enter C.prog f i.args .normal) [] (w.forCall Z i)))
  (ae:∀(W:World) (base:Nat) (args:Array Value) (ds gs:List (DataW H)) (aa:List MemPlace),
   (∀(j:Nat) t v,fn.params[j]?=some t->args[j]?=some v->Value.okWide C.prog W .any base t v) ->
   DataW.Whole enc C.prog fn.params.toList s.vars apart W args.toList ds gs aa ->
   (DataW.weightsEach C.prog (fn.params.toList++s.plain.varTypes C.prog) (ds++gs)).all (·<=reachBytes)=true ->
   X W args->W.ShapedOpen C.prog ->
   Calls C.prog f args W λe W'=>∃v,e=.returned v/\s.post enc C.prog fn apart af ab ai W args v W'):
  ReturnsInHanded a C os f .any (λw args=>(s.pre enc C.prog fn aj apart w args/\X w args)/\sizedMet enc C.prog fn (OpenSpec.ofChange s) apart w args) (s.post enc C.prog fn apart af ab ai):=by
 refine returnsInHanded_of_calls own ak am ah ?_
 intro w Z i _ ay _ aA an au
 obtain⟨_,_,_,az,ap,_,_,_,_,ar⟩:=aA
 have e:az=fn:=AL (ap.symm.trans aC)
 subst e
 obtain⟨⟨⟨ds,gs,aa,hw,hc⟩,hx⟩,hz⟩:=an
 have aB:=DataW.Whole.of_heap (w':=w.forCall Z i) (by rfl) hw
 refine(ae (w.forCall Z i) w.heap.size i.args ds gs aa ar aB (hz.weights hw) (hX _ _ _ (by rfl) hx) ay).mono λe W' ⟨v,he,hp⟩=>?_
 subst he
 exact ChangeSpec.post_blind hp
theorem zzb{P:Program}{W:World}{n:String}{k:IntKind}{zs:List Int}{t e:TypeId}{m:Nat}(hg:P.globalNamed n=some g)(ht:(P.globals[g]?).map (·.type)=some t)(hu:P.underlying t=some (.array m e))(he:P.underlying e=some (.int k))
  (aa:P.cellsOf e=1) (af:P.cellsOf t=m) (h:VarReads P W n (tabData k zs)):∃cs:Array Value,Fz W g=some cs/\cs.toList=zs.map λz=>Ep k z:=by
 obtain⟨g',t',cs,ah,p,ab,ae,Z,hd⟩:=h
 obtain rfl:=AL (hg.symm.trans ab)
 obtain rfl:=AL (ht.symm.trans ae)
 exact⟨cs,Fz.var hg Z,cells_of_tab hu he aa af hd⟩
theorem z2t{W : World}(h : VarReads Tryz.prog W "unicode/utf8.first" Pinned.utf8First): ∃ cs : Array Value, Fz W 0 = some cs ∧ ∀ c, c < 256 → cs[c]? = some (.int .u8 (Lib.firstT c)) := by
 rw[Pinned.utf8First_eq]at h
 obtain⟨cs,h1,h2⟩:=zzb (g:=0) (t:=230) (e:=5) (m:=256) (by kernel_rfl) (by kernel_rfl) (by kernel_rfl) (by kernel_rfl) (by kernel_rfl) (by kernel_rfl) h
 refine⟨cs,h1,λc hc=>?_⟩
 rw[<-BI,h2]
 simp[firstTab,hc]
theorem zzc{W : World}(h : VarReads Tryz.prog W "unicode/utf8.acceptRanges" acceptData): ∃ cs : Array Value, Fz W 1 = some cs ∧ ∀ i, i < 16 → cs[2 * i]? = some (.int .u8 (Lib.accLo i)) ∧ cs[2 * i + 1]? = some (.int .u8 (Lib.accHi i)) := by
 obtain⟨g,t,cs,fuel,p,hg,hty,hvar,hd⟩:=h
 obtain rfl := Option.some.inj ((show Tryz.prog.globalNamed "unicode/utf8.acceptRanges" = some 1 by kernel_rfl).symm.trans hg)
 obtain rfl:=AL ((show(A7.globals[1]?).map (·.type)=some 233 by kernel_rfl).symm.trans hty)
 refine⟨cs,Fz.var hg hvar,λi hi=>?_⟩
 obtain⟨fuel',d,q,hdi,he⟩:=array_elem (show A7.underlying 233=some (.array 16 232)by kernel_rfl) hd i hi
 simp only[Ct,List.getElem?_range hi,D6,As]at hdi
 subst hdi
 have hc:A7.cellsOf 232=2:=by kernel_rfl
 have c5:A7.cellsOf 5=1:=by kernel_rfl
 have u5:A7.underlying 5=some (.int .u8):=by kernel_rfl
 rw[hc]at he
 have hcs:=ints_of_struct Tryz.underlying232 (λj f hj=>by
  match j,hj with
  |0,hj=>simp at hj;subst hj;exact⟨u5,rfl,c5⟩
  |1,hj=>simp at hj;subst hj;exact⟨u5,rfl,c5⟩
  |j+2,hj=>simp at hj) (by rw[hc];rfl) he
 have e0:=congrArg (·[0]?) hcs
 have e1:=congrArg (·[1]?) hcs
 simp only[AR,AY]at e0 e1
 constructor
 ·rw[<-BI]
  simpa[C4]using e0
 ·rw[<-BI]
  simpa[C4]using e1
theorem qaz{W : World}{d : DataW Unit}(hd : d = tabData .u64 Lib.pow10Tab)(h : VarReads Tryz.prog W "internal/strconv.uint64pow10" d): Pow (Fz W) := by
 subst hd
 obtain⟨cs,h1,h2⟩:=zzb (g:=2) (t:=273) (e:=238) (m:=20) (by kernel_rfl) (by kernel_rfl) (by kernel_rfl) (by kernel_rfl) (by kernel_rfl) (by kernel_rfl) h
 exact⟨_,cs,by kernel_rfl,h1,by rw[<-h2]⟩
theorem z4y{W:World}{n:String}{ms:Array (String×TypeId)}{nm:String}{d:DataW Unit}(hg:A7.globalNamed n=some g)(ht:(A7.globals[g]?).map (·.type)=some t)(hu:A7.underlying t=some (.interface ms))(h:VarReads A7 W n (.iface nm d)):
  ∃(cs:Array Value) (e:Value),Fz W g=some cs/\cs[0]?=some e/\(e=.nilIface\/∃te pe,e=.iface te pe):=by
 obtain⟨g',t',cs,af,p,ab,ae,Z,hd⟩:=h
 obtain rfl:=AL (hg.symm.trans ab)
 obtain rfl:=AL (ht.symm.trans ae)
 obtain⟨f1,u,v,aa,_,_⟩:=iface_of_trod hu hd
 exact⟨cs,.iface u v,Fz.var hg Z,by rw[<-BI,aa];rfl,.inr ⟨u,v,rfl⟩⟩
theorem qa0{W:World}(h:W.ShapedOpen A7):z4u (Fz W):=by
 obtain⟨m,hm⟩:=cell_of_shapedOpen_int (P:=A7) (g:=3) (t:=3) (zero:=#[.int .i64 0]) (k:=.i64) h (by decide +kernel) (by kernel_rfl) rfl (by kernel_rfl) (by kernel_rfl) (by kernel_rfl)
 obtain⟨b,o,c,e,h1,h2⟩:=Fz.cell hm
 cases e
 exact⟨c,m,h1,h2⟩
def zjd:List (String×DataW Unit):=Rows.readReadsRow.laid
theorem qdl{W:World}(h:laidMetH A7 zjd W)(hs:W.ShapedOpen A7):GL (Fz W):=by
 have hl:laidMet A7 zjd W:=by
  rw[MakeChecks.laidMetH_plain _ _ _ (by kernel_rfl)]at h;exact h
 have hr:∀(i:Nat) (n:String) (d:DataW Unit),zjd[i]?=some (n,d)->VarReads A7 W n d:=λi n d e=>Go.Lib.laidMet.reads hl (Bl e)
 exact {
  tabs:=⟨z2t (hr 6 _ _ rfl),zzc (by
   have e:(Rows.laid_unicode_utf8_acceptRanges:DataW Unit)=acceptData:=by kernel_rfl
   rw[<-e];exact hr 3 _ _ rfl)⟩
  pow:=qaz (by kernel_rfl) (hr 2 _ _ rfl)
  max:=qa0 hs
  err:=⟨z4y (g:=4) (t:=114) (by kernel_rfl) (by kernel_rfl) Tryz.underlying114 (hr 5 _ _ rfl),z4y (g:=5) (t:=114) (by kernel_rfl) (by kernel_rfl) Tryz.underlying114 (hr 4 _ _ rfl)⟩ }
noncomputable def qdm(os:Os):World:=World.laidAll A7 os zjd
theorem zry(os:Os)(args:Array Value):((qdm os).forCall (λ_ _=>0) ⟨#[],args,[]⟩).Shaped A7:=World.shaped_of_ZipB (by kernel_rfl) (by kernel_rfl)
theorem z2u(os:Os)(args:Array Value):laidMetH A7 zjd ((qdm os).forCall (λ_ _=>0) ⟨#[],args,[]⟩).memory:=by
 rw[MakeChecks.laidMetH_plain _ _ _ (by kernel_rfl)];exact laidMet_laidAll _ (by kernel_rfl) (by kernel_rfl)
theorem zt7{ts:List TypeId}{ds:List (DataW H)}(h:(DataW.weightsEach A7 ts ds).all (·<=reachBytes)=true){j:Nat}{d:DataW H}(ht:ts[j]?=some t)(hd:ds[j]?=some d):qap A7 t d:=λn hn=>by
 have:=A5.1 h n (DataW.weights_mem_each ht hd n hn)
 simpa using this
end
end Go.Proofs.YtjohlemfgcmaoaaGreatDoor
end
section
namespace Go.X
section
theorem XF{vs:List Value}{f:FuncId}{fn:Func}{h:Za}{R:Value->Za->Prop}{F:Prop}(pl:Plan)(rs:List ResultVar)(n:Nat)(hf:A7.funcs[f]?=some fn)(H:F)(hb:Xd fn=true:=by kernel_rfl)(hr:fn.results.toList=rs:=by kernel_rfl)(hn:fn.ntmps=n:=by kernel_rfl)(hz:Nat.ble vs.length n=true:=by kernel_rfl)(e:F=W Tp n pl (codeOf fn) (qcc Tp rs R) (zxi 0 vs) h:=by kernel_rfl):XC Tp f vs.toArray h R:=zvb Tryz.mixed pl vs hf hb hr hn hz (Eq.mp e H)
theorem zc9(i0:Int)(Z:Int)(h:Za)(R:Value->Za->Prop)
  (H:XC Tp 154 #[.int .i64 i0,.int .i64 Z] h (λa b=>∃c,a=.string c/\R (.string c) b)):
  XC Tp 84 #[.int .i64 i0,.int .i64 Z] h R:=
 XF ⟨[],[],[]⟩ [.tmp 4] 8 Tryz.func84 H
theorem Jo(x0:Int)(h:Za)(R:Value->Za->Prop)
  (H:R (.bool ((Ar .i64 (((AH (AB .i64) x0) &&& (AH (AB .i64) (Ar .i64 (x0-1)))).toNat:Int):Int)==0)) h):
  XC Tp 273 #[.int .i64 x0] h R:=
 XF ⟨[],[],[]⟩ [.tmp 2] 8 Tryz.func273 H
theorem Xp(x0:Int)(h:Za)(R:Value->Za->Prop)
  (H:(false=true->XC Tp 303 #[.int .u32 (Ar .u32 x0)] h (λa b=>∃c,a=.int .i64 c/\R (.int .i64 c) b))/\(false=false->XC Tp 304 #[.int .u64 x0] h (λd e=>∃f,d=.int .i64 f/\R (.int .i64 f) e))):
  XC Tp 274 #[.int .u64 x0] h R:=
 XF ⟨[],[],[]⟩ [.tmp 2] 8 Tryz.func274 H
theorem Wx(x0:Int)(h:Za)(R:Value->Za->Prop)
  (H:((x0==0)=true->R (.int .i64 64) h)/\((x0==0)=false->∃a:Addr,(some ⟨7,0,none⟩=some a/\0<=((Ar .u64 ((Ar .u64 (((AH (AB .u64) x0) &&& (AH (AB .u64) (Ar .u64 (0-x0)))).toNat:Int))*285870213051353865):Int).fdiv (2 ^ 58):Int)/\((Ar .u64 ((Ar .u64 (((AH (AB .u64) x0) &&& (AH (AB .u64) (Ar .u64 (0-x0)))).toNat:Int))*285870213051353865):Int).fdiv (2 ^ 58):Int)<((64:Nat):Int))/\∃b,Ze h (a.add (((Ar .u64 ((Ar .u64 (((AH (AB .u64) x0) &&& (AH (AB .u64) (Ar .u64 (0-x0)))).toNat:Int))*285870213051353865):Int).fdiv (2 ^ 58):Int).toNat*1))=some (.int .u8 b)/\R (.int .i64 (Ar .i64 b)) h)):
  XC Tp 304 #[.int .u64 x0] h R:=
 XF ⟨[],[],[]⟩ [.tmp 2] 14 Tryz.func304 H
theorem zje(c0:Int)(h:Za)(R:Value->Za->Prop)
  (H:∀a:Bool->Za->Prop,(∀b:Bool,∀c:Za,((b=true->R (.int .u8 (Ar .u8 c0)) c)/\(b=false->((c0==8)=true->R (.int .u8 98) c)/\((c0==8)=false->((c0==12)=true->R (.int .u8 102) c)/\((c0==12)=false->((c0==10)=true->R (.int .u8 110) c)/\((c0==10)=false->((c0==13)=true->R (.int .u8 114) c)/\((c0==13)=false->((c0==9)=true->R (.int .u8 116) c)/\((c0==9)=false->R (.int .u8 0) c)))))))->a b c)->((c0==34)=true->a (c0==34) h)/\((c0==34)=false->a (c0==92) h)):
  XC Tp 82 #[.int .i32 c0] h R:=
 XF ⟨[],[],[(4,[(4,.one (.bool))])]⟩ [.tmp 2] 19 Tryz.func82 H
end
section
theorem zmz(s0:Bt)(h:Za)(R:Value->Za->Prop)
  (H:let b:=h.push (.cells #[.string (⟨#[]⟩:Bt),.slice none 0 0] 36);XC Tp 60 #[.string s0] b (λc d=>∃e f g,c=.tuple #[slV e,.int .i64 f,.int .i64 g]/\((g != 0)=true->XRunU Tp (AI 36 (.pointer (some ⟨h.size,0,none⟩)) (.agg #[.string (⟨#[]⟩:Bt),.slice none 0 0])) d (λi=>∃j k,Zb i ⟨h.size,0,none⟩ 0 [.string j,slV k]/\R (.tuple #[.agg #[.string j,slV k],.int .i64 f,.int .i64 g]) i))/\((g != 0)=false->let l:=d.push (.cells #[.string s0,.slice none 0 0,.int .i64 0,.int .i64 0,.slice none 0 0,.int .i64 0,.int .i64 0] 88);∃(m:Int->Za->Prop) (n:Int->Za->Nat),m 0 l/\∀o:Int,∀p:Za,m o p->((decide (o<e.len)=true->∃q,(e.a=some q/\0<=o/\o<e.len)/\∃r s t,Zb p (q.add (o.toNat*3)) 0 [.int .i64 r,.int .i64 s,.int .i64 t]/\let u:=p.push (.cells #[.int .i64 0,.int .i64 0,.int .i64 0] 90);XRunU Tp (AI 90 (.pointer (some ⟨p.size,0,none⟩)) (.agg #[.int .i64 r,.int .i64 s,.int .i64 t])) u (λv=>∃w,Ze v (AD ⟨p.size,0,none⟩ 0)=some (.int .i64 w)/\((w != 1)=true->∃x:Addr,some ⟨d.size,0,none⟩=some x/\∃y,Ze v (AD x 1)=some (slV y)/\∃z A B,Zb v ⟨p.size,0,none⟩ 0 [.int .i64 z,.int .i64 A,.int .i64 B]/\let C:=v.push (.cells #[.int .i64 z,.int .i64 A,.int .i64 B] 90);(C)[((AD x 1):Addr).block]?=(v)[((AD x 1):Addr).block]?/\XRun Tp (AU #[83,83] 83 #[slV y,.slice (some ⟨v.size,0,none⟩) 1 1]) C (λD E=>∃F,D=slV F/\∃G:Addr,some ⟨d.size,0,none⟩=some G/\XRunU Tp (AI 83 (.pointer (some (AD G 1))) (slV F)) E (λI=>(m (Ar .i64 (o+1)) I/\n (Ar .i64 (o+1)) I<n o p))))/\((w != 1)=false->(m (Ar .i64 (o+1)) v/\n (Ar .i64 (o+1)) v<n o p))))/\(decide (o<e.len)=false->XC Tp 61 #[.pointer (some ⟨d.size,0,none⟩),.int .i64 1,.agg #[.int .i64 0,.int .i64 0]] p (λJ L=>∃M,J=.bool M/\∀N:Bool->Za->Prop,(∀O:Bool,∀P:Za,(((!O)=true->∃Q:Addr,some ⟨d.size,0,none⟩=some Q/\∃S,Ze P (AD Q 5)=some (.int .i64 S)/\∃T:Addr,some ⟨d.size,0,none⟩=some T/\∃U,Ze P (AD T 6)=some (.int .i64 U)/\(P)[((AD T 6):Addr).block]?=(P)[((AD T 6):Addr).block]?/\(P)[((AD Q 5):Addr).block]?=(P)[((AD Q 5):Addr).block]?/\XRunU Tp (AI 36 (.pointer (some ⟨h.size,0,none⟩)) (.agg #[.string (⟨#[]⟩:Bt),.slice none 0 0])) P (λV=>(V)[((AD T 6):Addr).block]?=(P)[((AD T 6):Addr).block]?/\(V)[((AD Q 5):Addr).block]?=(P)[((AD Q 5):Addr).block]?/\(V)[((AD T 6):Addr).block]?=(P)[((AD T 6):Addr).block]?/\∃W X,Zb V ⟨h.size,0,none⟩ 0 [.string W,slV X]/\R (.tuple #[.agg #[.string W,slV X],.int .i64 S,.int .i64 U]) V))/\((!O)=false->∃Y:Addr,some ⟨d.size,0,none⟩=some Y/\∃Z,Ze P (AD Y 4)=some (slV Z)/\XRunU Tp (AI 36 (.pointer (some ⟨h.size,0,none⟩)) (.agg #[.string s0,slV Z])) P (λaa=>∃ab ac,Zb aa ⟨h.size,0,none⟩ 0 [.string ab,slV ac]/\R (.tuple #[.agg #[.string ab,slV ac],.int .i64 (s0.size:Int),.int .i64 0]) aa)))->N O P)->∃ad,(M=true->some ⟨d.size,0,none⟩=some ad)/\∃ae,(M=true->Ze L (AD ad 1)=some (slV ae))/\((bif M then(decide ((ae.len:Int)>0))else false)=true->XC Tp 62 #[.pointer (some ⟨d.size,0,none⟩),.int .i64 2] L (λaf ag=>∃ah,af=.bool ah/\N ah ag))/\((bif M then(decide ((ae.len:Int)>0))else false)=false->N M L))))))):
  XC Tp 19 #[.string s0] h R:=
 XF ⟨[(9,8000),(15,8000)],[(6,[(28,.one (.int .i64))])],[(14,[(11,.one (.bool))])]⟩ [.cell 2 36,.tmp 3,.tmp 4] 79 Tryz.func19 H
theorem zj6(s0:Bt)(h:Za)(R:Value->Za->Prop)
  (H:XC Tp 80 #[.string s0] h (λa b=>∃c d,a=.tuple #[.int .i64 c,.bool d]/\((!d)=true->R (.tuple #[.string (⟨#[]⟩:Bt),.int .i64 2]) b)/\((!d)=false->let e:=b.push (.cells #[.pointer none,.slice none 0 0] 112);XC Tp 81 #[.pointer (some ⟨b.size,0,none⟩),.int .u8 34] e (λf g=>∃i:Value,f=i/\let j:=g.push (.stringIter s0 0);∃(k:Za->Prop) (l:Za->Nat),k j/\∀m:Za,k m->(XRun Tp (Ea (.pointer (some ⟨g.size,0,none⟩)) true 0) m (λn o=>(n=.tuple #[.bool false]/\(false=true->False)/\(false=false->XC Tp 81 #[.pointer (some ⟨b.size,0,none⟩),.int .u8 34] o (λp q=>∃r:Value,p=r/\XC Tp 87 #[.pointer (some ⟨b.size,0,none⟩)] q (λs t=>∃u,s=.string u/\R (.tuple #[.string u,.int .i64 0]) t))))\/∃v w:Int,n=.tuple #[.bool true,.int .i64 v,.int .i32 w]/\(true=true->XC Tp 82 #[.int .i32 w] o (λx y=>∃z,x=.int .u8 z/\((z != 0)=true->XC Tp 81 #[.pointer (some ⟨b.size,0,none⟩),.int .u8 92] y (λA B=>∃C:Value,A=C/\XC Tp 81 #[.pointer (some ⟨b.size,0,none⟩),.int .u8 z] B (λD E=>∃F:Value,D=F/\(k E/\l E<l m))))/\((z != 0)=false->(decide (w>=32)=true->XC Tp 83 #[.pointer (some ⟨b.size,0,none⟩),.int .i32 w] y (λG I=>∃J,∃L:Value,G=.tuple #[.int .i64 J,L]/\(k I/\l I<l m)))/\(decide (w>=32)=false->XC Tp 84 #[.int .i64 (Ar .i64 w),.int .i64 16] y (λM N=>∃O,M=.string O/\XC Tp 86 #[.string (⟨#[48]⟩:Bt),.int .i64 (Ar .i64 (4-(O.size:Int)))] N (λP Q=>∃S,P=.string S/\Qk (((⟨#[92,117]⟩:Bt)).size+S.size)/\Qk (((⟨#[92,117]⟩:Bt)++S).size+O.size)/\XC Tp 85 #[.pointer (some ⟨b.size,0,none⟩),.string (((⟨#[92,117]⟩:Bt)++S)++O)] Q (λT U=>∃V,∃W:Value,T=.tuple #[.int .i64 V,W]/\(k U/\l U<l m))))))))/\(true=false->XC Tp 81 #[.pointer (some ⟨b.size,0,none⟩),.int .u8 34] o (λX Y=>∃Z:Value,X=Z/\XC Tp 87 #[.pointer (some ⟨b.size,0,none⟩)] Y (λaa ab=>∃ac,aa=.string ac/\R (.tuple #[.string ac,.int .i64 0]) ab))))))))):
  XC Tp 27 #[.string s0] h R:=
 XF ⟨[],[(7,[])],[]⟩ [.tmp 2,.tmp 3] 48 Tryz.func27 H
theorem zpi(b:Bt)(c:Sl)(k1:Int)(a8:Int)(h:Za)(R:Value->Za->Prop)
  (H:let d:=h.push (.cells #[.string b,slV c] 36);let e:=d.push (.cells #[.int .i64 0,.string (⟨#[]⟩:Bt),.slice none 0 0,.slice none 0 0] 26);∃f,Ze e (AD ⟨h.size,0,none⟩ 1)=some (slV f)/\∃g,(f.a=some g/\0<=k1/\k1<f.len)/\∃i j k l m n o,Zb e (g.add (k1.toNat*7)) 0 [.int .i64 i,.int .i64 j,.int .i64 k,.int .i64 l,.int .i64 m,slV n,slV o]/\let p:=e.push (.cells #[.int .i64 0,.int .i64 0,.int .i64 0,.int .i64 0,.int .i64 0,.slice none 0 0,.slice none 0 0] 62);XRunU Tp (AI 62 (.pointer (some ⟨e.size,0,none⟩)) (.agg #[.int .i64 i,.int .i64 j,.int .i64 k,.int .i64 l,.int .i64 m,slV n,slV o])) p (λq=>∀r:Addr->Za->Prop,(∀s:Addr,∀t:Za,(∃u,Ze t (AD ⟨e.size,0,none⟩ 5)=some (slV u)/\∃(v:Int->Za->Prop) (w:Int->Za->Nat),v 0 t/\∀x:Int,∀y:Za,v x y->((decide (x<u.len)=true->∃z,Ze y (AD ⟨e.size,0,none⟩ 5)=some (slV z)/\∃A,(z.a=some A/\0<=x/\x<z.len)/\∃B,Ze y (A.add (x.toNat*1))=some (.int .i64 B)/\∃C,((!(decide (B<0)))=true->Ze y (AD ⟨h.size,0,none⟩ 1)=some (slV C))/\((bif (bif (decide (B<0))then true else(decide (B>=C.len)))then true else(decide (a8>32)))=true->∃D E F G,Zb y s 0 [.int .i64 D,.string E,slV F,slV G]/\XRunU Tp (AI 26 (.pointer (some ⟨d.size,0,none⟩)) (.agg #[.int .i64 D,.string E,slV F,slV G])) y (λI=>∃J L M N,Zb I ⟨d.size,0,none⟩ 0 [.int .i64 J,.string L,slV M,slV N]/\R (.agg #[.int .i64 J,.string L,slV M,slV N]) I))/\((bif (bif (decide (B<0))then true else(decide (B>=C.len)))then true else(decide (a8>32)))=false->∀O:Za->Prop,(∀P:Za,(∃Q,Ze P (AD s 3)=some (slV Q)/\∃S T,Zb P ⟨h.size,0,none⟩ 0 [.string S,slV T]/\XC Tp 59 #[.agg #[.string S,slV T],.int .i64 B,.int .i64 (Ar .i64 (a8+1))] P (λU V=>∃W X Y Z,U=.agg #[.int .i64 W,.string X,slV Y,slV Z]/\(V)[((AD s 3):Addr).block]?=(P)[((AD s 3):Addr).block]?/\let aa:=V.push (.cells #[.int .i64 W,.string X,slV Y,slV Z] 26);(aa)[((AD s 3):Addr).block]?=(P)[((AD s 3):Addr).block]?/\XRun Tp (AU #[24,24] 24 #[slV Q,.slice (some ⟨V.size,0,none⟩) 1 1]) aa (λab ac=>∃ae,ab=slV ae/\XRunU Tp (AI 24 (.pointer (some (AD s 3))) (slV ae)) ac (λaf=>(v (Ar .i64 (x+1)) af/\w (Ar .i64 (x+1)) af<w x y)))))->O P)->∃ag,Ze y (AD ⟨e.size,0,none⟩ 0)=some (.int .i64 ag)/\((ag==6)=true->∃ah,Ze y (AD s 2)=some (slV ah)/\∃ai aj,Zb y ⟨h.size,0,none⟩ 0 [.string ai,slV aj]/\XC Tp 112 #[.agg #[.string ai,slV aj],.int .i64 B] y (λak al=>∃am,ak=.string am/\(al)[((AD s 2):Addr).block]?=(y)[((AD s 2):Addr).block]?/\let an:=al.push (.cells #[.string am] 9);(an)[((AD s 2):Addr).block]?=(y)[((AD s 2):Addr).block]?/\XRun Tp (AU #[23,23] 23 #[slV ah,.slice (some ⟨al.size,0,none⟩) 1 1]) an (λao ap=>∃aq,ao=slV aq/\XRunU Tp (AI 23 (.pointer (some (AD s 2))) (slV aq)) ap (λar=>O ar))))/\((ag==6)=false->O y)))/\(decide (x<u.len)=false->∃au av aw ax,Zb y s 0 [.int .i64 au,.string av,slV aw,slV ax]/\XRunU Tp (AI 26 (.pointer (some ⟨d.size,0,none⟩)) (.agg #[.int .i64 au,.string av,slV aw,slV ax])) y (λay=>∃az aA aB aC,Zb ay ⟨d.size,0,none⟩ 0 [.int .i64 az,.string aA,slV aB,slV aC]/\R (.agg #[.int .i64 az,.string aA,slV aB,slV aC]) ay))))->r s t)->∃aD,Ze q (AD ⟨e.size,0,none⟩ 0)=some (.int .i64 aD)/\∃aE,Ze q (AD ⟨e.size,0,none⟩ 0)=some (.int .i64 aE)/\∃aF aG,Zb q ⟨h.size,0,none⟩ 0 [.string aF,slV aG]/\∃aH aI,Zb q (AD ⟨e.size,0,none⟩ 1) 0 [.int .i64 aH,.int .i64 aI]/\(XC Tp 31 #[.agg #[.string aF,slV aG],.agg #[.int .i64 aH,.int .i64 aI]] q (λaJ aL=>∃aM,aJ=.string aM/\(aL)[((AD ⟨e.size,0,none⟩ 0):Addr).block]?=(q)[((AD ⟨e.size,0,none⟩ 0):Addr).block]?/\(aL)[((AD ⟨e.size,0,none⟩ 0):Addr).block]?=(q)[((AD ⟨e.size,0,none⟩ 0):Addr).block]?/\(XC Tp 111 #[.int .i64 aE,.string aM] aL (λaN aO=>∃aP,aN=.string aP/\(aO)[((AD ⟨e.size,0,none⟩ 0):Addr).block]?=(q)[((AD ⟨e.size,0,none⟩ 0):Addr).block]?/\(let aQ:=aO.push (.cells #[.int .i64 0,.string (⟨#[]⟩:Bt),.slice none 0 0,.slice none 0 0] 26);XRunU Tp (AI 26 (.pointer (some ⟨aO.size,0,none⟩)) (.agg #[.int .i64 aD,.string aP,.slice none 0 0,.slice none 0 0])) aQ (λaS=>r ⟨aO.size,0,none⟩ aS))/\(let aT:=aO.push (.cells #[.int .i64 0,.string (⟨#[]⟩:Bt),.slice none 0 0,.slice none 0 0] 26);(aT)[((AD ⟨e.size,0,none⟩ 0):Addr).block]?=(q)[((AD ⟨e.size,0,none⟩ 0):Addr).block]?/\XRunU Tp (AI 26 (.pointer (some ⟨aO.size,0,none⟩)) (.agg #[.int .i64 aD,.string aP,.slice none 0 0,.slice none 0 0])) aT (λaU=>r ⟨aO.size,0,none⟩ aU))))/\(let aV:=aL.push (.cells #[.int .i64 0,.string (⟨#[]⟩:Bt),.slice none 0 0,.slice none 0 0] 26);(aV)[((AD ⟨e.size,0,none⟩ 0):Addr).block]?=(q)[((AD ⟨e.size,0,none⟩ 0):Addr).block]?/\(aV)[((AD ⟨e.size,0,none⟩ 0):Addr).block]?=(q)[((AD ⟨e.size,0,none⟩ 0):Addr).block]?/\XC Tp 111 #[.int .i64 aE,.string aM] aV (λaW aX=>∃aY,aW=.string aY/\(aX)[((AD ⟨e.size,0,none⟩ 0):Addr).block]?=(q)[((AD ⟨e.size,0,none⟩ 0):Addr).block]?/\XRunU Tp (AI 26 (.pointer (some ⟨aL.size,0,none⟩)) (.agg #[.int .i64 aD,.string aY,.slice none 0 0,.slice none 0 0])) aX (λaZ=>r ⟨aL.size,0,none⟩ aZ)))))/\(let a0:=q.push (.cells #[.int .i64 0,.string (⟨#[]⟩:Bt),.slice none 0 0,.slice none 0 0] 26);(a0)[((AD ⟨e.size,0,none⟩ 1):Addr).block]?=(q)[((AD ⟨e.size,0,none⟩ 1):Addr).block]?/\(a0)[(⟨h.size,0,none⟩:Addr).block]?=(q)[(⟨h.size,0,none⟩:Addr).block]?/\(a0)[((AD ⟨e.size,0,none⟩ 0):Addr).block]?=(q)[((AD ⟨e.size,0,none⟩ 0):Addr).block]?/\(a0)[((AD ⟨e.size,0,none⟩ 0):Addr).block]?=(q)[((AD ⟨e.size,0,none⟩ 0):Addr).block]?/\XC Tp 31 #[.agg #[.string aF,slV aG],.agg #[.int .i64 aH,.int .i64 aI]] a0 (λa1 a2=>∃a3,a1=.string a3/\(a2)[((AD ⟨e.size,0,none⟩ 0):Addr).block]?=(q)[((AD ⟨e.size,0,none⟩ 0):Addr).block]?/\(a2)[((AD ⟨e.size,0,none⟩ 0):Addr).block]?=(q)[((AD ⟨e.size,0,none⟩ 0):Addr).block]?/\XC Tp 111 #[.int .i64 aE,.string a3] a2 (λa4 a5=>∃a6,a4=.string a6/\(a5)[((AD ⟨e.size,0,none⟩ 0):Addr).block]?=(q)[((AD ⟨e.size,0,none⟩ 0):Addr).block]?/\XRunU Tp (AI 26 (.pointer (some ⟨q.size,0,none⟩)) (.agg #[.int .i64 aD,.string a6,.slice none 0 0,.slice none 0 0])) a5 (λa7=>r ⟨q.size,0,none⟩ a7)))))):
  XC Tp 59 #[.agg #[.string b,.slice c.a c.len c.cap],.int .i64 k1,.int .i64 a8] h R:=
 XF ⟨[(11,8000),(10,8000),(2,8000)],[(4,[(29,.one (.int .i64))])],[(3,[(8,.one (.ad))]),(11,[])]⟩ [.cell 6 26] 74 Tryz.func59 H
theorem Wr(p0:Option Addr)(aC:Int)(b:Int)(c:Int)(h:Za)(R:Value->Za->Prop)
  (H:let d:=h.push (.cells #[.pointer p0] 86);let e:=d.push (.cells #[.int .i64 b,.int .i64 c] 58);∃f:Option Addr,Ze e ⟨h.size,0,none⟩=some (.pointer f)/\XC Tp 115 #[.pointer f] e (λg i=>∃j,g=.int .i64 j/\XC Tp 114 #[.int .i64 j] i (λk l=>∃m,k=.int .i64 m/\((m==0)=true->∃n:Option Addr,Ze l ⟨h.size,0,none⟩=some (.pointer n)/\XC Tp 62 #[.pointer n,.int .i64 2] l (λo p=>∃q,o=.bool q/\R (.bool q) p))/\((m==0)=false->(decide (aC>32)=true->∃r:Option Addr,Ze l ⟨h.size,0,none⟩=some (.pointer r)/\XC Tp 62 #[.pointer r,.int .i64 5] l (λs t=>∃u,s=.bool u/\R (.bool u) t))/\(decide (aC>32)=false->∃v:Option Addr,Ze l ⟨h.size,0,none⟩=some (.pointer v)/\∃w,v=some w/\∃x,Ze l (AD w 4)=some (slV x)/\(((x.len:Int)==4096)=true->∃y:Option Addr,Ze l ⟨h.size,0,none⟩=some (.pointer y)/\XC Tp 62 #[.pointer y,.int .i64 6] l (λz A=>∃B,z=.bool B/\R (.bool B) A))/\(((x.len:Int)==4096)=false->∃C:Option Addr,Ze l ⟨h.size,0,none⟩=some (.pointer C)/\∃D,C=some D/\∃E,Ze l (AD D 4)=some (slV E)/\∃F:Option Addr,Ze l ⟨h.size,0,none⟩=some (.pointer F)/\∃G:Option Addr,Ze l ⟨h.size,0,none⟩=some (.pointer G)/\∃I,G=some I/\∃J,Ze l (AD I 4)=some (slV J)/\∃L:Option Addr,Ze l ⟨h.size,0,none⟩=some (.pointer L)/\∃M,L=some M/\∃N,Ze l (AD M 1)=some (slV N)/\∃O,(N.a=some O/\0<=(0:Int)/\(0:Int)<(N.len:Int))/\∃P Q,Zb l (AD (O.add ((0:Int).toNat*3)) 1) 0 [.int .i64 P,.int .i64 Q]/\∃S T,Zb l ⟨d.size,0,none⟩ 0 [.int .i64 S,.int .i64 T]/\(l)[((AD I 4):Addr).block]?=(l)[((AD I 4):Addr).block]?/\(l)[(⟨h.size,0,none⟩:Addr).block]?=(l)[(⟨h.size,0,none⟩:Addr).block]?/\(l)[(⟨h.size,0,none⟩:Addr).block]?=(l)[(⟨h.size,0,none⟩:Addr).block]?/\let U:=l.push (.cells #[.int .i64 m,.int .i64 P,.int .i64 Q,.int .i64 S,.int .i64 T,.slice none 0 0,.slice none 0 0] 62);(U)[((AD I 4):Addr).block]?=(l)[((AD I 4):Addr).block]?/\(U)[(⟨h.size,0,none⟩:Addr).block]?=(l)[(⟨h.size,0,none⟩:Addr).block]?/\(U)[(⟨h.size,0,none⟩:Addr).block]?=(l)[(⟨h.size,0,none⟩:Addr).block]?/\XRun Tp (AU #[34,34] 34 #[slV J,.slice (some ⟨l.size,0,none⟩) 1 1]) U (λV W=>∃X,V=slV X/\∃Y,F=some Y/\(W)[(⟨h.size,0,none⟩:Addr).block]?=(l)[(⟨h.size,0,none⟩:Addr).block]?/\XRunU Tp (AI 34 (.pointer (some (AD Y 4))) (slV X)) W (λZ=>∃aa:Option Addr,Ze Z ⟨h.size,0,none⟩=some (.pointer aa)/\XC Tp 116 #[.pointer aa] Z (λab ac=>ab=.tuple #[]/\∀ad:Bool->Za->Prop,(∀ae:Bool,∀af:Za,(∃ag:Option Addr,Ze af ⟨h.size,0,none⟩=some (.pointer ag)/\∃ah,ag=some ah/\∃ai,Ze af (AD ah 4)=some (slV ai)/\∃aj:Option Addr,Ze af ⟨h.size,0,none⟩=some (.pointer aj)/\∃ak,aj=some ak/\∃al,Ze af (AD (AD ak 2) 1)=some (.int .i64 al)/\∃am,(ai.a=some am/\0<=(E.len:Int)/\(E.len:Int)<(ai.len:Int))/\XRunU Tp (AI 3 (.pointer (some (AD (AD (am.add ((E.len:Int).toNat*7)) 1) 1))) (.int .i64 al)) af (λan=>R (.bool ae) an))->ad ae af)->((m==5)=true->∃ao:Option Addr,Ze ac ⟨h.size,0,none⟩=some (.pointer ao)/\∃ap:Option Addr,Ze ac ⟨h.size,0,none⟩=some (.pointer ap)/\XC Tp 117 #[.pointer ao,.int .i64 (E.len:Int),.int .i64 aC,.int .i64 5,.func (.func 118) #[.pointer ap] #[]] ac (λaq ar=>∃au,aq=.bool au/\ad au ar))/\((m==5)=false->((m==6)=true->let av:=ac.push (.map #[] 0);let aw:=av.push (.cells #[.map none] 154);XRunU Tp (AI 154 (.pointer (some ⟨av.size,0,none⟩)) (.map (some ac.size))) aw (λax=>∃ay:Option Addr,Ze ax ⟨h.size,0,none⟩=some (.pointer ay)/\XC Tp 117 #[.pointer ay,.int .i64 (E.len:Int),.int .i64 aC,.int .i64 3,.func (.func 119) #[] #[.pointer (some ⟨h.size,0,none⟩),.pointer (some ⟨av.size,0,none⟩)]] ax (λaz aA=>∃aB,az=.bool aB/\ad aB aA)))/\((m==6)=false->ad true ac))))))))))):
  XC Tp 61 #[.pointer p0,.int .i64 aC,.agg #[.int .i64 b,.int .i64 c]] h R:=
 XF ⟨[(9,8000),(18,8000)],[],[(18,[(9,.one (.bool))])]⟩ [.tmp 6] 90 Tryz.func61 H
theorem zeb(p0:Option Addr)(Z:Int)(h:Za)(R:Value->Za->Prop)
  (H:XC Tp 121 #[.pointer p0] h (λa b=>∃c,a=.int .i64 c/\∃d,p0=some d/\XRunU Tp (AI 3 (.pointer (some (AD d 5))) (.int .i64 c)) b (λe=>∃f,p0=some f/\XRunU Tp (AI 27 (.pointer (some (AD f 6))) (.int .i64 Z)) e (λg=>R (.bool false) g)))):
  XC Tp 62 #[.pointer p0,.int .i64 Z] h R:=
 XF ⟨[],[],[]⟩ [.tmp 4] 14 Tryz.func62 H
theorem Wy(b0:Option Addr)(r1:Int)(h:Za)(R:Value->Za->Prop)
  (H:XC Tp 152 #[.pointer b0] h (λb c=>b=.tuple #[]/\∃d,b0=some d/\∃e,Ze c (AD d 1)=some (slV e)/\∃f,b0=some f/\∃g,Ze c (AD f 1)=some (slV g)/\XC Tp 153 #[slV g,.int .i32 r1] c (λi j=>∃k,i=slV k/\∃l,b0=some l/\XRunU Tp (AI 110 (.pointer (some (AD l 1))) (slV k)) j (λm=>∃n,b0=some n/\∃o,Ze m (AD n 1)=some (slV o)/\R (.tuple #[.int .i64 (Ar .i64 ((o.len:Int)-(e.len:Int))),.nilIface]) m)))):
  XC Tp 83 #[.pointer b0,.int .i32 r1] h R:=
 XF ⟨[],[],[]⟩ [.tmp 4,.tmp 5] 30 Tryz.func83 H
theorem zwd(s0:Bt)(h:Za)(R:Value->Za->Prop)
  (H:let a:=h.push (.cells #[.string s0] 9);R (.func (.func 197) #[] #[.pointer (some ⟨h.size,0,none⟩)]) a):
  XC Tp 113 #[.string s0] h R:=
 XF ⟨[],[],[]⟩ [.tmp 2] 4 Tryz.func113 H
theorem zec(p0:Option Addr)(h:Za)(R:Value->Za->Prop)
  (H:∃b,p0=some b/\∃c,Ze h (AD b 1)=some (slV c)/\(((c.len:Int)==0)=true->R (.int .i64 0) h)/\(((c.len:Int)==0)=false->∃d,p0=some d/\∃e,Ze h (AD d 1)=some (slV e)/\∃f,(e.a=some f/\0<=(0:Int)/\(0:Int)<(e.len:Int))/\∃g,Ze h (AD (f.add ((0:Int).toNat*3)) 0)=some (.int .i64 g)/\R (.int .i64 g) h)):
  XC Tp 115 #[.pointer p0] h R:=
 XF ⟨[],[],[]⟩ [.tmp 2] 16 Tryz.func115 H
theorem zed(p0:Option Addr)(h:Za)(R:Value->Za->Prop)
  (H:∃b,p0=some b/\∃c,Ze h (AD b 1)=some (slV c)/\∃d,(c.a=some d/\0<=(0:Int)/\(0:Int)<(c.len:Int))/\∃e f,Zb h (AD (d.add ((0:Int).toNat*3)) 1) 0 [.int .i64 e,.int .i64 f]/\∃g,p0=some g/\∃i,Ze h (AD g 1)=some (slV i)/\((none:Option Value)=none\/∃v,(none:Option Value)=some v)/\(0<=(1:Int)/\(1:Int)<=(i.len:Int)/\(i.len:Int)<=(i.cap:Int)/\(i.cap:Int)<=(i.cap:Int))/\∃j,p0=some j/\XRunU Tp (AI 58 (.pointer (some (AD j 2))) (.agg #[.int .i64 e,.int .i64 f])) h (λk=>∃l,p0=some l/\XRunU Tp (AI 83 (.pointer (some (AD l 1))) (.slice (zjr i.a 3 ((1:Int).toNat) ((i.cap:Int).toNat)) ((i.len:Int).toNat-(1:Int).toNat) ((i.cap:Int).toNat-(1:Int).toNat))) k (λm=>R (.tuple #[]) m))):
  XC Tp 116 #[.pointer p0] h R:=
 XF ⟨[(0,8000)],[],[]⟩ [] 20 Tryz.func116 H
theorem zee(p0:Option Addr)(n1:Int)(ab:Int)(Z:Int)(aa:FuncId)(ae:Array Value)(af:Array Value)(h:Za)(R:Value->Za->Prop)
  (H:XC Tp 199 #[.pointer p0,.int .i64 Z] h (λb c=>∃d,b=.bool d/\(d=true->R (.bool true) c)/\(d=false->∃(e:Za->Prop) (f:Za->Nat),e c/\∀g:Za,e g->(∃i,p0=some i/\∃j,Ze g (AD (AD i 2) 1)=some (.int .i64 j)/\∃k,p0=some k/\∃l,Ze g (AD k 4)=some (slV l)/\Zp Tp aa=true/\XC Tp aa (ae++#[.int .i64 (Ar .i64 (ab+1))]++af) g (λm n=>∃o,m=.bool o/\((!o)=true->R (.bool false) n)/\((!o)=false->∃p,p0=some p/\∃q,Ze n (AD p 4)=some (slV q)/\∃r,(q.a=some r/\0<=n1/\n1<q.len)/\∃s,some (r.add (n1.toNat*7))=some s/\∃t,Ze n (AD s 5)=some (slV t)/\let u:=n.push (.cells #[.int .i64 (l.len:Int)] 3);XRun Tp (AU #[59,59] 59 #[slV t,.slice (some ⟨n.size,0,none⟩) 1 1]) u (λv w=>∃x,v=slV x/\∃y,some (r.add (n1.toNat*7))=some y/\XRunU Tp (AI 59 (.pointer (some (AD y 5))) (slV x)) w (λz=>∃A,some (r.add (n1.toNat*7))=some A/\∃B,Ze z (AD A 6)=some (slV B)/\XC Tp 121 #[.pointer p0] z (λC D=>∃E,C=.int .i64 E/\(D)[((AD A 6):Addr).block]?=(z)[((AD A 6):Addr).block]?/\(D)[((AD A 6):Addr).block]?=(z)[((AD A 6):Addr).block]?/\let F:=D.push (.cells #[.int .i64 j,.int .i64 E] 58);(F)[((AD A 6):Addr).block]?=(z)[((AD A 6):Addr).block]?/\XRun Tp (AU #[60,60] 60 #[slV B,.slice (some ⟨D.size,0,none⟩) 1 1]) F (λG I=>∃J,G=slV J/\∃L,some (r.add (n1.toNat*7))=some L/\XRunU Tp (AI 60 (.pointer (some (AD L 6))) (slV J)) I (λM=>XC Tp 199 #[.pointer p0,.int .i64 Z] M (λN O=>∃P,N=.bool P/\(P=true->R (.bool true) O)/\(P=false->XC Tp 199 #[.pointer p0,.int .i64 6] O (λQ S=>∃T,Q=.bool T/\((!T)=true->XC Tp 62 #[.pointer p0,.int .i64 2] S (λU V=>∃W,U=.bool W/\R (.bool W) V))/\((!T)=false->(e S/\f S<f g)))))))))))))))):
  XC Tp 117 #[.pointer p0,.int .i64 n1,.int .i64 ab,.int .i64 Z,.func (.func aa) ae af] h R:=
 XF ⟨[(8,8000)],[(3,[])],[]⟩ [.tmp 10] 71 Tryz.func117 H
theorem zef(p0:Option Addr)(Z:Int)(h:Za)(R:Value->Za->Prop)
  (H:XC Tp 61 #[.pointer p0,.int .i64 Z,.agg #[.int .i64 0,.int .i64 0]] h (λa b=>∃c,a=.bool c/\R (.bool c) b)):
  XC Tp 118 #[.pointer p0,.int .i64 Z] h R:=
 XF ⟨[],[],[]⟩ [.tmp 4] 9 Tryz.func118 H
theorem zbr(Z:Int)(c1:Addr)(c2:Addr)(h:Za)(R:Value->Za->Prop)
  (H:∃a:Option Addr,Ze h c1=some (.pointer a)/\∃b:Option Nat,Ze h c2=some (.map b)/\XC Tp 120 #[.pointer a,.int .i64 Z,.map b] h (λc d=>∃e,c=.bool e/\R (.bool e) d)):
  XC Tp 119 #[.int .i64 Z,.pointer (some c1),.pointer (some c2)] h R:=
 XF ⟨[],[],[]⟩ [.tmp 4] 9 Tryz.func119 H
theorem zck(p0:Option Addr)(Z:Int)(aa:Option Nat)(h:Za)(R:Value->Za->Prop)
  (H:XC Tp 115 #[.pointer p0] h (λb c=>∃d,b=.int .i64 d/\((d != 8)=true->XC Tp 62 #[.pointer p0,.int .i64 2] c (λe f=>∃g,e=.bool g/\R (.bool g) f))/\((d != 8)=false->∃i,p0=some i/\∃j,Ze c (AD i 1)=some (slV j)/\∃k,(j.a=some k/\0<=(0:Int)/\(0:Int)<(j.len:Int))/\∃l m,Zb c (AD (k.add ((0:Int).toNat*3)) 1) 0 [.int .i64 l,.int .i64 m]/\let n:=c.push (.cells #[.int .i64 0,.int .i64 0] 58);XRunU Tp (AI 58 (.pointer (some ⟨c.size,0,none⟩)) (.agg #[.int .i64 l,.int .i64 m])) n (λo=>∃p,p0=some p/\∃q,Ze o (AD p 0)=some (.string q)/\∃r,Ze o (AD ⟨c.size,0,none⟩ 0)=some (.int .i64 r)/\∃s,Ze o (AD ⟨c.size,0,none⟩ 1)=some (.int .i64 s)/\(0<=r/\r<=s/\s<=q.size)/\XC Tp 196 #[.string (q.extract r.toNat s.toNat)] o (λt u=>∃v w x,t=.tuple #[.string v,.int .i64 w,.int .i64 x]/\∃y,QExec Tp (Instr.lookup 154 (.map aa) (.string v) false) u (.bool y)/\(y=true->XC Tp 62 #[.pointer p0,.int .i64 7] u (λz A=>∃B,z=.bool B/\R (.bool B) A))/\(y=false->XRunU Tp (D4 154 (.map aa) (.string v) (.bool true)) u (λC=>XC Tp 116 #[.pointer p0] C (λD E=>D=.tuple #[]/\XC Tp 199 #[.pointer p0,.int .i64 7] E (λF G=>∃I,F=.bool I/\((!I)=true->XC Tp 62 #[.pointer p0,.int .i64 2] G (λJ L=>∃M,J=.bool M/\R (.bool M) L))/\((!I)=false->∃N O,Zb G ⟨c.size,0,none⟩ 0 [.int .i64 N,.int .i64 O]/\XC Tp 61 #[.pointer p0,.int .i64 Z,.agg #[.int .i64 N,.int .i64 O]] G (λP Q=>∃S,P=.bool S/\R (.bool S) Q))))))))))):
  XC Tp 120 #[.pointer p0,.int .i64 Z,.map aa] h R:=
 XF ⟨[(4,8000)],[],[]⟩ [.tmp 6] 55 Tryz.func120 H
theorem zeg(p0:Option Addr)(h:Za)(R:Value->Za->Prop)
  (H:∃b,p0=some b/\∃c,Ze h (AD b 1)=some (slV c)/\(((c.len:Int)==0)=true->∃d,p0=some d/\∃e,Ze h (AD d 0)=some (.string e)/\R (.int .i64 (e.size:Int)) h)/\(((c.len:Int)==0)=false->∃f,p0=some f/\∃g,Ze h (AD f 1)=some (slV g)/\∃i,(g.a=some i/\0<=(0:Int)/\(0:Int)<(g.len:Int))/\∃j,Ze h (AD (AD (i.add ((0:Int).toNat*3)) 1) 0)=some (.int .i64 j)/\R (.int .i64 j) h)):
  XC Tp 121 #[.pointer p0] h R:=
 XF ⟨[],[],[]⟩ [.tmp 2] 22 Tryz.func121 H
theorem zrz(s0:Bt)(bz:Int)(h:Za)(R:Value->Za->Prop)
  (H:let a:=h.push (.cells #[.int .i64 bz] 3);let b:=a.push (.cells #[.int .i64 0,.int .i64 0,.int .i64 0] 90);∃c,Ze b ⟨h.size,0,none⟩=some (.int .i64 c)/\(0<=c/\c<=s0.size/\(s0.size:Int)<=(s0.size:Int))/\(0<=(0:Int)/\(0:Int)<((s0.extract c.toNat (s0.size:Int).toNat).size:Int))/\XC Tp 212 #[.string (⟨#[123,125,91,93,44,58]⟩:Bt),.int .u8 (Zc (s0.extract c.toNat (s0.size:Int).toNat) (0:Int).toNat)] b (λd e=>∃f,d=.int .i64 f/\(decide (f>=0)=true->∃g,Ze e ⟨h.size,0,none⟩=some (.int .i64 g)/\Zp Tp 254=true/\XC Tp 254 #[.int .i64 (Ar .i64 (2+f)),.int .i64 (Ar .i64 (g+1)),.pointer (some ⟨h.size,0,none⟩)] e (λi j=>∃k l m n,i=.tuple #[.agg #[.int .i64 k,.int .i64 l,.int .i64 m],.int .i64 n]/\XRunU Tp (AI 90 (.pointer (some ⟨a.size,0,none⟩)) (.agg #[.int .i64 k,.int .i64 l,.int .i64 m])) j (λo=>∃p q r,Zb o ⟨a.size,0,none⟩ 0 [.int .i64 p,.int .i64 q,.int .i64 r]/\R (.tuple #[.agg #[.int .i64 p,.int .i64 q,.int .i64 r],.int .i64 n]) o)))/\(decide (f>=0)=false->XC Tp 212 #[.string (⟨#[32,9,10,13]⟩:Bt),.int .u8 (Zc (s0.extract c.toNat (s0.size:Int).toNat) (0:Int).toNat)] e (λs t=>∃u,s=.int .i64 u/\(decide (u>=0)=true->∃v,Ze t ⟨h.size,0,none⟩=some (.int .i64 v)/\XC Tp 257 #[.string (⟨#[32,9,10,13]⟩:Bt)] t (λw x=>∃y:Value,w=y/\(x)[(⟨h.size,0,none⟩:Addr).block]?=(t)[(⟨h.size,0,none⟩:Addr).block]?/\XC Tp 256 #[.string (s0.extract c.toNat (s0.size:Int).toNat),y] x (λz A=>∃B,z=.int .i64 B/\(A)[(⟨h.size,0,none⟩:Addr).block]?=(t)[(⟨h.size,0,none⟩:Addr).block]?/\Zp Tp 254=true/\XC Tp 254 #[.int .i64 1,.int .i64 (Ar .i64 (v+B)),.pointer (some ⟨h.size,0,none⟩)] A (λC D=>∃E F G I,C=.tuple #[.agg #[.int .i64 E,.int .i64 F,.int .i64 G],.int .i64 I]/\XRunU Tp (AI 90 (.pointer (some ⟨a.size,0,none⟩)) (.agg #[.int .i64 E,.int .i64 F,.int .i64 G])) D (λJ=>∃L M N,Zb J ⟨a.size,0,none⟩ 0 [.int .i64 L,.int .i64 M,.int .i64 N]/\R (.tuple #[.agg #[.int .i64 L,.int .i64 M,.int .i64 N],.int .i64 I]) J)))))/\(decide (u>=0)=false->(((Zc (s0.extract c.toNat (s0.size:Int).toNat) (0:Int).toNat:Int)==34)=true->∃O,Ze t ⟨h.size,0,none⟩=some (.int .i64 O)/\XC Tp 258 #[.string s0,.int .i64 O] t (λP Q=>∃S T,P=.tuple #[.int .i64 S,.int .i64 T]/\((T != 0)=true->Zp Tp 255=true/\XC Tp 255 #[.int .i64 S,.int .i64 T] Q (λU V=>∃W X Y Z,U=.tuple #[.agg #[.int .i64 W,.int .i64 X,.int .i64 Y],.int .i64 Z]/\XRunU Tp (AI 90 (.pointer (some ⟨a.size,0,none⟩)) (.agg #[.int .i64 W,.int .i64 X,.int .i64 Y])) V (λaa=>∃ab ac ad,Zb aa ⟨a.size,0,none⟩ 0 [.int .i64 ab,.int .i64 ac,.int .i64 ad]/\R (.tuple #[.agg #[.int .i64 ab,.int .i64 ac,.int .i64 ad],.int .i64 Z]) aa)))/\((T != 0)=false->Zp Tp 254=true/\XC Tp 254 #[.int .i64 8,.int .i64 S,.pointer (some ⟨h.size,0,none⟩)] Q (λae af=>∃ag ah ai aj,ae=.tuple #[.agg #[.int .i64 ag,.int .i64 ah,.int .i64 ai],.int .i64 aj]/\XRunU Tp (AI 90 (.pointer (some ⟨a.size,0,none⟩)) (.agg #[.int .i64 ag,.int .i64 ah,.int .i64 ai])) af (λak=>∃al am an,Zb ak ⟨a.size,0,none⟩ 0 [.int .i64 al,.int .i64 am,.int .i64 an]/\R (.tuple #[.agg #[.int .i64 al,.int .i64 am,.int .i64 an],.int .i64 aj]) ak)))))/\(((Zc (s0.extract c.toNat (s0.size:Int).toNat) (0:Int).toNat:Int)==34)=false->((bif ((Zc (s0.extract c.toNat (s0.size:Int).toNat) (0:Int).toNat:Int)==45)then true else(bif (decide ((Zc (s0.extract c.toNat (s0.size:Int).toNat) (0:Int).toNat:Int)>=48))then(decide ((Zc (s0.extract c.toNat (s0.size:Int).toNat) (0:Int).toNat:Int)<=57))else false))=true->∃ao,Ze t ⟨h.size,0,none⟩=some (.int .i64 ao)/\XC Tp 257 #[.string (⟨#[45,43,46,48,49,50,51,52,53,54,55,56,57,101,69]⟩:Bt)] t (λap aq=>∃ar:Value,ap=ar/\(aq)[(⟨h.size,0,none⟩:Addr).block]?=(t)[(⟨h.size,0,none⟩:Addr).block]?/\XC Tp 256 #[.string (s0.extract c.toNat (s0.size:Int).toNat),ar] aq (λau av=>∃aw,au=.int .i64 aw/\(av)[(⟨h.size,0,none⟩:Addr).block]?=(t)[(⟨h.size,0,none⟩:Addr).block]?/\∃ax,Ze av ⟨h.size,0,none⟩=some (.int .i64 ax)/\(0<=ax/\ax<=(Ar .i64 (ao+aw))/\(Ar .i64 (ao+aw))<=(s0.size:Int))/\XC Tp 25 #[.string (s0.extract ax.toNat (Ar .i64 (ao+aw)).toNat)] av (λay az=>∃aA aB aC aD,ay=.tuple #[.agg #[.bool aA,.string aB,.int .i64 aC],.int .i64 aD]/\let aE:=az.push (.cells #[.bool false,.string (⟨#[]⟩:Bt),.int .i64 0] 46);XRunU Tp (AI 46 (.pointer (some ⟨az.size,0,none⟩)) (.agg #[.bool aA,.string aB,.int .i64 aC])) aE (λaF=>((aD != 0)=true->∃aG,Ze aF ⟨h.size,0,none⟩=some (.int .i64 aG)/\Zp Tp 255=true/\XC Tp 255 #[.int .i64 aG,.int .i64 aD] aF (λaH aI=>∃aJ aL aM aN,aH=.tuple #[.agg #[.int .i64 aJ,.int .i64 aL,.int .i64 aM],.int .i64 aN]/\XRunU Tp (AI 90 (.pointer (some ⟨a.size,0,none⟩)) (.agg #[.int .i64 aJ,.int .i64 aL,.int .i64 aM])) aI (λaO=>∃aP aQ aS,Zb aO ⟨a.size,0,none⟩ 0 [.int .i64 aP,.int .i64 aQ,.int .i64 aS]/\R (.tuple #[.agg #[.int .i64 aP,.int .i64 aQ,.int .i64 aS],.int .i64 aN]) aO)))/\((aD != 0)=false->Zp Tp 254=true/\XC Tp 254 #[.int .i64 9,.int .i64 (Ar .i64 (ao+aw)),.pointer (some ⟨h.size,0,none⟩)] aF (λaT aU=>∃aV aW aX aY,aT=.tuple #[.agg #[.int .i64 aV,.int .i64 aW,.int .i64 aX],.int .i64 aY]/\XRunU Tp (AI 90 (.pointer (some ⟨a.size,0,none⟩)) (.agg #[.int .i64 aV,.int .i64 aW,.int .i64 aX])) aU (λaZ=>∃a0 a1 a2,Zb aZ ⟨a.size,0,none⟩ 0 [.int .i64 a0,.int .i64 a1,.int .i64 a2]/\R (.tuple #[.agg #[.int .i64 a0,.int .i64 a1,.int .i64 a2],.int .i64 aY]) aZ))))))))/\((bif ((Zc (s0.extract c.toNat (s0.size:Int).toNat) (0:Int).toNat:Int)==45)then true else(bif (decide ((Zc (s0.extract c.toNat (s0.size:Int).toNat) (0:Int).toNat:Int)>=48))then(decide ((Zc (s0.extract c.toNat (s0.size:Int).toNat) (0:Int).toNat:Int)<=57))else false))=false->XC Tp 256 #[.string (s0.extract c.toNat (s0.size:Int).toNat),.func (.func 259) #[] #[]] t (λa3 a4=>∃a5,a3=.int .i64 a5/\(0<=(0:Int)/\(0:Int)<=a5/\a5<=((s0.extract c.toNat (s0.size:Int).toNat).size:Int))/\XC Tp 260 #[.string ((s0.extract c.toNat (s0.size:Int).toNat).extract (0:Int).toNat a5.toNat)] a4 (λa6 a7=>∃a8,a6=.int .i64 a8/\((a8 != 0)=true->∃a9,Ze a7 ⟨h.size,0,none⟩=some (.int .i64 a9)/\Zp Tp 254=true/\XC Tp 254 #[.int .i64 a8,.int .i64 (Ar .i64 (a9+a5)),.pointer (some ⟨h.size,0,none⟩)] a7 (λba bb=>∃bc bd be bf,ba=.tuple #[.agg #[.int .i64 bc,.int .i64 bd,.int .i64 be],.int .i64 bf]/\XRunU Tp (AI 90 (.pointer (some ⟨a.size,0,none⟩)) (.agg #[.int .i64 bc,.int .i64 bd,.int .i64 be])) bb (λbg=>∃bh bi bj,Zb bg ⟨a.size,0,none⟩ 0 [.int .i64 bh,.int .i64 bi,.int .i64 bj]/\R (.tuple #[.agg #[.int .i64 bh,.int .i64 bi,.int .i64 bj],.int .i64 bf]) bg)))/\((a8 != 0)=false->∃bk,Ze a7 ⟨h.size,0,none⟩=some (.int .i64 bk)/\Zp Tp 255=true/\XC Tp 255 #[.int .i64 bk,.int .i64 2] a7 (λbl bm=>∃bn bo bp bq,bl=.tuple #[.agg #[.int .i64 bn,.int .i64 bo,.int .i64 bp],.int .i64 bq]/\XRunU Tp (AI 90 (.pointer (some ⟨a.size,0,none⟩)) (.agg #[.int .i64 bn,.int .i64 bo,.int .i64 bp])) bm (λbr=>∃bs bt bu,Zb br ⟨a.size,0,none⟩ 0 [.int .i64 bs,.int .i64 bt,.int .i64 bu]/\R (.tuple #[.agg #[.int .i64 bs,.int .i64 bt,.int .i64 bu],.int .i64 bq]) br)))))))))))):
  XC Tp 198 #[.string s0,.int .i64 bz] h R:=
 XF ⟨[(9,8000),(16,8000)],[],[]⟩ [.cell 4 90,.tmp 5] 130 Tryz.func198 H
theorem zda(p0:Option Addr)(Z:Int)(h:Za)(R:Value->Za->Prop)
  (H:XC Tp 115 #[.pointer p0] h (λa b=>∃c,a=.int .i64 c/\((c != Z)=true->R (.bool false) b)/\((c != Z)=false->XC Tp 116 #[.pointer p0] b (λd e=>d=.tuple #[]/\R (.bool true) e)))):
  XC Tp 199 #[.pointer p0,.int .i64 Z] h R:=
 XF ⟨[],[],[]⟩ [.tmp 4] 11 Tryz.func199 H
theorem zm0(t0:Bt)(Z:Int)(h:Za)(R:Value->Za->Prop)
  (H:((!(decide (Z>=t0.size)))=true->(0<=Z/\Z<t0.size))/\((bif (decide (Z>=t0.size))then true else((Zc t0 Z.toNat:Int) != 34))=true->R (.tuple #[.string (⟨#[]⟩:Bt),.int .i64 Z,.int .i64 2]) h)/\((bif (decide (Z>=t0.size))then true else((Zc t0 Z.toNat:Int) != 34))=false->let a:=h.push (.cells #[.pointer none,.slice none 0 0] 112);∃(b:Int->Za->Prop) (c:Int->Za->Nat),b (Ar .i64 (Z+1)) a/\∀d:Int,∀e:Za,b d e->((decide (d<t0.size)=true->(0<=d/\d<t0.size)/\(((Zc t0 d.toNat:Int)==34)=true->XC Tp 87 #[.pointer (some ⟨h.size,0,none⟩)] e (λf g=>∃i,f=.string i/\R (.tuple #[.string i,.int .i64 (Ar .i64 (d+1)),.int .i64 0]) g))/\(((Zc t0 d.toNat:Int)==34)=false->(0<=d/\d<=t0.size/\(t0.size:Int)<=(t0.size:Int))/\XC Tp 291 #[.string (t0.extract d.toNat (t0.size:Int).toNat)] e (λj k=>∃l m,j=.tuple #[.int .i32 l,.int .i64 m]/\((m==0)=true->R (.tuple #[.string (⟨#[]⟩:Bt),.int .i64 d,.int .i64 2]) k)/\((m==0)=false->XC Tp 83 #[.pointer (some ⟨h.size,0,none⟩),.int .i32 l] k (λn o=>∃p,∃q:Value,n=.tuple #[.int .i64 p,q]/\(b (Ar .i64 (d+m)) o/\c (Ar .i64 (d+m)) o<c d e))))))/\(decide (d<t0.size)=false->R (.tuple #[.string (⟨#[]⟩:Bt),.int .i64 (t0.size:Int),.int .i64 2]) e)))):
  XC Tp 253 #[.string t0,.int .i64 Z] h R:=
 XF ⟨[],[(5,[(1,.one (.int .i64))])],[]⟩ [.tmp 4,.tmp 5,.tmp 6] 51 Tryz.func253 H
theorem zm1(Z:Int)(aa:Int)(c2:Addr)(h:Za)(R:Value->Za->Prop)
  (H:let a:=h.push (.cells #[.int .i64 0,.int .i64 0,.int .i64 0] 90);∃b,Ze a c2=some (.int .i64 b)/\XRunU Tp (AI 90 (.pointer (some ⟨h.size,0,none⟩)) (.agg #[.int .i64 Z,.int .i64 b,.int .i64 aa])) a (λc=>∃d e f,Zb c ⟨h.size,0,none⟩ 0 [.int .i64 d,.int .i64 e,.int .i64 f]/\R (.tuple #[.agg #[.int .i64 d,.int .i64 e,.int .i64 f],.int .i64 0]) c)):
  XC Tp 254 #[.int .i64 Z,.int .i64 aa,.pointer (some c2)] h R:=
 XF ⟨[],[],[]⟩ [.cell 5 90,.tmp 6] 12 Tryz.func254 H
theorem zwe(s0:Bt)(Z:FuncId)(aa:Array Value)(ab:Array Value)(h:Za)(R:Value->Za->Prop)
  (H:∃(a:Int->Za->Prop) (b:Int->Za->Nat),a 0 h/\∀c:Int,∀d:Za,a c d->((decide (c<s0.size)=true->(0<=c/\c<s0.size)/\Zp Tp Z=true/\XC Tp Z (aa++#[.int .u8 (Zc s0 c.toNat)]++ab) d (λe f=>∃g,e=.bool g/\((!g)=true->R (.int .i64 c) f)/\((!g)=false->(a (Ar .i64 (c+1)) f/\b (Ar .i64 (c+1)) f<b c d))))/\(decide (c<s0.size)=false->R (.int .i64 (s0.size:Int)) d))):
  XC Tp 256 #[.string s0,.func (.func Z) aa ab] h R:=
 XF ⟨[],[(2,[(8,.one (.int .i64))])],[]⟩ [.tmp 4] 21 Tryz.func256 H
theorem zpj(l0:Bt)(h:Za)(R:Value->Za->Prop)
  (H:let a:=h.push (.cells #[.string l0] 9);R (.func (.func 292) #[] #[.pointer (some ⟨h.size,0,none⟩)]) a):
  XC Tp 257 #[.string l0] h R:=
 XF ⟨[],[],[]⟩ [.tmp 2] 4 Tryz.func257 H
theorem zj7(c0:Int)(c1:Addr)(h:Za)(R:Value->Za->Prop)
  (H:∃a,Ze h c1=some (.string a)/\XC Tp 212 #[.string a,.int .u8 c0] h (λb c=>∃d,b=.int .i64 d/\R (.bool (decide (d>=0))) c)):
  XC Tp 292 #[.int .u8 c0,.pointer (some c1)] h R:=
 XF ⟨[],[],[]⟩ [.tmp 3] 8 Tryz.func292 H
theorem Wo(s0:Bt)(aM:Int)(aL:Int)(h:Za)(R:Value->Za->Prop)
  (H:((s0.toList==(⟨#[]⟩:Bt).toList)=true->R (.tuple #[.int .u64 0,.iface 287 (.int .i64 2)]) h)/\((s0.toList==(⟨#[]⟩:Bt).toList)=false->∀b:Bt->Int->Za->Prop,(∀c:Bt,∀d:Int,∀e:Za,(∀f:Int->Za->Prop,(∀g:Int,∀i:Za,(∀j:Int->Za->Prop,(∀k:Int,∀l:Za,(0<=(Ar .u64 g)/\XRun Tp (convert 9 110 (.string c)) l (λm n=>∃o,m=slV o/\∃(p:Bool->Int->Int->Za->Prop) (q:Bool->Int->Int->Za->Nat),p false 0 0 n/\∀r:Bool,∀s t:Int,∀u:Za,p r s t u->((decide (t<o.len)=true->∃v,(o.a=some v/\0<=t/\t<o.len)/\∃w,Ze u (v.add (t.toNat*1))=some (.int .u8 w)/\∀x:Bool->Int->Za->Prop,(∀y:Bool,∀z:Int,∀A:Za,((decide (z>=(Ar .u8 d))=true->R (.tuple #[.int .u64 0,.iface 287 (.int .i64 2)]) A)/\(decide (z>=(Ar .u8 d))=false->(decide (s>=k)=true->R (.tuple #[.int .u64 (Ar .u64 ((Ar .u64 (1*2 ^ (min (Ar .u64 g).toNat 64)))-1)),.iface 287 (.int .i64 1)]) A)/\(decide (s>=k)=false->((bif (decide ((Ar .u64 ((Ar .u64 (s*(Ar .u64 d)))+(Ar .u64 z)):Int)<(Ar .u64 (s*(Ar .u64 d)))))then true else(decide ((Ar .u64 ((Ar .u64 (s*(Ar .u64 d)))+(Ar .u64 z)):Int)>(Ar .u64 ((Ar .u64 (1*2 ^ (min (Ar .u64 g).toNat 64)))-1)))))=true->R (.tuple #[.int .u64 (Ar .u64 ((Ar .u64 (1*2 ^ (min (Ar .u64 g).toNat 64)))-1)),.iface 287 (.int .i64 1)]) A)/\((bif (decide ((Ar .u64 ((Ar .u64 (s*(Ar .u64 d)))+(Ar .u64 z)):Int)<(Ar .u64 (s*(Ar .u64 d)))))then true else(decide ((Ar .u64 ((Ar .u64 (s*(Ar .u64 d)))+(Ar .u64 z)):Int)>(Ar .u64 ((Ar .u64 (1*2 ^ (min (Ar .u64 g).toNat 64)))-1)))))=false->(p y (Ar .u64 ((Ar .u64 (s*(Ar .u64 d)))+(Ar .u64 z))) (Ar .i64 (t+1)) A/\q y (Ar .u64 ((Ar .u64 (s*(Ar .u64 d)))+(Ar .u64 z))) (Ar .i64 (t+1)) A<q r s t u)))))->x y z A)->((bif (w==95)then(aM==0)else false)=true->(p true s (Ar .i64 (t+1)) u/\q true s (Ar .i64 (t+1)) u<q r s t u))/\((bif (w==95)then(aM==0)else false)=false->((bif (decide ((48:Int)<=w))then(decide (w<=57))else false)=true->x r (Ar .u8 (w-48)) u)/\((bif (decide ((48:Int)<=w))then(decide (w<=57))else false)=false->XC Tp 325 #[.int .u8 w] u (λB C=>∃D,B=.int .u8 D/\∃E:Value->Za->Prop,(decide ((97:Int)<=D)=true->XC Tp 325 #[.int .u8 w] C (λF G=>∃I,F=.int .u8 I/\E (.int .u8 I) G))/\(decide ((97:Int)<=D)=false->∃J,E (.int .u8 J) C)/\(decide ((97:Int)<=D)=true->∀L M,E L M->∃N,L=.int .u8 N)/\∀O:Int,∀P,E (.int .u8 O) P->((bif (decide ((97:Int)<=D))then(decide (O<=122))else false)=true->XC Tp 325 #[.int .u8 w] P (λQ S=>∃T,Q=.int .u8 T/\x r (Ar .u8 ((Ar .u8 (T-97))+10)) S))/\((bif (decide ((97:Int)<=D))then(decide (O<=122))else false)=false->R (.tuple #[.int .u64 0,.iface 287 (.int .i64 2)]) P)))))/\(decide (t<o.len)=false->∃U:Value->Za->Prop,(r=true->XC Tp 326 #[.string s0] u (λV W=>∃X,V=.bool X/\U (.bool X) W))/\(r=false->∃Y,U (.bool Y) u)/\(r=true->∀Z aa,U Z aa->∃ab,Z=.bool ab)/\∀ac:Bool,∀ad,U (.bool ac) ad->((bif r then(!ac)else false)=true->R (.tuple #[.int .u64 0,.iface 287 (.int .i64 2)]) ad)/\((bif r then(!ac)else false)=false->R (.tuple #[.int .u64 s,.nilIface]) ad)))))->j k l)->((d==10)=true->j 1844674407370955162 i)/\((d==10)=false->((d==16)=true->j 1152921504606846976 i)/\((d==16)=false->IntKind.u64=IntKind.u64/\(Ar .u64 d)≠0/\j (Ar .u64 ((Ar .u64 ((18446744073709551615:Int).tdiv (Ar .u64 d)))+1)) i)))->f g i)->((aL==0)=true->f 64 e)/\((aL==0)=false->((bif (decide (aL<0))then true else(decide (aL>64)))=true->R (.tuple #[.int .u64 0,.iface 287 (.int .i64 4)]) e)/\((bif (decide (aL<0))then true else(decide (aL>64)))=false->f aL e)))->b c d e)->((bif (decide ((2:Int)<=aM))then(decide (aM<=36))else false)=true->b s0 aM h)/\((bif (decide ((2:Int)<=aM))then(decide (aM<=36))else false)=false->((aM==0)=true->(0<=(0:Int)/\(0:Int)<(s0.size:Int))/\(((Zc s0 (0:Int).toNat:Int)==48)=true->(decide ((s0.size:Int)>=3)=true->(0<=(1:Int)/\(1:Int)<(s0.size:Int)))/\∃ae:Value->Za->Prop,(decide ((s0.size:Int)>=3)=true->XC Tp 325 #[.int .u8 (Zc s0 (1:Int).toNat)] h (λaf ag=>∃ah,af=.int .u8 ah/\ae (.int .u8 ah) ag))/\(decide ((s0.size:Int)>=3)=false->∃ai,ae (.int .u8 ai) h)/\(decide ((s0.size:Int)>=3)=true->∀aj ak,ae aj ak->∃al,aj=.int .u8 al)/\∀am:Int,∀an,ae (.int .u8 am) an->((bif (decide ((s0.size:Int)>=3))then(am==98)else false)=true->(0<=(2:Int)/\(2:Int)<=(s0.size:Int)/\(s0.size:Int)<=(s0.size:Int))/\b (s0.extract (2:Int).toNat (s0.size:Int).toNat) 2 an)/\((bif (decide ((s0.size:Int)>=3))then(am==98)else false)=false->(decide ((s0.size:Int)>=3)=true->(0<=(1:Int)/\(1:Int)<(s0.size:Int)))/\∃ao:Value->Za->Prop,(decide ((s0.size:Int)>=3)=true->XC Tp 325 #[.int .u8 (Zc s0 (1:Int).toNat)] an (λap aq=>∃ar,ap=.int .u8 ar/\ao (.int .u8 ar) aq))/\(decide ((s0.size:Int)>=3)=false->∃au,ao (.int .u8 au) an)/\(decide ((s0.size:Int)>=3)=true->∀av aw,ao av aw->∃ax,av=.int .u8 ax)/\∀ay:Int,∀az,ao (.int .u8 ay) az->((bif (decide ((s0.size:Int)>=3))then(ay==111)else false)=true->(0<=(2:Int)/\(2:Int)<=(s0.size:Int)/\(s0.size:Int)<=(s0.size:Int))/\b (s0.extract (2:Int).toNat (s0.size:Int).toNat) 8 az)/\((bif (decide ((s0.size:Int)>=3))then(ay==111)else false)=false->(decide ((s0.size:Int)>=3)=true->(0<=(1:Int)/\(1:Int)<(s0.size:Int)))/\∃aA:Value->Za->Prop,(decide ((s0.size:Int)>=3)=true->XC Tp 325 #[.int .u8 (Zc s0 (1:Int).toNat)] az (λaB aC=>∃aD,aB=.int .u8 aD/\aA (.int .u8 aD) aC))/\(decide ((s0.size:Int)>=3)=false->∃aE,aA (.int .u8 aE) az)/\(decide ((s0.size:Int)>=3)=true->∀aF aG,aA aF aG->∃aH,aF=.int .u8 aH)/\∀aI:Int,∀aJ,aA (.int .u8 aI) aJ->((bif (decide ((s0.size:Int)>=3))then(aI==120)else false)=true->(0<=(2:Int)/\(2:Int)<=(s0.size:Int)/\(s0.size:Int)<=(s0.size:Int))/\b (s0.extract (2:Int).toNat (s0.size:Int).toNat) 16 aJ)/\((bif (decide ((s0.size:Int)>=3))then(aI==120)else false)=false->(0<=(1:Int)/\(1:Int)<=(s0.size:Int)/\(s0.size:Int)<=(s0.size:Int))/\b (s0.extract (1:Int).toNat (s0.size:Int).toNat) 8 aJ))))/\(((Zc s0 (0:Int).toNat:Int)==48)=false->b s0 10 h))/\((aM==0)=false->R (.tuple #[.int .u64 0,.iface 287 (.int .i64 3)]) h)))):
  XC Tp 316 #[.string s0,.int .i64 aM,.int .i64 aL] h R:=
 XF ⟨[],[(36,[(12,.one (.bool)),(13,.one (.int .u64)),(101,.one (.int .i64))])],[(21,[(0,.one (.str)),(1,.one (.int .i64))]),(25,[(2,.one (.int .i64))]),(32,[(10,.one (.int .u64))]),(46,[(12,.one (.bool)),(16,.one (.int .u8))])]⟩ [.tmp 6,.tmp 7] 172 Tryz.func316 H
theorem zdb(s0:Bt)(aa:Int)(Z:Int)(h:Za)(R:Value->Za->Prop)
  (H:XC Tp 316 #[.string s0,.int .i64 aa,.int .i64 Z] h (λa b=>∃c,∃d:Value,a=.tuple #[.int .u64 c,d]/\ifc d=true/\((!z9u d)=true->XC Tp 267 #[.string (⟨#[80,97,114,115,101,85,105,110,116]⟩:Bt),.string s0,.int .i64 aa,.int .i64 Z,d] b (λe f=>∃g:Value,e=g/\R (.tuple #[.int .u64 c,g]) f))/\((!z9u d)=false->R (.tuple #[.int .u64 c,.nilIface]) b))):
  XC Tp 329 #[.string s0,.int .i64 aa,.int .i64 Z] h R:=
 XF ⟨[],[],[]⟩ [.tmp 6,.tmp 7] 26 Tryz.func329 H
theorem Wg(ab:Sl)(u1:Int)(Z:Int)(aa:Bool)(b:Bool)(h:Za)(R:Value->Za->Prop)
  (H:∀c:Za->Prop,(∀d:Za,(let e:=d.push (.cells #[.int .u8 0,.int .u8 0,.int .u8 0,.int .u8 0,.int .u8 0,.int .u8 0,.int .u8 0,.int .u8 0,.int .u8 0,.int .u8 0,.int .u8 0,.int .u8 0,.int .u8 0,.int .u8 0,.int .u8 0,.int .u8 0,.int .u8 0,.int .u8 0,.int .u8 0,.int .u8 0,.int .u8 0,.int .u8 0,.int .u8 0,.int .u8 0,.int .u8 0,.int .u8 0,.int .u8 0,.int .u8 0,.int .u8 0,.int .u8 0,.int .u8 0,.int .u8 0,.int .u8 0,.int .u8 0,.int .u8 0,.int .u8 0,.int .u8 0,.int .u8 0,.int .u8 0,.int .u8 0,.int .u8 0,.int .u8 0,.int .u8 0,.int .u8 0,.int .u8 0,.int .u8 0,.int .u8 0,.int .u8 0,.int .u8 0,.int .u8 0,.int .u8 0,.int .u8 0,.int .u8 0,.int .u8 0,.int .u8 0,.int .u8 0,.int .u8 0,.int .u8 0,.int .u8 0,.int .u8 0,.int .u8 0,.int .u8 0,.int .u8 0,.int .u8 0,.int .u8 0] 274);∀f:Int->Za->Prop,(∀g:Int,∀i:Za,(∀j:Int->Za->Prop,(∀k:Int,∀l:Za,(∀m:Int->Za->Prop,(∀n:Int,∀o:Za,((b=true->(0<=n/\n<=(65:Int)/\(65:Int)<=(65:Int))/\XRun Tp (AU #[110,110] 110 #[slV ab,.slice (zjr (some ⟨d.size,0,none⟩) 1 n.toNat 65) ((65:Int).toNat-n.toNat) (65-n.toNat)]) o (λp q=>∃r,p=slV r/\R (.tuple #[slV r,.string (⟨#[]⟩:Bt)]) q))/\(b=false->(0<=n/\n<=(65:Int)/\(65:Int)<=(65:Int))/\XRun Tp (convert 110 9 (.slice (zjr (some ⟨d.size,0,none⟩) 1 n.toNat 65) ((65:Int).toNat-n.toNat) (65-n.toNat))) o (λs t=>∃u,s=.string u/\R (.tuple #[.slice none 0 0,.string u]) t)))->m n o)->(aa=true->∃v:Addr,(some ⟨d.size,0,none⟩=some v/\0<=(Ar .i64 (k-1))/\(Ar .i64 (k-1))<((65:Nat):Int))/\XRunU Tp (AI 5 (.pointer (some (v.add ((Ar .i64 (k-1)).toNat*1)))) (.int .u8 45)) l (λw=>m (Ar .i64 (k-1)) w))/\(aa=false->m k l))->j k l)->XC Tp 273 #[.int .i64 Z] i (λx y=>∃z,x=.bool z/\(z=true->XC Tp 274 #[.int .u64 (Ar .u64 Z)] y (λA B=>∃C,A=.int .i64 C/\∃(D:Int->Int->Za->Prop) (E:Int->Int->Za->Nat),D g 65 B/\∀F G:Int,∀I:Za,D F G I->((decide (F>=(Ar .u64 Z))=true->(0<=(Ar .u64 (((AH (AB .u64) F) &&& (AH (AB .u64) (Ar .u64 ((Ar .u64 Z)-1)))).toNat:Int):Int)/\(Ar .u64 (((AH (AB .u64) F) &&& (AH (AB .u64) (Ar .u64 ((Ar .u64 Z)-1)))).toNat:Int):Int)<(((⟨#[48,49,50,51,52,53,54,55,56,57,97,98,99,100,101,102,103,104,105,106,107,108,109,110,111,112,113,114,115,116,117,118,119,120,121,122]⟩:Bt)).size:Int))/\∃J:Addr,(some ⟨d.size,0,none⟩=some J/\0<=(Ar .i64 (G-1))/\(Ar .i64 (G-1))<((65:Nat):Int))/\XRunU Tp (AI 5 (.pointer (some (J.add ((Ar .i64 (G-1)).toNat*1)))) (.int .u8 (Zc (⟨#[48,49,50,51,52,53,54,55,56,57,97,98,99,100,101,102,103,104,105,106,107,108,109,110,111,112,113,114,115,116,117,118,119,120,121,122]⟩:Bt) (Ar .u64 (((AH (AB .u64) F) &&& (AH (AB .u64) (Ar .u64 ((Ar .u64 Z)-1)))).toNat:Int):Int).toNat))) I (λL=>0<=(Ar .u64 C)/\(D (F.fdiv (2 ^ (min (Ar .u64 C).toNat 64))) (Ar .i64 (G-1)) L/\E (F.fdiv (2 ^ (min (Ar .u64 C).toNat 64))) (Ar .i64 (G-1)) L<E F G I)))/\(decide (F>=(Ar .u64 Z))=false->(0<=F/\F<(((⟨#[48,49,50,51,52,53,54,55,56,57,97,98,99,100,101,102,103,104,105,106,107,108,109,110,111,112,113,114,115,116,117,118,119,120,121,122]⟩:Bt)).size:Int))/\∃M:Addr,(some ⟨d.size,0,none⟩=some M/\0<=(Ar .i64 (G-1))/\(Ar .i64 (G-1))<((65:Nat):Int))/\XRunU Tp (AI 5 (.pointer (some (M.add ((Ar .i64 (G-1)).toNat*1)))) (.int .u8 (Zc (⟨#[48,49,50,51,52,53,54,55,56,57,97,98,99,100,101,102,103,104,105,106,107,108,109,110,111,112,113,114,115,116,117,118,119,120,121,122]⟩:Bt) F.toNat))) I (λN=>j (Ar .i64 (G-1)) N)))))/\(z=false->∃(O:Int->Int->Za->Prop) (P:Int->Int->Za->Nat),O g 65 y/\∀Q S:Int,∀T:Za,O Q S T->((decide (Q>=(Ar .u64 Z))=true->IntKind.u64=IntKind.u64/\(Ar .u64 Z)≠0/\(0<=(Ar .u64 (Q-(Ar .u64 ((Ar .u64 (Q.tdiv (Ar .u64 Z)))*(Ar .u64 Z)))):Int)/\(Ar .u64 (Q-(Ar .u64 ((Ar .u64 (Q.tdiv (Ar .u64 Z)))*(Ar .u64 Z)))):Int)<(((⟨#[48,49,50,51,52,53,54,55,56,57,97,98,99,100,101,102,103,104,105,106,107,108,109,110,111,112,113,114,115,116,117,118,119,120,121,122]⟩:Bt)).size:Int))/\∃U:Addr,(some ⟨d.size,0,none⟩=some U/\0<=(Ar .i64 (S-1))/\(Ar .i64 (S-1))<((65:Nat):Int))/\XRunU Tp (AI 5 (.pointer (some (U.add ((Ar .i64 (S-1)).toNat*1)))) (.int .u8 (Zc (⟨#[48,49,50,51,52,53,54,55,56,57,97,98,99,100,101,102,103,104,105,106,107,108,109,110,111,112,113,114,115,116,117,118,119,120,121,122]⟩:Bt) (Ar .u64 (Q-(Ar .u64 ((Ar .u64 (Q.tdiv (Ar .u64 Z)))*(Ar .u64 Z)))):Int).toNat))) T (λV=>(O (Ar .u64 (Q.tdiv (Ar .u64 Z))) (Ar .i64 (S-1)) V/\P (Ar .u64 (Q.tdiv (Ar .u64 Z))) (Ar .i64 (S-1)) V<P Q S T)))/\(decide (Q>=(Ar .u64 Z))=false->(0<=Q/\Q<(((⟨#[48,49,50,51,52,53,54,55,56,57,97,98,99,100,101,102,103,104,105,106,107,108,109,110,111,112,113,114,115,116,117,118,119,120,121,122]⟩:Bt)).size:Int))/\∃W:Addr,(some ⟨d.size,0,none⟩=some W/\0<=(Ar .i64 (S-1))/\(Ar .i64 (S-1))<((65:Nat):Int))/\XRunU Tp (AI 5 (.pointer (some (W.add ((Ar .i64 (S-1)).toNat*1)))) (.int .u8 (Zc (⟨#[48,49,50,51,52,53,54,55,56,57,97,98,99,100,101,102,103,104,105,106,107,108,109,110,111,112,113,114,115,116,117,118,119,120,121,122]⟩:Bt) Q.toNat))) T (λX=>j (Ar .i64 (S-1)) X))))))->f g i)->(aa=true->f (Ar .u64 (0-u1)) e)/\(aa=false->f u1 e))->c d)->((bif (bif (decide (Z<2))then true else(Z==10))then true else(decide (Z>36)))=true->False)/\((bif (bif (decide (Z<2))then true else(Z==10))then true else(decide (Z>36)))=false->c h)):
  XC Tp 224 #[.slice ab.a ab.len ab.cap,.int .u64 u1,.int .i64 Z,.bool aa,.bool b] h R:=
 XF ⟨[],[(11,[(1,.one (.int .u64)),(13,.one (.int .i64))]),(18,[(1,.one (.int .u64)),(13,.one (.int .i64))])],[(3,[]),(7,[(1,.one (.int .u64))]),(25,[(13,.one (.int .i64))]),(28,[(13,.one (.int .i64))])]⟩ [.tmp 10,.tmp 11] 102 Tryz.func224 H
theorem Wp(i0:Int)(Z:Int)(h:Za)(R:Value->Za->Prop)
  (H:((Z==10)=true->((bif (decide ((0:Int)<=i0))then(decide (i0<100))else false)=true->XC Tp 221 #[.int .i64 i0] h (λb c=>∃d,b=.string d/\R (.string d) c))/\((bif (decide ((0:Int)<=i0))then(decide (i0<100))else false)=false->let e:=h.push (.cells #[.int .u8 0,.int .u8 0,.int .u8 0,.int .u8 0,.int .u8 0,.int .u8 0,.int .u8 0,.int .u8 0,.int .u8 0,.int .u8 0,.int .u8 0,.int .u8 0,.int .u8 0,.int .u8 0,.int .u8 0,.int .u8 0,.int .u8 0,.int .u8 0,.int .u8 0,.int .u8 0,.int .u8 0,.int .u8 0,.int .u8 0,.int .u8 0] 237);∀f:Int->Za->Prop,(∀g:Int,∀i:Za,(XC Tp 222 #[.int .u64 g] i (λj k=>∃l,j=.int .i64 l/\(0<=(1:Int)/\(1:Int)<=(Ar .i64 (1+l))/\(Ar .i64 (1+l))<=(24:Int))/\XC Tp 223 #[.slice (zjr (some ⟨h.size,0,none⟩) 1 ((1:Int).toNat) 24) ((Ar .i64 (1+l)).toNat-(1:Int).toNat) (24-(1:Int).toNat),.int .u64 g] k (λm n=>m=.tuple #[]/\(decide (i0<0)=true->∃o:Addr,(some ⟨h.size,0,none⟩=some o/\0<=(0:Int)/\(0:Int)<((24:Nat):Int))/\XRunU Tp (AI 5 (.pointer (some (o.add ((0:Int).toNat*1)))) (.int .u8 45)) n (λp=>(0<=(0:Int)/\(0:Int)<=(Ar .i64 (1+l))/\(Ar .i64 (1+l))<=(24:Int))/\XRun Tp (convert 110 9 (.slice (zjr (some ⟨h.size,0,none⟩) 1 ((0:Int).toNat) 24) ((Ar .i64 (1+l)).toNat-(0:Int).toNat) (24-(0:Int).toNat))) p (λq r=>∃s,q=.string s/\R (.string s) r)))/\(decide (i0<0)=false->(0<=(1:Int)/\(1:Int)<=(Ar .i64 (1+l))/\(Ar .i64 (1+l))<=(24:Int))/\XRun Tp (convert 110 9 (.slice (zjr (some ⟨h.size,0,none⟩) 1 ((1:Int).toNat) 24) ((Ar .i64 (1+l)).toNat-(1:Int).toNat) (24-(1:Int).toNat))) n (λt u=>∃v,t=.string v/\R (.string v) u)))))->f g i)->(decide (i0<0)=true->f (Ar .u64 (0-(Ar .u64 i0))) e)/\(decide (i0<0)=false->f (Ar .u64 i0) e)))/\((Z==10)=false->XC Tp 224 #[.slice none 0 0,.int .u64 (Ar .u64 i0),.int .i64 Z,.bool (decide (i0<0)),.bool false] h (λw x=>∃y z,w=.tuple #[slV y,.string z]/\R (.string z) x))):
  XC Tp 154 #[.int .i64 i0,.int .i64 Z] h R:=
 XF ⟨[],[],[(8,[(6,.one (.int .u64))])]⟩ [.tmp 4] 54 Tryz.func154 H
end
section
theorem zt8(v:Tr):Tr.mk v.kind v.text v.keys v.items=v:=by cases v;rfl
theorem zzd{l:List Tr}{k:Nat}(h:k<l.length):l[((k:Int)).toNat]?=some l[k]:=by rw[AK,AE h]
end
section
theorem Yw(s0:Sl)(Z:FuncId)(ab:Array Value)(aa:Array Value)(h:Za)(R:Value->Za->Prop)
  (H:XC Tp 208 #[slV s0,.func (.func Z) ab aa] h (λb c=>∃d,b=.int .i64 d/\R (.bool (decide (d>=0))) c)):
  XC Tp 132 #[.slice s0.a s0.len s0.cap,.func (.func Z) ab aa] h R:=
 XF ⟨[],[],[]⟩ [.tmp 4] 9 Tryz.func132 H
theorem Jl(s0:Sl)(Z:FuncId)(ab:Array Value)(aa:Array Value)(h:Za)(R:Value->Za->Prop)
  (H:∃(b:Int->Za->Prop) (c:Int->Za->Nat),b 0 h/\∀d:Int,∀e:Za,b d e->((decide (d<s0.len)=true->∃f,(s0.a=some f/\0<=d/\d<s0.len)/\∃g,Ze e (f.add (d.toNat*1))=some (.string g)/\Zp Tp Z=true/\XC Tp Z (ab++#[.string g]++aa) e (λi j=>∃k,i=.bool k/\(k=true->R (.int .i64 d) j)/\(k=false->(b (Ar .i64 (d+1)) j/\c (Ar .i64 (d+1)) j<c d e))))/\(decide (d<s0.len)=false->R (.int .i64 (-1)) e))):
  XC Tp 208 #[.slice s0.a s0.len s0.cap,.func (.func Z) ab aa] h R:=
 XF ⟨[],[(2,[(8,.one (.int .i64))])],[]⟩ [.tmp 4] 19 Tryz.func208 H
theorem zfy(s0:Bt)(h:Za)(R:Value->Za->Prop)
  (H:XC Tp 134 #[.string s0] h (λa b=>∃c,a=.bool c/\R (.bool (!c)) b)):
  XC Tp 133 #[.string s0] h R:=
 XF ⟨[],[],[]⟩ [.tmp 2] 6 Tryz.func133 H
theorem zho(Z:Sl)(h:Za)(R:Value->Za->Prop)
  (H:∃b:Value->Za->Prop,(decide ((Z.len:Int)<=64)=true->XC Tp 132 #[slV Z,.func (.func 133) #[] #[]] h (λc d=>∃e,c=.bool e/\b (.bool e) d))/\(decide ((Z.len:Int)<=64)=false->∃f,b (.bool f) h)/\(decide ((Z.len:Int)<=64)=true->∀g i,b g i->∃j,g=.bool j)/\∀k:Bool,∀l,b (.bool k) l->R (.bool (bif (decide ((Z.len:Int)<=64))then(!k)else false)) l):
  XC Tp 70 #[.slice Z.a Z.len Z.cap] h R:=
 XF ⟨[],[],[]⟩ [.tmp 2] 11 Tryz.func70 H
theorem Wz(b0:Option Addr)(c1:Int)(h:Za)(R:Value->Za->Prop)
  (H:XC Tp 152 #[.pointer b0] h (λb c=>b=.tuple #[]/\∃d,b0=some d/\∃e,Ze c (AD d 1)=some (slV e)/\let f:=c.push (.cells #[.int .u8 c1] 5);XRun Tp (AU #[110,110] 110 #[slV e,.slice (some ⟨c.size,0,none⟩) 1 1]) f (λg i=>∃j,g=slV j/\∃k,b0=some k/\XRunU Tp (AI 110 (.pointer (some (AD k 1))) (slV j)) i (λl=>R (.nilIface) l)))):
  XC Tp 81 #[.pointer b0,.int .u8 c1] h R:=
 XF ⟨[],[],[]⟩ [.tmp 4] 17 Tryz.func81 H
theorem Wh(b0:Option Addr)(s1:Bt)(h:Za)(R:Value->Za->Prop)
  (H:XC Tp 152 #[.pointer b0] h (λb c=>b=.tuple #[]/\∃d,b0=some d/\∃e,Ze c (AD d 1)=some (slV e)/\XRun Tp (AU #[110,9] 110 #[slV e,.string s1]) c (λf g=>∃i,f=slV i/\∃j,b0=some j/\XRunU Tp (AI 110 (.pointer (some (AD j 1))) (slV i)) g (λk=>R (.tuple #[.int .i64 (s1.size:Int),.nilIface]) k)))):
  XC Tp 85 #[.pointer b0,.string s1] h R:=
 XF ⟨[],[],[]⟩ [.tmp 4,.tmp 5] 19 Tryz.func85 H
end
section
def Beh(gl:Fr)(F:FuncId)(A C:Array Value)(h:Za)(M:Fr)(t:Ty)(x:El t)(b:Bool):Prop:=
 Zp Tp F=true/\∀h' M' u,Later h M h' M'->RdV M' t x u->PX Tp F (A++#[u]++C) h' M' [.bool] (λr=>r=b)
theorem qdn{gl:Fr}{F:FuncId}{A C:Array Value}{h:Za}{M:Fr}(ag:AgM M h){xs:List Bt}{s:Sl}(hr:Rd M (.row .str) xs [slV s]){p:Bt->Bool}(hb:∀x∈xs,Beh gl F A C h M .str x (p x)):
  PX Tp 132 #[slV s,.func (.func F) A C] h M [.bool] (λr=>r=xs.any p):=by
 apply PX.of
 apply Yw s F A C
 apply Jl s F A C
 obtain⟨af,ai,ah⟩:=rowLen hr
 refine⟨λi h4=>∃k:Nat,i=k/\k<=xs.length/\(∃M4,Later h M h4 M4)/\(xs.take k).any p=false,λi _=>xs.length-i.toNat,⟨0,rfl,by omega,⟨M,Later.refl ag⟩,by simp⟩,?_⟩
 rintro i h4 ⟨k,rfl,hk,⟨M4,L4⟩,aa⟩
 refine⟨λhc=>?_,λhc=>?_⟩
 ·have Z:k<xs.length:=by simp at hc;omega
  refine qdg L4.ag (Rd.mono L4.le hr) Z rfl rfl ⟨(hb _ (BG Z)).1,?_⟩
  refine((hb _ (BG Z)).2 h4 M4 _ L4 (rdStr _)).go λv h5 M5 r L5 ae ab=>⟨r,z4t ae,λhx=>?_,λhx=>?_⟩
  ·refine⟨(k:Int),rfl,M5,_,L4.trans L5,zqn.2 (rdBool _),?_⟩
   have:xs.any p=true:=List.any_eq_true.2 ⟨xs[k],BG Z,by rw[<-ab];exact hx⟩
   rw[this];simp
  ·rw[zj4 Z (by omega)]
   refine⟨⟨k+1,rfl,by omega,⟨M5,L4.trans L5⟩,?_⟩,by simp only[AK];omega⟩
   rw[Ba Z,List.any_append,aa]
   simp only[List.any_cons,List.any_nil,<-ab,hx];rfl
 ·have Z:k=xs.length:=by simp at hc;omega
  subst Z
  rw[BL]at aa
  refine⟨-1,rfl,M4,_,L4,zqn.2 (rdBool _),?_⟩
  rw[aa];rfl
end
section
theorem z4z(s:Bt):(s.toList==(⟨#[]⟩:Bt).toList)=(lb s==[]):=by
 have:=zmv (lb s) []
 rw[zo4]at this
 rw[show(⟨#[]⟩:Bt)=bl []from rfl,this,A6];simp
theorem qdo(s:Bt)(l:Bs):(s.toList==(bl l).toList)=(lb s==l):=by
 have:=zmv (lb s) l
 rw[zo4]at this
 rw[this,A6];simp
theorem z7m{l:List Bt}{k:Nat}(h:k<l.length):l[((k:Int)).toNat]?=some l[k]:=by rw[AK,AE h]
end
end Go.X
end
section
namespace Go.X
open Go Go.RowKit
section
variable {h h':Za} {bs:List Nat} {v:Tr} {M:Fr} {b o n:Nat} {cs:Array Value} {vs:List Value}
def OKeys(h:Za)(ks:List Bt)(bs:List Nat)(s:Sl):Prop:=
 s.len=ks.length/\ks.length<=140737488355328/\ks.length<=s.cap/\((ks=[]/\bs=[]/\s.cap=0)\/∃b cs,bs=[b]/\s.a=some ⟨b,0,none⟩/\Blk h b cs/\s.cap<=cs.size/\cut cs 0 ks.length=ks.map Dw)
inductive OT (h:Za):Tr->List Nat->List Value->Prop where
 |mk {k:Int} {s:Bt} {ks:List Bt} {xs:List Tr} {sk si:Sl} {bk bb:List Nat} {b:Nat} {cs:Array Value} {bf:Nat->List Nat}
  (hk:OKeys h ks bk sk) (hn:si.len=xs.length/\xs.length<=140737488355328/\xs.length<=si.cap)
  (hz:(xs=[]/\bb=[]/\si.cap=0)\/(bb=[b]/\si.a=some ⟨b,0,none⟩/\Blk h b cs/\si.cap*4<=cs.size))
  (hi:∀i (hx:i<xs.length),OT h xs[i] (bf i) (cut cs (i*4) 4))
  (hd:(bk++(bb++(BS xs.length).flatMap bf)).Nodup):
  OT h (.mk k s ks xs) (bk++(bb++(BS xs.length).flatMap bf)) [.int .i64 k,.string s,slV sk,slV si]
theorem OKeys.frame{ks:List Bt}{s:Sl}(H:OKeys h ks bs s)(hf:∀b∈bs,h'[b]?=h[b]?):OKeys h' ks bs s:=by
 obtain⟨h1,h2,h3,h4⟩:=H
 refine⟨h1,h2,h3,h4.imp id ?_⟩
 rintro⟨b,cs,rfl,e1,e2,e3⟩
 exact⟨b,cs,rfl,e1,e2.keep (hf b (by simp)),e3⟩
theorem OT.frame{cells:List Value}(H:OT h v bs cells):(∀b∈bs,h'[b]?=h[b]?)->OT h' v bs cells:=by
 induction H with
 | @mk k s ks xs sk si bk bb b cs bf hk hn hz hi hd ih=>
  intro hf
  refine OT.mk (b:=b) (cs:=cs) (hk.frame λx hx=>hf x (by simp[hx])) hn (hz.imp id ?_) (λi hx=>ih i hx λx Z=>hf x ?_) hd
  ·rintro⟨rfl,e1,e2,e3⟩
   exact⟨rfl,e1,e2.keep (hf b (by simp)),e3⟩
  ·simp only[AP,BH,BF]
   exact .inr (.inr ⟨i,hx,Z⟩)
theorem OT.nodup{cells:List Value}(H:OT h v bs cells):bs.Nodup:=by
 cases H with|mk _ _ _ _ hd=>exact hd
theorem OT.lt{cells:List Value}(H:OT h v bs cells):∀b∈bs,b<h.size:=by
 induction H with
 | @mk k s ks xs sk si bk bb b cs bf hk hn hz hi hd ih=>
  intro x hx
  simp only[AP,BH,BF]at hx
  rcases hx with hx|hx|⟨i,h1,h2⟩
  ·obtain⟨_,_,_,h4⟩:=hk
   rcases h4 with⟨_,rfl,_⟩|⟨b',cs',rfl,_,e,_⟩
   ·cases hx
   ·simp at hx;subst hx;exact e.lt
  ·rcases hz with⟨_,rfl,_⟩|⟨rfl,_,e,_⟩
   ·cases hx
   ·simp at hx;subst hx;exact e.lt
  ·exact ih i h1 x h2
theorem OT.len{cells:List Value}(H:OT h v bs cells):cells.length=4:=by cases H;rfl
theorem OT.one{cells:List Value}(H:OT h v bs cells):∀c∈cells,c.oneCell'=true:=by
 cases H with
 |mk _ _ _ _ _=>
  intro c hc
  simp at hc
  rcases hc with rfl|rfl|rfl|rfl <;> simp[Value.oneCell',slV]
theorem OT.cells{h:Za}{v:Tr}{bs:List Nat}{cells:List Value}(H:OT h v bs cells):∃sk si:Sl,cells=[.int .i64 v.kind,.string v.text,slV sk,slV si]:=by
 cases H with|mk _ _ _ _ _=>exact⟨_,_,rfl⟩
theorem OT.rd{cells:List Value}(H:OT h v bs cells)(hM:∀b∈bs,∀cs,Blk h b cs->M b=some cs):TrRd M v cells:=by
 induction H with
 | @mk k s ks xs sk si bk bb b cs bf hk hn hz hi hd ih=>
  obtain⟨k1,k2,k3,k4⟩:=hk
  have aa:RowAt M (λs cs=>cs=[.string s]) 1 ks (slV sk):=by
   refine⟨sk.a,sk.cap,by rw[slV,k1],⟨k2,k3⟩,?_⟩
   rcases k4 with⟨h0,_⟩|⟨b',cs',rfl,e1,e2,_,e3⟩
   ·exact .inl h0
   ·refine .inr ⟨b',0,cs',e1,hM b' (by simp) cs' e2,λi hx=>?_⟩
    have:(cut cs' 0 ks.length)[i]?=some (Dw ks[i]):=by rw[e3,Ct,AE hx];rfl
    unfold cut at this ⊢
    rw[AR,if_pos hx,Cc]at this
    have Z:=(AQ.1 this).1
    rw[AX,C5,A9 Z,Bw,Ed]
    rw[AE Z]at this
    rw[AL this]
  have ae:slV si=.slice si.a xs.length si.cap:=by rw[slV,hn.1]
  rw[ae]
  refine TrRd.mk (b:=b) (o:=0) (cs:=cs) aa hn.2 (hz.imp (·.1) ?_) λi hx=>?_
  ·rintro⟨rfl,e1,e2,_⟩
   exact⟨e1,hM b (by simp) cs e2⟩
  ·rw[AX]
   exact ih i hx λx ab cs' e=>hM x (by
    simp only[AP,BH,BF]
    exact .inr (.inr ⟨i,hx,ab⟩)) cs' e
def MxL(M:Fr)(h:Za)(bs:List Nat):Fr:=λi=>if i∈bs then(match h[i]? with
 |some (.cells cs _ _)=>some cs
 |_=>none)else M i
theorem MxL.ag{M:Fr}{h:Za}(ag:AgM M h)(bs:List Nat):AgM (MxL M h bs) h:=by
 intro b c e
 unfold MxL at e
 split at e
 ·split at e
  ·rename_i cs T m hb
   cases e;exact⟨T,m,hb⟩
  ·cases e
 ·exact ag b c e
theorem MxL.later{h0 h:Za}(ag:AgM M h0)(k:Keep h0.size h0 h)(hb:∀b∈bs,h0.size<=b):Later h0 M h (MxL M h bs) where
 keep:=k
 le:=λb c e=>by
  have:=ag.lt e
  unfold MxL;rw[if_neg (λhm=>by have:=hb b hm;omega)];exact e
 old:=λb hlt=>by unfold MxL;rw[if_neg (λhm=>by have:=hb b hm;omega)]
 ag:=MxL.ag (ag.keep k) bs
theorem MxL.at(hb:b∈bs)(e:Blk h b cs):MxL M h bs b=some cs:=by
 obtain⟨T,e⟩:=e
 unfold MxL;rw[if_pos hb,e]
theorem OT.rdv{cells:List Value}(H:OT h v bs cells):RdV (MxL M h bs) .tree v (.agg cells.toArray):=by
 unfold RdV
 simp only[zom,if_true]
 exact⟨cells,rfl,H.rd λb hb cs e=>MxL.at hb e⟩
def upd(cs:Array Value)(o:Nat)(vs:List Value):Array Value:=(cs.toList.take o++vs++cs.toList.drop (o+vs.length)).toArray
theorem zm2(h:o+vs.length<=cs.size):(upd cs o vs).size=cs.size:=by
 unfold upd;simp;omega
theorem zm3(h:o+vs.length<=cs.size)(q:Nat):(upd cs o vs).toList[q]?=if q<o then cs.toList[q]? else if q<o+vs.length then vs[q-o]? else cs.toList[q]?:=by
 unfold upd
 exact W6 (by simpa using h) q
theorem Z3{o n i:Nat}:(cut cs o n)[i]?=if i<n then cs.toList[o+i]? else none:=by
 unfold cut
 rw[AR]
 split
 ·rw[AY]
 ·rfl
theorem z7n(h:o+vs.length<=cs.size):cut (upd cs o vs) o vs.length=vs:=by
 apply BB
 intro i
 rw[Z3]
 split
 ·rw[zm3 h,if_neg (by omega),if_pos (by omega)];congr 1;omega
 ·rw[Ce (by omega)]
theorem zwf{o p n:Nat}(h:o+vs.length<=cs.size)(Z:p+n<=o\/o+vs.length<=p):cut (upd cs o vs) p n=cut cs p n:=by
 apply BB
 intro i
 rw[Z3,Z3]
 split
 ·rw[zm3 h]
  split
  ·rfl
  ·rw[if_neg (by omega)]
 ·rfl
theorem zhc{P:Program}{t:TypeId}(hi:Z6 P t=true)(H:Blk h b cs){v:Value}(hc:v.cells.toList=vs)(hs:Qh P t=vs.length)(hl:o+vs.length<=cs.size)(h1:∀u∈vs,u.oneCell'=true){K:Za->Prop}
  (hK:∀h':Za,Blk h' b (upd cs o vs)->h'.size=h.size->(∀j,j≠b->h'[j]?=h[j]?)->K h'):XRunU P (AI t (.pointer (some ⟨b,o,none⟩)) v) h K:=by
 intro B d
 obtain⟨T,e⟩:=H
 have Z:v.cells.size=vs.length:=by rw[<-hc];simp
 obtain⟨h',r1,r2,r3,r4⟩:=za2 (P:=P) hi hs e Z hl (by rw[hc];exact h1) B d
 refine⟨d,h',r1,hK h' ⟨T,?_⟩ r3 r4⟩
 rw[r2]
 unfold upd
 rw[hc]
theorem Blk.ofKeep(H:Blk h b cs)(k:Keep h.size h h'):Blk h' b cs:=H.keepN k H.lt
theorem zt9(ag:AgM M h)(bs:List Nat):Fr.le M (MxL M h bs):=by
 intro b c e
 unfold MxL
 split
 ·obtain⟨T,m,e'⟩:=ag b c e
  rw[e']
 ·exact e
end
end Go.X
end
section
namespace Go.X
section
theorem z7o:ElemT Tp 23 9 (.string ⟨#[]⟩) 1 16:=⟨by kernel_rfl,⟨Tryz.t9,by kernel_rfl,by kernel_rfl,by kernel_rfl,by kernel_rfl⟩,rfl,by omega⟩
theorem z2v:ElemT Tp 24 26 (.agg #[.int .i64 0,.string ⟨#[]⟩,.slice none 0 0,.slice none 0 0]) 4 72:=⟨by kernel_rfl,⟨Tryz.t26,by kernel_rfl,by kernel_rfl,by kernel_rfl,by kernel_rfl⟩,rfl,by omega⟩
theorem Owns.blk{h:Za}{base:Nat}{e:TypeId}{sz:Nat}{s:Sl}{cells:List Value}(H:Owns h base e sz s cells):(s.len=0/\cells=[]/\s.cap=0)\/∃b cs,s.a=some ⟨b,0,none⟩/\base<=b/\Blk h b cs/\s.cap*sz<=cs.size/\cut cs 0 (s.len*sz)=cells/\s.len<=s.cap:=by
 rcases H.2 with⟨hv,h0⟩|⟨g,cap,aa,hv,hb,hg,ab,hm,Z,ht⟩
 ·left
  have:=H.1
  rw[h0,Ef]at this
  simp only[A4]at hv
  exact⟨h0,Bb this,hv.2.2⟩
 ·right
  simp only[A4]at hv
  refine⟨g,aa,hv.1,hb,⟨e,hg⟩,?_,by unfold cut;rw[Cc];exact ht,by rw[hv.2.2];exact ab⟩
  rw[Z,hv.2.2];exact Av _
def zpk(k:Int)(s:Bt)(sk si:Sl):List Value:=[.int .i64 k,.string s,slV sk,slV si]
structure CI (h2 h':Za) (M:Fr) (v:Tr) (b1 b2:Nat) (s1 s2:Sl) (bk bb:List Nat) (b:Nat) (cs:Array Value) (bf:Nat->List Nat) (k:Nat):Prop where
 ag:AgM M h'
 box1:Blk h' b1 (zpk v.kind v.text s1 s2).toArray
 box2:∃c2:Array Value,Blk h' b2 c2/\c2.size=4
 keys:OKeys h' v.keys bk s1
 hz:(v.items=[]/\bb=[]/\s2.cap=0)\/(bb=[b]/\s2.a=some ⟨b,0,none⟩/\Blk h' b cs/\s2.cap*4<=cs.size)
 did:∀i (hx:i<v.items.length),i<k->OT h' v.items[i] (bf i) (cut cs (i*4) 4)
 todo:∀i (hx:i<v.items.length),k<=i->RdV M .tree v.items[i] (.agg (cut cs (i*4) 4).toArray)
 nd:(bk++(bb++(BS k).flatMap bf)).Nodup
 big:∀x∈bk++(bb++(BS k).flatMap bf),h2.size<=x
end
end Go.X
end
section
namespace Go.X
open Go Go.Lib
section
structure PS (l:List Bt):Prop where
 n:l.length<=200
 s:∀x∈l,(lb x).length<=1024
def zpl(l:List Bt):Bool:=decide (l.length<=64)&&l.all λs=>Ys (lb s)
end
end Go.X
end
section
namespace Go.X
section
variable {gl:Fr} {R:Tr -> Prop}
theorem z5a{l:List Tr}(h:R (.mk 5 ⟨#[]⟩ [] l)):PC Tp gl 29 [Arg.mk (.row .tree) l] [.tree] R:=by
 apply zgt;exact h
theorem qa1(hg:GL gl){n:Int}(h1:-1000000<=n)(h2:n<=1000000)(h:R (.mk 3 (bl (We (Zh (Lib.itoa n)).1)) [] [])):PC Tp gl 58 [Arg.mk (.int .i64) n] [.tree] R:=by
 apply zo2
 refine qdh hg.pow (by omega) (by omega) ?_
 exact zrw hg.pow (zcj _ (by have:=Go.X.itoa_len n;omega)) h
theorem zze{gl:Fr}(a b:Tr){R:Bool->Prop}(h:∀r,(r=true↔a=b)->R r):PC Tp gl 16 [Arg.mk .tree a,Arg.mk .tree b] [.bool] R:=by
 refine PC.bd λah=>?_
 have hb:a.keys.length<=140737488355328/\a.items.length<=140737488355328:=ah ⟨.tree,a⟩ (by simp)
 apply zd4
 have te:∀s t:Bt,(s.toList==t.toList)=decide (s=t):=λs t=>by
  rw[zaj,zaj,A6,beq_iff_eq,decide_eq_true_eq];exact zo5
 simp only[te]
 refine⟨λhx=>h _ ⟨λe=>(by cases e),λe=>?_⟩,λhx=>?_⟩
 ·subst e;simp at hx
 ·have ai:a.kind=b.kind/\a.text=b.text/\a.keys.length=b.keys.length/\a.items.length=b.items.length:=by
   simp at hx
   obtain⟨⟨⟨h1,h2⟩,h3⟩,h4⟩:=hx
   exact⟨h1,h2,by omega,by omega⟩
  obtain⟨q1,q2,q3,q4⟩:=ai
  refine⟨λi=>∃k:Nat,i=k/\k<=a.keys.length/\a.keys.take k=b.keys.take k,λi=>a.keys.length-i.toNat,⟨0,rfl,by omega,by simp⟩,?_⟩
  rintro i ⟨k,rfl,hk,h1⟩
  refine⟨λhc=>?_,λhc=>?_⟩
  ·have aa:k<a.keys.length:=by simp at hc;omega
   have af:k<b.keys.length:=by omega
   refine⟨a.keys[k],⟨by omega,z7m aa⟩,b.keys[k],⟨by omega,z7m af⟩,λhq=>h _ ⟨λe=>(by cases e),λe=>?_⟩,λhq=>?_⟩
   ·subst e;simp at hq
   ·have ab:a.keys[k]=b.keys[k]:=by simpa using hq
    rw[zj4 aa (by omega)]
    refine⟨⟨k+1,rfl,by omega,?_⟩,by simp only[AK];omega⟩
    rw[Ba aa,Ba af,h1,ab]
  ·have aa:k=a.keys.length:=by simp at hc;omega
   subst aa
   rw[BL,q3,BL]at h1
   refine⟨λi=>∃k:Nat,i=k/\k<=a.items.length/\a.items.take k=b.items.take k,λi=>a.items.length-i.toNat,⟨0,rfl,by omega,by simp⟩,?_⟩
   rintro i ⟨k,rfl,hk,h2⟩
   refine⟨λhd=>?_,λhd=>h _ ⟨λ_=>?_,λ_=>rfl⟩⟩
   ·have Z:k<a.items.length:=by simp at hd;omega
    have ae:k<b.items.length:=by omega
    refine⟨a.items[k],⟨by omega,zzd Z⟩,b.items[k],⟨by omega,zzd ae⟩,?_⟩
    rw[zt8,zt8]
    have aj:=zt4 (BG Z)
    refine zze a.items[k] b.items[k] λr hr=>⟨λhq=>h _ ⟨λe=>(by cases e),λe=>?_⟩,λhq=>?_⟩
    ·subst e
     rw[hr.2 rfl]at hq;cases hq
    ·have ab:a.items[k]=b.items[k]:=hr.1 (by simpa using hq)
     rw[zj4 Z (by omega)]
     refine⟨⟨k+1,rfl,by omega,?_⟩,by simp only[AK];omega⟩
     rw[Ba Z,Ba ae,h2,ab]
   ·have Z:k=a.items.length:=by simp at hd;omega
    subst Z
    rw[BL,q4,BL]at h2
    have:=zt8 a
    rw[q1,q2,h1,h2,zt8]at this
    exact this.symm
termination_by tsz a
end
end Go.X
end
section
namespace Go.X
open Go Go.Lib
section
structure IsCmp {α:Type} (c:α->α->Int):Prop where
 rng:∀a b,c a b=-1\/c a b=0\/c a b=1
 eq0:∀a b,c a b=0↔a=b
 swap:∀a b,c b a=-c a b
 tr:∀a b d,c a b<=0->c b d<=0->c a d<=0
end
end Go.X
end
section
namespace Go.X
section
structure SL (l:List Bt):Prop where
 n:l.length<=1000000
 s:∀x∈l,(lb x).length<=1048576
theorem PS.sl{l:List Bt}(h:PS l):SL l:=⟨by have:=h.n;omega,λx hx=>by have:=h.s x hx;omega⟩
end
end Go.X
end
section
namespace Go.X
open Go Go.Proofs Go.Shelf Go.RowKit
section
def zfz:Go.Shelf.Ren:=⟨fun|169=>87|n=>n,fun|70=>109|9=>9|0=>0|72=>112|37=>110|127=>181|3=>3|5=>5|n=>n,fun|n=>n⟩
theorem zzf:Go.Proofs.Lays.n169 Tp zfz:={
 mixed:=by kernel_rfl
 f169:=LF Tryz.func87
 t0:=Cw
 a0:=Di
 z0:=C9
 v0:=CE
 t3:=BZ
 a3:=CJ
 z3:=Cy
 v3:=Cg
 t9:=BM
 a9:=CL
 z9:=CB
 v9:=Cj
 t37:=Tryz.underlying110
 a37:=Tryz.isAgg110
 z37:=Tryz.sizeOf110
 v37:=Tryz.zeroValue110
 t70:=Tryz.underlying109
 a70:=Tryz.isAgg109
 z70:=Tryz.sizeOf109
 v70:=Tryz.zeroValue109
 t72:=Tryz.underlying112
 a72:=Tryz.isAgg112
 z72:=Tryz.sizeOf112
 v72:=Tryz.zeroValue112
 t127:=Tryz.underlying181
 a127:=Tryz.isAgg181
 z127:=Tryz.sizeOf181
 v127:=Tryz.zeroValue181 }
theorem zeh:Builder.Extra Tp zfz:={
 sizeBuilder:=by kernel_rfl
 liesBuilder:=by kernel_rfl
 t5:=BU
 a5:=CK
 z5:=Cz
 v5:=Ci
 infoByte:=by kernel_rfl
 cellsByte:=by kernel_rfl
 sizeByte:=by kernel_rfl
 neB5:=by decide }
theorem zdc(B b:Nat)(l:List UInt8)(w:World)(h:Lib.IsBuilder 112 5 B b (Lib.byteCells l) w)(Z:B<=w.heap.size):
  Calls Tp 87 #[.pointer (some ⟨b,0,none⟩)] w λe w'=>e=.returned (.string ⟨l.toArray⟩)/\Below B w w':=Any.Builder_String_any zzf zeh B b l w h Z
def zm4:Go.Shelf.Ren:=⟨fun|153=>265|152=>269|226=>293|227=>143|228=>214|137=>212|119=>300|224=>301|225=>302|217=>268|266=>299|n=>n,fun|9=>9|3=>3|4=>4|5=>5|21=>21|117=>170|116=>169|0=>0|46=>177|124=>173|n=>n,fun|n=>n⟩
theorem zzg:Go.Proofs.Lays.n153 Tp zm4:={
 mixed:=by kernel_rfl
 f119:=LF Tryz.func300
 f137:=LF Eg
 f152:=LF Tryz.func269
 f153:=LF Tryz.func265
 f217:=LF Tryz.func268
 f224:=LF Tryz.func301
 f225:=LF Tryz.func302
 f226:=LF Tryz.func293
 f227:=LF Tryz.func143
 f228:=LF Tryz.func214
 f266:=LF Tryz.func299
 t0:=Cw
 a0:=Di
 z0:=C9
 v0:=CE
 t3:=BZ
 a3:=CJ
 z3:=Cy
 v3:=Cg
 t4:=B6
 a4:=CQ
 z4:=CF
 v4:=Co
 t5:=BU
 a5:=CK
 z5:=Cz
 v5:=Ci
 t9:=BM
 a9:=CL
 z9:=CB
 v9:=Cj
 t21:=C6
 a21:=DV
 z21:=DF
 v21:=Dd
 t46:=Tryz.underlying177
 a46:=Tryz.isAgg177
 z46:=Tryz.sizeOf177
 v46:=Tryz.zeroValue177
 t116:=Tryz.underlying169
 a116:=Tryz.isAgg169
 z116:=Tryz.sizeOf169
 t117:=Tryz.underlying170
 a117:=Tryz.isAgg170
 z117:=Tryz.sizeOf170
 v117:=Tryz.zeroValue170
 t124:=Tryz.underlying173
 a124:=Tryz.isAgg173
 z124:=Tryz.sizeOf173
 v124:=Tryz.zeroValue173 }
open Go.RowKit Go.Lib in
theorem zbi(ab:∀w,(zeroValue 169).run Tp w=.ok (.agg (Br 256 (.bool false))) w)(s Z:Bt)(w:World)(h2:2<=Z.size)(h8:8<s.size)(hs:s.size<4294967281)(ae:Z.size<4294967281)(aa:∀(j:Nat) b,Z.data.toList[j]?=some b->b.toNat<128):
  Calls Tp 265 #[.string s,.string Z] w λe w'=>e=.returned (.int .i64 (Lib.indexAny s.data.toList Z.data.toList))/\w'=((w.alloc (.cells (Lib.setCells Z.data.toList) 169)).alloc (.cells (Lib.setCells Z.data.toList) 169)):=Any.strings_IndexAny_long zzg ab (by kernel_rfl) s Z w h2 h8 hs ae aa
end
end Go.X
end
section
namespace Go.X
open Go Go.X Go.Proofs Go.RowKit
section
variable {h h':Za} {b:Nat} {l:Bs} {cs:Array Value} {s:Sl} {K:Value -> Za -> Prop}
def Bld(h:Za)(b:Nat)(l:Bs):Prop:=∃(p:Option Addr) (s:Sl),h[b]?=some (.cells #[.pointer p,slV s] 112 (0,0))/\(p=none\/p=some ⟨b,0,none⟩)/\Owns h (b+1) 5 1 s (Lib.byteCells l)
theorem Bld.lt(H:Bld h b l):b<h.size:=by
 obtain⟨p,s,e,_⟩:=H
 rcases A1 b h.size with q|q
 ·exact q
 ·rw[Array.getElem?_eq_none q]at e;cases e
theorem Bld.keep(H:Bld h b l)(k:Keep h.size h h'):Bld h' b l:=by
 have Z:=H.lt
 obtain⟨p,s,e,hp,ho⟩:=H
 exact⟨p,s,by rw[k.get b Z];exact e,hp,ho.keepN k⟩
theorem Bld.new(h:Za):Bld (h.push (.cells #[.pointer none,.slice none 0 0] 112)) h.size []:=
 ⟨none,⟨none,0,0⟩,Jh _ _,.inl rfl,Owns.nil _ _ _ _⟩
theorem zzh:(A7.info? 112).map (·.size)=some 2:=by kernel_rfl
theorem z7p:liesAt Tp A7.depth 112 (2 / A7.cellsOf 112) 0 112 1=true:=by kernel_rfl
theorem zzi:A7.underlying 109=some (.pointer 112):=by kernel_rfl
theorem zzj:A7.underlying 234=some .unsafePointer:=by kernel_rfl
set_option maxHeartbeats 1000000 in
set_option maxRecDepth 100000 in
theorem zwg(b:Nat)(w:World)(h0:w.cell? ⟨b,0,none⟩=some (.pointer (some ⟨b,0,none⟩))):
  Calls Tp 152 #[.pointer (some ⟨b,0,none⟩)] w λe w'=>e=.returned (.tuple #[])/\w'=w:=by
 obtain⟨j,hj,_⟩:=CO.1 zzh
 have mixed:=Tryz.mixed
 go_enter Tryz.func152,Tryz.ntmps152
 go_wp2
 rw[Lib.run_neq_ptr_same w _ zzi hj]
 go_wp2
 go_end0
 exact⟨rfl,rfl⟩
set_option maxHeartbeats 1000000 in
set_option maxRecDepth 100000 in
theorem zr0(b:Nat)(w:World)(h0:w.cell? ⟨b,0,none⟩=some (.pointer none))(Z:w.shape? b=some (112,2))(ab:w.frozen? ⟨b,0,none⟩=false):
  Calls Tp 152 #[.pointer (some ⟨b,0,none⟩)] w λe w'=>e=.returned (.tuple #[])/\w'=w.setCell ⟨b,0,none⟩ (.pointer (some ⟨b,0,none⟩)):=by
 obtain⟨j,hj,aa⟩:=CO.1 zzh
 have mixed:=Tryz.mixed
 go_enter Tryz.func152,Tryz.ntmps152
 go_wp2
 rw[Lib.run_to_unsafe w ⟨b,0,none⟩ zzi zzj hj (by rw[aa];decide) Z (Nat.zero_lt_succ 1)]
 simp only[Result.andThen]
 rw[Oper.upon_value]
 go_wp2
 rw[run_callFunc_extern Tryz.func219 (by kernel_rfl) (by kernel_rfl) (by kernel_rfl) (e:=Extern.AbiNoEscape.same) (by kernel_rfl)]
 rw[Lib.run_noEscape]
 simp only[Result.andThen]
 rw[Oper.upon_value]
 go_wp2
 rw[Lib.run_from_unsafe w ⟨b,0,none⟩ zzj zzi hj Z z7p]
 simp only[Result.andThen]
 rw[Oper.upon_value]
 go_wp2
 go_end0
 exact⟨rfl,rfl⟩
theorem zwh{b o:Nat}{T:TypeId}(e:h[b]?=some (.cells cs T (0,0)))(v:Value)(B:World)(d:Nat):(mk B d h).setCell ⟨b,o,none⟩ v=mk B d (h.setIfInBounds b (.cells (cs.setIfInBounds o v) T (0,0))):=by
 unfold World.setCell mk
 simp only
 congr 1
 have hb:b<h.size:=(Au.1 e).1
 apply Array.ext_getElem?
 intro i
 rw[Array.getElem?_modify]
 by_cases hi:i=b
 ·subst hi
  have e':h[i]=.cells cs T (0,0):=by
   have:=A0 hb
   rw[e]at this
   exact(AL this).symm
  simp[hb,e']
 ·rw[if_neg (Ne.symm hi),A3 (Ne.symm hi)]
theorem Keep.ne(hs:h'.size=h.size)(hf:∀i,i≠b->h'[i]?=h[i]?):Keep b h h':=⟨by omega,λi hi=>hf i (by omega)⟩
def Itk(h h':Za):Prop:=∀(i:Nat) (s:Bt) (p:Nat),h[i]?=some (.stringIter s p)->h'[i]?=some (.stringIter s p)
theorem Itk.trans{a b c:Za}(x:Itk a b)(y:Itk b c):Itk a c:=λi s p e=>y i s p (x i s p e)
theorem Itk.keep(k:Keep h.size h h'):Itk h h':=λi s p e=>by
 have hi:i<h.size:=(Au.1 e).1
 rw[k.get i hi];exact e
theorem Itk.ne{T:TypeId}{m:Nat×Nat}(e:h[b]?=some (.cells cs T m))(f:∀i,i≠b->h'[i]?=h[i]?):Itk h h':=λi s p ei=>by
 by_cases hi:i=b
 ·subst hi;rw[e]at ei;cases ei
 ·rw[f i hi];exact ei
theorem Itk.own{base:Nat}{e:TypeId}{sz:Nat}{xs:List Value}(H:Owns h base e sz s xs)(f:∀i,i<h.size->(∀p,s.a=some p->i≠p.block)->h'[i]?=h[i]?):Itk h h':=λi t p ei=>by
 have hi:i<h.size:=(Au.1 ei).1
 rw[f i hi λq hq aa=>?_]
 ·exact ei
 ·rcases H.2 with⟨hv,_⟩|⟨g,cap,Z,hv,_,hg,_⟩
  ·rw[hq]at hv;cases hv
  ·have hg:h[g]?=some (.cells Z e (0,0)):=hg
   rw[hq]at hv
   injection hv with e1 _ _
   injection e1 with e1
   rw[aa,e1]at ei
   rw[hg]at ei;cases ei
theorem chk(H:Bld h b l)(hK:∀h',Bld h' b l->Keep b h h'->h'.size=h.size->Itk h h'->K (.tuple #[]) h'):XC Tp 152 #[.pointer (some ⟨b,0,none⟩)] h K:=by
 have aa:=H.lt
 obtain⟨p,s,e,hp,ho⟩:=H
 have Z:∀B d,(mk B d h).cell? ⟨b,0,none⟩=some (.pointer p):=λB d=>by
  have:(mk B d h).heap[b]?=some (.cells #[.pointer p,slV s] 112 (0,0)):=e
  simp[World.cell?,this]
 rcases hp with rfl|rfl
 ·refine XC.of_calls λB d=>(zr0 b (mk B d h) (Z B d) ?_ ?_).mono ?_
  ·have:(mk B d h).heap[b]?=some (.cells #[.pointer none,slV s] 112 (0,0)):=e
   simp[World.shape?,this]
  ·exact zkp ⟨_,e⟩ B d
  ·rintro e' w' ⟨rfl,rfl⟩
   rw[zwh e]
   refine⟨_,rfl,rfl,rfl,rfl,?_⟩
   show K _ (h.setIfInBounds b _)
   refine hK _ ⟨_,s,?_,.inr rfl,?_⟩ ?_ (by simp) (Itk.ne e λi hi=>A3 (Ne.symm hi))
   ·rw[Array.getElem?_setIfInBounds_self_of_lt aa];rfl
   ·refine ho.keep λq hq=>?_
    have:=ho.base_le q hq
    rw[A3 (by omega)]
   ·exact Keep.setBlk _ (Av _)
 ·refine XC.of_calls λB d=>(zwg b (mk B d h) (Z B d)).mono ?_
  rintro e' w' ⟨rfl,rfl⟩
  exact⟨_,rfl,rfl,rfl,rfl,hK _ ⟨_,s,e,.inr rfl,ho⟩ (Keep.refl _ _) rfl (Itk.keep (Keep.refl _ _))⟩
theorem elemU8:ElemT Tp 110 5 (.int .u8 0) 1 1:=⟨by kernel_rfl,⟨Tryz.t5,by kernel_rfl,by kernel_rfl,by kernel_rfl,by kernel_rfl⟩,rfl,by omega⟩
theorem qel:A7.underlying 9=some .string:=by kernel_rfl
theorem z7q:Z6 Tp 110=true:=by kernel_rfl
theorem z7r:Qh Tp 110=1:=by kernel_rfl
theorem zzk{p:Option Addr}{s s0:Sl}(e:h[b]?=some (.cells #[.pointer p,slV s0] 112 (0,0)))(hp:p=none\/p=some ⟨b,0,none⟩)(ho:Owns h (b+1) 5 1 s (Lib.byteCells l)){K:Za->Prop}
  (hK:∀h',Bld h' b l->Keep b h h'->h'.size=h.size->Itk h h'->K h'):XRunU Tp (AI 110 (.pointer (some ⟨b,1,none⟩)) (.slice s.a s.len s.cap)) h K:=by
 intro B d
 obtain⟨h',r1,r2,r3,r4⟩:=za2 (P:=Tp) z7q z7r e (o:=1) (v:=slV s) rfl (by simp) (by simp[slV,Value.cells,Value.oneCell']) B d
 refine⟨d,h',r1,hK h' ⟨p,s,?_,hp,?_⟩ (Keep.ne r3 r4) r3 (Itk.ne e r4)⟩
 ·rw[r2];rfl
 ·refine ho.keep λq hq=>?_
  have:=ho.base_le q hq
  exact r4 _ (by omega)
theorem zbj(H:Bld h b l)(hl:l.length<140737488355328)(c:UInt8)(hK:∀h',Bld h' b (l++[c])->Keep b h h'->Itk h h'->K .nilIface h'):
  XC Tp 81 #[.pointer (some ⟨b,0,none⟩),.int .u8 (c.toNat:Int)] h K:=by
 apply Wz
 refine chk H λh2 H2 k2 z2 i2=>⟨rfl,_,rfl,?_⟩
 have aa:=H2.lt
 obtain⟨p,s,e,hp,ho⟩:=H2
 have Z:=ho.1
 rw[Lib.byteCells_length,C5]at Z
 refine⟨s,Blk.cellAdd (o:=0) (k:=1) (cs:=#[.pointer p,slV s]) ⟨_,e⟩ rfl,?_⟩
 intro h5
 have k5:Keep h2.size h2 h5:=Keep.push _ _ (Av _)
 have s5:h5.size=h2.size+1:=AM _
 have b5:Blk h5 h2.size #[.int .u8 (c.toNat:Int)]:=Blk.new _ _ _
 have e5:h5[b]?=some (.cells #[.pointer p,slV s] 112 (0,0)):=by rw[k5.get b aa];exact e
 have o5:=ho.keepN k5
 clear_value h5
 refine zvd elemU8 o5 (src:=⟨some ⟨h2.size,0,none⟩,1,1⟩) (news:=[.int .u8 (c.toNat:Int)]) (n:=h5.size) ?_ rfl (by simp[Value.oneCell']) (by simp only;omega) (by simp only;omega) (by omega) λs' h6 q1 q2 q3 q4 q5=>⟨s',rfl,_,rfl,?_⟩
 ·refine .inr ⟨h2.size,0,rfl,by omega,λi v hv=>?_⟩
  match i,hv with
  |0,hv=>cases hv;exact b5.cell rfl
 ·have e6:h6[b]?=some (.cells #[.pointer p,slV s] 112 (0,0)):=by
   rw[q3 b (by omega) λq hq=>by have:=ho.base_le q hq;omega];exact e5
  have o6:Owns h6 (b+1) 5 1 s' (Lib.byteCells (l++[c])):=by
   have:Lib.byteCells (l++[c])=Lib.byteCells l++[.int .u8 (c.toNat:Int)]:=by unfold Lib.byteCells;rw[CG];rfl
   rw[this];exact q2
  have kk:Keep b h h6:=k2.trans ⟨by omega,λi hi=>by
   rw[q3 i (by omega) λq hq=>by have:=ho.base_le q hq;omega]
   exact k5.get i (by omega)⟩ (Av _)
  refine zzk e6 hp o6 λh7 H7 k7 z7 i7=>hK h7 H7 (kk.trans k7 (Av _)) (i2.trans ((Itk.keep k5).trans ((Itk.own o5 q3).trans i7)))
theorem zm5(H:Bld h b l)(t:Bs)(hl:l.length+t.length<=140737488355328)(hK:∀h',Bld h' b (l++t)->Keep b h h'->Itk h h'->K (.tuple #[.int .i64 (t.length:Int),.nilIface]) h'):
  XC Tp 85 #[.pointer (some ⟨b,0,none⟩),.string (bl t)] h K:=by
 apply Wh
 refine chk H λh2 H2 k2 z2 i2=>⟨rfl,_,rfl,?_⟩
 have ab:=H2.lt
 obtain⟨p,s,e,hp,ho⟩:=H2
 have aa:=ho.1
 rw[Lib.byteCells_length,C5]at aa
 refine⟨s,Blk.cellAdd (o:=0) (k:=1) (cs:=#[.pointer p,slV s]) ⟨_,e⟩ rfl,?_⟩
 have Z:=Zf t
 refine zgm elemU8 ho (x:=.string (bl t)) (m:=(bl t).size) (news:=Lib.byteCells t) (λB d=>?_) (by rw[Z];omega) (by rw[Z];omega) (by omega) λs' h6 q1 q2 q3 q4 q5=>⟨s',rfl,_,rfl,?_⟩
 ·have:=Src.ofString (P:=Tp) (w:=mk B d h2) qel (bl t)
  have e2:byteCells (bl t)=Lib.byteCells t:=by
   unfold byteCells Lib.byteCells
   have:(bl t).data.toList=t:=Yh t
   rw[this]
  rw[e2]at this;exact this
 ·have e6:h6[b]?=some (.cells #[.pointer p,slV s] 112 (0,0)):=by
   rw[q3 b (by omega) λq hq=>by have:=ho.base_le q hq;omega];exact e
  have o6:Owns h6 (b+1) 5 1 s' (Lib.byteCells (l++t)):=by
   have:Lib.byteCells (l++t)=Lib.byteCells l++Lib.byteCells t:=by unfold Lib.byteCells;rw[CG]
   rw[this];exact q2
  have kk:Keep b h h6:=k2.trans ⟨by omega,λi hi=>q3 i (by omega) λq hq=>by have:=ho.base_le q hq;omega⟩ (Av _)
  refine zzk e6 hp o6 λh7 H7 k7 z7 i7=>?_
  rw[Z]
  exact hK h7 H7 (kk.trans k7 (Av _)) (i2.trans ((Itk.own ho q3).trans i7))
theorem zua(H:Bld h b l)(hK:∀h',Keep b h h'->K (.string (bl l)) h'):XC Tp 87 #[.pointer (some ⟨b,0,none⟩)] h K:=by
 have aa:=H.lt
 obtain⟨p,s,e,hp,ho⟩:=H
 refine XC.of_calls λB d=>(zdc b b l (mk B d h) ?_ (Nat.le_of_lt aa)).mono ?_
 ·have hb:Lib.BuilderAt 112 5 b b (.pointer p) (Lib.byteCells l) (mk B d h):=by
   refine⟨Av _,slV s,e,?_,?_⟩
   ·have h1:=ho.1
    rw[C5]at h1
    rw[h1]
    exact ho.base (Nat.le_succ b)
   ·intro hq
    cases ha:s.a with
    |none=>rw[slV,ha]at hq;cases hq
    |some q=>
     have:=ho.base_le q ha
     rw[slV,ha]at hq
     have:q.block=b:=by simpa[Value.ownBlock]using hq
     omega
  rcases hp with rfl|rfl
  ·exact .inl hb
  ·exact .inr hb
 ·rintro e' w' ⟨rfl,Z⟩
  exact⟨_,rfl,Z.os,Z.tape,Z.output,hK _ ⟨Z.size,Z.block⟩⟩
end
end Go.X
end
section
namespace Go.X
section
theorem zpm(gl:Fr)(d0:Bt×List (Int×(Int×Int)×(Int×Int)×(List Int)×List (Int×Int)))(k1:Int)(R:(Tr×Bool)->Prop)
  (H:((bif (decide (k1<0))then true else(decide (k1>=d0.2.length)))=true->R (Tr.mk 0 (⟨#[]⟩:Bt) [] [],false))/\((bif (decide (k1<0))then true else(decide (k1>=d0.2.length)))=false->PC Tp gl 59 [Arg.mk (.pair .str (.row (.pair (.int .i64) (.pair (.pair (.int .i64) (.int .i64)) (.pair (.pair (.int .i64) (.int .i64)) (.pair (.row (.int .i64)) (.row (.pair (.int .i64) (.int .i64))))))))) (d0.1,d0.2),Arg.mk (.int .i64) k1,Arg.mk (.int .i64) 1] [.tree] (λa:Tr=>R (Tr.mk a.kind a.text a.keys a.items,true)))):
  PC Tp gl 21 [Arg.mk (.pair .str (.row (.pair (.int .i64) (.pair (.pair (.int .i64) (.int .i64)) (.pair (.pair (.int .i64) (.int .i64)) (.pair (.row (.int .i64)) (.row (.pair (.int .i64) (.int .i64))))))))) d0,Arg.mk (.int .i64) k1] [.tree,.bool] R:=
 PF ⟨[],[],[],[]⟩ [.cell 4 26,.tmp 5] 19 Tryz.func21 H
theorem zwi(gl:Fr)(d0:Bt×List (Int×(Int×Int)×(Int×Int)×(List Int)×List (Int×Int)))(Z:List Bt)(R:(Int×Bool)->Prop)
  (H:∃a:Bool->Prop,((!((d0.2.length:Int)==0))=true->PC Tp gl 70 [Arg.mk (.row .str) Z] [.bool] a)/\∀b:Bool,((!((d0.2.length:Int)==0))=true->a b)->((bif ((d0.2.length:Int)==0)then true else(!b))=true->R (0,false))/\((bif ((d0.2.length:Int)==0)then true else(!b))=false->∃(c:Int->Int->Prop) (d:Int->Int->Nat),c 0 0/\∀e f:Int,c e f->((decide (f<Z.length)=true->∃g,(0<=f/\Z[f.toNat]?=some g)/\PC Tp gl 71 [Arg.mk (.pair .str (.row (.pair (.int .i64) (.pair (.pair (.int .i64) (.int .i64)) (.pair (.pair (.int .i64) (.int .i64)) (.pair (.row (.int .i64)) (.row (.pair (.int .i64) (.int .i64))))))))) (d0.1,d0.2),Arg.mk (.int .i64) e,Arg.mk .str g] [.int .i64] (λi:Int=>PC Tp gl 72 [Arg.mk (.pair .str (.row (.pair (.int .i64) (.pair (.pair (.int .i64) (.int .i64)) (.pair (.pair (.int .i64) (.int .i64)) (.pair (.row (.int .i64)) (.row (.pair (.int .i64) (.int .i64))))))))) (d0.1,d0.2),Arg.mk (.int .i64) i] [.bool] (λj:Bool=>((!j)=true->R (0,false))/\((!j)=false->(c i (Ar .i64 (f+1))/\d i (Ar .i64 (f+1))<d e f)))))/\(decide (f<Z.length)=false->R (e,true))))):
  PC Tp gl 23 [Arg.mk (.pair .str (.row (.pair (.int .i64) (.pair (.pair (.int .i64) (.int .i64)) (.pair (.pair (.int .i64) (.int .i64)) (.pair (.row (.int .i64)) (.row (.pair (.int .i64) (.int .i64))))))))) d0,Arg.mk (.row .str) Z] [.int .i64,.bool] R:=
 PF ⟨[],[],[(5,⟨[(6,.one (.dat (.int .i64))),(20,.one (.dat (.int .i64)))],[],[2],[100384,101280]⟩)],[]⟩ [.tmp 4,.tmp 5] 34 Tryz.func23 H
theorem zm6(gl:Fr)(d0:Bt×List (Int×(Int×Int)×(Int×Int)×(List Int)×List (Int×Int)))(s1:Int×Int)(R:Bt->Prop)
  (H:((bif (bif (decide (s1.1<0))then true else(decide (s1.1>s1.2)))then true else(decide (s1.2>d0.1.size)))=true->R (⟨#[]⟩:Bt))/\((bif (bif (decide (s1.1<0))then true else(decide (s1.1>s1.2)))then true else(decide (s1.2>d0.1.size)))=false->(0<=s1.1/\s1.1<=s1.2/\s1.2<=d0.1.size)/\R (d0.1.extract s1.1.toNat s1.2.toNat))):
  PC Tp gl 31 [Arg.mk (.pair .str (.row (.pair (.int .i64) (.pair (.pair (.int .i64) (.int .i64)) (.pair (.pair (.int .i64) (.int .i64)) (.pair (.row (.int .i64)) (.row (.pair (.int .i64) (.int .i64))))))))) d0,Arg.mk (.pair (.int .i64) (.int .i64)) s1] [.str] R:=
 PF ⟨[],[],[],[]⟩ [.tmp 4] 30 Tryz.func31 H
theorem zr1(gl:Fr)(d0:Bt×List (Int×(Int×Int)×(Int×Int)×(List Int)×List (Int×Int)))(k1:Int)(Z:Bt)(R:Int->Prop)
  (H:∃a:Int×(Int×Int)×(Int×Int)×(List Int)×List (Int×Int),(0<=k1/\d0.2[k1.toNat]?=some a)/\∃b:Int×(Int×Int)×(Int×Int)×(List Int)×List (Int×Int),(0<=k1/\d0.2[k1.toNat]?=some b)/\((b.1==5)=true->PC Tp gl 135 [Arg.mk .str Z] [.int .i64,.bool] (λc:Int×Bool=>((bif c.2 then(decide (c.1<a.2.2.2.1.length))else false)=true->∃d,(0<=c.1/\a.2.2.2.1[c.1.toNat]?=some d)/\R d)/\((bif c.2 then(decide (c.1<a.2.2.2.1.length))else false)=false->R (-1))))/\((b.1==5)=false->((b.1==6)=true->∃(e:Int->Prop) (f:Int->Nat),e 0/\∀g:Int,e g->((decide (g<a.2.2.2.1.length)=true->∃i,(0<=g/\a.2.2.2.1[g.toNat]?=some i)/\PC Tp gl 72 [Arg.mk (.pair .str (.row (.pair (.int .i64) (.pair (.pair (.int .i64) (.int .i64)) (.pair (.pair (.int .i64) (.int .i64)) (.pair (.row (.int .i64)) (.row (.pair (.int .i64) (.int .i64))))))))) (d0.1,d0.2),Arg.mk (.int .i64) i] [.bool] (λj:Bool=>∃k,(j=true->(0<=g/\a.2.2.2.1[g.toNat]?=some k))/\∃l:Bt->Prop,(j=true->PC Tp gl 112 [Arg.mk (.pair .str (.row (.pair (.int .i64) (.pair (.pair (.int .i64) (.int .i64)) (.pair (.pair (.int .i64) (.int .i64)) (.pair (.row (.int .i64)) (.row (.pair (.int .i64) (.int .i64))))))))) (d0.1,d0.2),Arg.mk (.int .i64) k] [.str] l)/\∀m:Bt,(j=true->l m)->((bif j then(m.toList==Z.toList)else false)=true->∃n,(0<=g/\a.2.2.2.1[g.toNat]?=some n)/\R n)/\((bif j then(m.toList==Z.toList)else false)=false->(e (Ar .i64 (g+1))/\f (Ar .i64 (g+1))<f g))))/\(decide (g<a.2.2.2.1.length)=false->R (-1))))/\((b.1==6)=false->R (-1)))):
  PC Tp gl 71 [Arg.mk (.pair .str (.row (.pair (.int .i64) (.pair (.pair (.int .i64) (.int .i64)) (.pair (.pair (.int .i64) (.int .i64)) (.pair (.row (.int .i64)) (.row (.pair (.int .i64) (.int .i64))))))))) d0,Arg.mk (.int .i64) k1,Arg.mk .str Z] [.int .i64] R:=
 PF ⟨[],[(11,14,[],[0,1,2,3,4,5,6,7,8,9,10,11,13,12],[])],[(9,⟨[(45,.one (.dat (.int .i64)))],[],[3],[102880]⟩)],[]⟩ [.tmp 6] 69 Tryz.func71 H
theorem zm7(gl:Fr)(d0:Bt×List (Int×(Int×Int)×(Int×Int)×(List Int)×List (Int×Int)))(k1:Int)(R:Bool->Prop)
  (H:R (bif (decide (k1>=0))then(decide (k1<d0.2.length))else false)):
  PC Tp gl 72 [Arg.mk (.pair .str (.row (.pair (.int .i64) (.pair (.pair (.int .i64) (.int .i64)) (.pair (.pair (.int .i64) (.int .i64)) (.pair (.row (.int .i64)) (.row (.pair (.int .i64) (.int .i64))))))))) d0,Arg.mk (.int .i64) k1] [.bool] R:=
 PF ⟨[],[],[],[]⟩ [.tmp 4] 14 Tryz.func72 H
theorem zpn(gl:Fr)(Z:Int)(s1:Bt)(R:Bt->Prop)
  (H:((Z==2)=true->R s1)/\((Z==2)=false->((Z==3)=true->PC Tp gl 25 [Arg.mk .str s1] [.pair .bool (.pair .str (.int .i64)),.int .i64] (λa:(Bool×Bt×Int)×Int=>PC Tp gl 26 [Arg.mk (.pair .bool (.pair .str (.int .i64))) (a.1.1,(a.1.2.1,a.1.2.2))] [.str] (λb:Bt=>R b)))/\((Z==3)=false->((Z==4)=true->PC Tp gl 196 [Arg.mk .str s1] [.str,.int .i64,.int .i64] (λc:Bt×Int×Int=>R c.1))/\((Z==4)=false->R (⟨#[]⟩:Bt))))):
  PC Tp gl 111 [Arg.mk (.int .i64) Z,Arg.mk .str s1] [.str] R:=
 PF ⟨[],[],[],[]⟩ [.tmp 4] 32 Tryz.func111 H
theorem zr2(gl:Fr)(d0:Bt×List (Int×(Int×Int)×(Int×Int)×(List Int)×List (Int×Int)))(k1:Int)(R:Bt->Prop)
  (H:∃a:Int×(Int×Int)×(Int×Int)×(List Int)×List (Int×Int),(0<=k1/\d0.2[k1.toNat]?=some a)/\PC Tp gl 31 [Arg.mk (.pair .str (.row (.pair (.int .i64) (.pair (.pair (.int .i64) (.int .i64)) (.pair (.pair (.int .i64) (.int .i64)) (.pair (.row (.int .i64)) (.row (.pair (.int .i64) (.int .i64))))))))) (d0.1,d0.2),Arg.mk (.pair (.int .i64) (.int .i64)) (a.2.2.1.1,a.2.2.1.2)] [.str] (λb:Bt=>PC Tp gl 196 [Arg.mk .str b] [.str,.int .i64,.int .i64] (λc:Bt×Int×Int=>R c.1))):
  PC Tp gl 112 [Arg.mk (.pair .str (.row (.pair (.int .i64) (.pair (.pair (.int .i64) (.int .i64)) (.pair (.pair (.int .i64) (.int .i64)) (.pair (.row (.int .i64)) (.row (.pair (.int .i64) (.int .i64))))))))) d0,Arg.mk (.int .i64) k1] [.str] R:=
 PF ⟨[],[(1,13,[],[0,1,2,3,4,5,6,7,8,9,10,11,12],[11,12])],[],[]⟩ [.tmp 4] 22 Tryz.func112 H
theorem zj8(gl:Fr)(Z:Int)(R:Int->Prop)
  (H:((Z==12)=true->R 1)/\((Z==12)=false->∀a:Bool->Prop,(∀b:Bool,((b=true->R 2)/\(b=false->((Z==9)=true->R 3)/\((Z==9)=false->((Z==8)=true->R 4)/\((Z==8)=false->((Z==4)=true->R 5)/\((Z==4)=false->((Z==2)=true->R 6)/\((Z==2)=false->R 0))))))->a b)->((Z==10)=true->a (Z==10))/\((Z==10)=false->a (Z==11)))):
  PC Tp gl 114 [Arg.mk (.int .i64) Z] [.int .i64] R:=
 PF ⟨[],[],[],[(6,⟨[(6,.one (.dat .bool))],[],[],[100384]⟩)]⟩ [.tmp 2] 17 Tryz.func114 H
theorem zhp(gl:Fr)(t0:Bt)(R:(Bt×Int×Int)->Prop)
  (H:PC Tp gl 253 [Arg.mk .str t0,Arg.mk (.int .i64) 0] [.str,.int .i64,.int .i64] (λa:Bt×Int×Int=>((bif (a.2.2==0)then(decide (a.2.1<t0.size))else false)=true->R ((⟨#[]⟩:Bt),a.2.1,2))/\((bif (a.2.2==0)then(decide (a.2.1<t0.size))else false)=false->R (a.1,a.2.1,a.2.2)))):
  PC Tp gl 196 [Arg.mk .str t0] [.str,.int .i64,.int .i64] R:=
 PF ⟨[],[],[],[]⟩ [.tmp 2,.tmp 3,.tmp 4] 26 Tryz.func196 H
theorem zm8(gl:Fr)(aa:Int)(Z:Int)(R:((Int×Int×Int)×Int)->Prop)
  (H:R ((0,(aa,aa)),Z)):
  PC Tp gl 255 [Arg.mk (.int .i64) aa,Arg.mk (.int .i64) Z] [.pair (.int .i64) (.pair (.int .i64) (.int .i64)),.int .i64] R:=
 PF ⟨[],[],[],[]⟩ [.cell 4 90,.tmp 5] 11 Tryz.func255 H
theorem zpo(gl:Fr)(t0:Bt)(Z:Int)(R:(Int×Int)->Prop)
  (H:((bif (decide (Z<0))then true else(decide (Z>t0.size)))=true->R (0,2))/\((bif (decide (Z<0))then true else(decide (Z>t0.size)))=false->PC Tp gl 253 [Arg.mk .str t0,Arg.mk (.int .i64) Z] [.str,.int .i64,.int .i64] (λa:Bt×Int×Int=>R (a.2.1,a.2.2)))):
  PC Tp gl 258 [Arg.mk .str t0,Arg.mk (.int .i64) Z] [.int .i64,.int .i64] R:=
 PF ⟨[],[],[],[]⟩ [.tmp 4,.tmp 5] 26 Tryz.func258 H
theorem zpp(gl:Fr)(c0:Int)(R:Bool->Prop)
  (H:R (bif (decide (c0>=97))then(decide (c0<=122))else false)):
  PC Tp gl 259 [Arg.mk (.int .u8) c0] [.bool] R:=
 PF ⟨[],[],[],[]⟩ [.tmp 2] 9 Tryz.func259 H
theorem zr3(gl:Fr)(s0:Bt)(R:Int->Prop)
  (H:((s0.toList==(⟨#[116,114,117,101]⟩:Bt).toList)=true->R 10)/\((s0.toList==(⟨#[116,114,117,101]⟩:Bt).toList)=false->((s0.toList==(⟨#[102,97,108,115,101]⟩:Bt).toList)=true->R 11)/\((s0.toList==(⟨#[102,97,108,115,101]⟩:Bt).toList)=false->((s0.toList==(⟨#[110,117,108,108]⟩:Bt).toList)=true->R 12)/\((s0.toList==(⟨#[110,117,108,108]⟩:Bt).toList)=false->R 0)))):
  PC Tp gl 260 [Arg.mk .str s0] [.int .i64] R:=
 PF ⟨[],[],[],[]⟩ [.tmp 2] 10 Tryz.func260 H
theorem zm9(gl:Fr)(s0:Bt)(R:(Int×Int)->Prop)
  (H:(0<=(0:Int)/\(0:Int)<(s0.size:Int))/\(((Zc s0 (0:Int).toNat:Int)==92)=true->PC Tp gl 315 [Arg.mk .str s0] [.int .i32,.int .i64] (λa:Int×Int=>R (a.1,a.2)))/\(((Zc s0 (0:Int).toNat:Int)==92)=false->PC Tp gl 151 [Arg.mk .str s0] [.int .i32,.int .i64] (λb:Int×Int=>((bif (decide (b.1<32))then true else(bif (b.1==65533)then(b.2==1)else false))=true->R (0,0))/\((bif (decide (b.1<32))then true else(bif (b.1==65533)then(b.2==1)else false))=false->R (b.1,b.2))))):
  PC Tp gl 291 [Arg.mk .str s0] [.int .i32,.int .i64] R:=
 PF ⟨[],[],[],[]⟩ [.tmp 2,.tmp 3] 30 Tryz.func291 H
theorem zjf(gl:Fr)(s0:Bt)(R:(Int×Int)->Prop)
  (H:(decide ((s0.size:Int)<2)=true->R (0,0))/\(decide ((s0.size:Int)<2)=false->(0<=(1:Int)/\(1:Int)<(s0.size:Int))/\PC Tp gl 323 [Arg.mk (.int .u8) (Zc s0 (1:Int).toNat)] [.int .i32,.bool] (λa:Int×Bool=>(a.2=true->R (a.1,2))/\(a.2=false->(0<=(1:Int)/\(1:Int)<(s0.size:Int))/\(((Zc s0 (1:Int).toNat:Int)==117)=true->PC Tp gl 324 [Arg.mk .str s0] [.int .i32,.int .i64] (λb:Int×Int=>R (b.1,b.2)))/\(((Zc s0 (1:Int).toNat:Int)==117)=false->R (0,0)))))):
  PC Tp gl 315 [Arg.mk .str s0] [.int .i32,.int .i64] R:=
 PF ⟨[],[],[],[]⟩ [.tmp 2,.tmp 3] 24 Tryz.func315 H
theorem zj9(gl:Fr)(c0:Int)(R:(Int×Bool)->Prop)
  (H:∀a:Bool->Prop,(∀b:Bool,((b=true->R (Ar .i32 c0,true))/\(b=false->((c0==98)=true->R (8,true))/\((c0==98)=false->((c0==102)=true->R (12,true))/\((c0==102)=false->((c0==110)=true->R (10,true))/\((c0==110)=false->((c0==114)=true->R (13,true))/\((c0==114)=false->((c0==116)=true->R (9,true))/\((c0==116)=false->R (0,false))))))))->a b)->((c0==34)=true->a (c0==34))/\((c0==34)=false->((c0==92)=true->a (c0==92))/\((c0==92)=false->a (c0==47)))):
  PC Tp gl 323 [Arg.mk (.int .u8) c0] [.int .i32,.bool] R:=
 PF ⟨[],[],[],[(5,⟨[(5,.one (.dat .bool))],[],[],[100320]⟩)]⟩ [.tmp 2,.tmp 3] 21 Tryz.func323 H
theorem zhq(gl:Fr)(s0:Bt)(R:(Int×Int)->Prop)
  (H:(0<=(2:Int)/\(2:Int)<=(s0.size:Int)/\(s0.size:Int)<=(s0.size:Int))/\PC Tp gl 328 [Arg.mk .str (s0.extract (2:Int).toNat (s0.size:Int).toNat)] [.int .i32,.bool] (λa:Int×Bool=>∀b:Bool->Prop,(∀c:Bool,((c=true->R (0,0))/\(c=false->((bif (decide (a.1<55296))then true else(decide (a.1>=57344)))=true->R (a.1,6))/\((bif (decide (a.1<55296))then true else(decide (a.1>=57344)))=false->(0<=(6:Int)/\(6:Int)<=(s0.size:Int)/\(s0.size:Int)<=(s0.size:Int))/\PC Tp gl 156 [Arg.mk .str (s0.extract (6:Int).toNat (s0.size:Int).toNat),Arg.mk .str (⟨#[92,117]⟩:Bt)] [.bool] (λd:Bool=>((!d)=true->R (0,0))/\((!d)=false->(0<=(8:Int)/\(8:Int)<=(s0.size:Int)/\(s0.size:Int)<=(s0.size:Int))/\PC Tp gl 328 [Arg.mk .str (s0.extract (8:Int).toNat (s0.size:Int).toNat)] [.int .i32,.bool] (λe:Int×Bool=>((bif (bif (!e.2)then true else(decide (e.1<56320)))then true else(decide (e.1>=57344)))=true->R (0,0))/\((bif (bif (!e.2)then true else(decide (e.1<56320)))then true else(decide (e.1>=57344)))=false->R (Ar .i32 ((Ar .i32 ((Ar .i32 (65536+(Ar .i32 ((Ar .i32 (a.1-55296))*1024))))+e.1))-56320),12))))))))->b c)->((!a.2)=true->b (!a.2))/\((!a.2)=false->b (bif (decide (a.1>=56320))then(decide (a.1<57344))else false)))):
  PC Tp gl 324 [Arg.mk .str s0] [.int .i32,.int .i64] R:=
 PF ⟨[],[],[],[(4,⟨[(13,.one (.dat .bool))],[],[],[100832]⟩)]⟩ [.tmp 2,.tmp 3] 58 Tryz.func324 H
theorem zna(gl:Fr)(s0:Bt)(R:(Int×Bool)->Prop)
  (H:((!(decide ((s0.size:Int)<4)))=true->(0<=(0:Int)/\(0:Int)<=4/\(4:Int)<=(s0.size:Int)))/\∃a:Bool->Prop,((!(decide ((s0.size:Int)<4)))=true->PC Tp gl 209 [Arg.mk .str (s0.extract (0:Int).toNat (4:Int).toNat),Arg.mk .str (⟨#[43,45,95]⟩:Bt)] [.bool] a)/\∀b:Bool,((!(decide ((s0.size:Int)<4)))=true->a b)->((bif (decide ((s0.size:Int)<4))then true else b)=true->R (0,false))/\((bif (decide ((s0.size:Int)<4))then true else b)=false->(0<=(0:Int)/\(0:Int)<=4/\(4:Int)<=(s0.size:Int))/\PC Tp gl 329 [Arg.mk .str (s0.extract (0:Int).toNat (4:Int).toNat),Arg.mk (.int .i64) 16,Arg.mk (.int .i64) 32] [.int .u64,.err] (λc:Int×Bool=>R (Ar .i32 c.1,c.2)))):
  PC Tp gl 328 [Arg.mk .str s0] [.int .i32,.bool] R:=
 PF ⟨[],[],[],[]⟩ [.tmp 2,.tmp 3] 24 Tryz.func328 H
end
end Go.X
end
section
namespace Go.X
open Go Go.Lib
section
variable {l:Bs} {n r:Nat}
theorem qex(l:Bs):decodeL l=dec l:=by rw[decodeL_N,dec]
theorem zr4(h:l≠[])(hg:zc6 (dec l)=false):encodeRune ((dec l).1:Int)=l.take (dec l).2:=by
 rw[<-qex]at hg ⊢
 refine encode_decode l h λ⟨h1,h2⟩=>?_
 unfold zc6 at hg
 rw[h1,h2]at hg
 cases hg
def zjp(c:UInt8):Option Nat:=
 if 48<=c.toNat/\c.toNat<=57 then some (c.toNat-48)
 else if 97<=c.toNat/\c.toNat<=102 then some (c.toNat-87)
 else if 65<=c.toNat/\c.toNat<=70 then some (c.toNat-55)
 else none
theorem z7s{c:UInt8}(h:zjp c=some n):n<16:=by
 unfold zjp at h
 split at h
 ·cases h;omega
 ·split at h
  ·cases h;omega
  ·split at h
   ·cases h;omega
   ·cases h
def zka:Nat->Bs->Option Nat
 |n,[]=>some n
 |n,c::l=>match zjp c with
  |some d=>zka (16*n+d) l
  |none=>none
def zgx(l:Bs):Option Nat:=if 4<=l.length then zka 0 (l.take 4)else none
theorem zr5:∀{l:Bs} {n m:Nat},zka n l=some m->m<(n+1)*16 ^ l.length
 |[],n,m,h=>by cases h;simp
 |c::l,n,m,h=>by
  unfold zka at h
  cases e:zjp c with
  |none=>rw[e]at h;cases h
  |some d=>
   rw[e]at h
   have h1:=zr5 h
   have h2:=z7s e
   have h3:(16*n+d+1)*16 ^ l.length<=(16*(n+1))*16 ^ l.length:=AZ _ (by omega)
   have h4:(16*(n+1))*16 ^ l.length=(n+1)*16 ^ (l.length+1):=by rw[Nat.pow_succ,C4 16,Nat.mul_assoc,C4 16]
   simp only[AN]
   omega
theorem znb(h:zgx l=some n):n<65536:=by
 unfold zgx at h
 split at h
 ·have:=zr5 h
  simp only[Bc]at this
  rename_i h4
  rw[C7 h4]at this
  omega
 ·cases h
def z2w(c:UInt8):Option Nat:=
 if c=34\/c=92\/c=47 then some c.toNat else if c=98 then some 8 else if c=102 then some 12 else if c=110 then some 10 else if c=114 then some 13 else if c=116 then some 9 else none
def z2x(t:Bs):Option (Nat×Nat):=match zgx t with
 |none=>none
 |some n=>if 56320<=n/\n<57344 then none else if n<55296\/57344<=n then some (n,6)else
  if(t.drop 4).take 2=[92,117]then match zgx (t.drop 6)with
   |some m=>if 56320<=m/\m<57344 then some (65536+(n-55296)*1024+(m-56320),12)else none
   |none=>none
  else none
def z7t(l:Bs):Option (Nat×Nat):=match l with
 |_::c::t=>match z2w c with
  |some r=>some (r,2)
  |none=>if c=117 then z2x t else none
 |_=>none
def zbs(l:Bs):Option (Nat×Nat):=if l.head?=some 92 then z7t l else if(dec l).1<32\/zc6 (dec l)=true then none else some (dec l)
def zpq:Nat->Bs->Bs×Nat×Bool
 |0,_=>([],0,false)
 |f+1,l=>if l=[]then([],0,false)else if l.head?=some 34 then([],1,true)else match zbs l with
  |none=>([],0,false)
  |some (r,n)=>let q:=zpq f (l.drop n);(encodeRune (r:Int)++q.1,n+q.2.1,q.2.2)
def zam(l:Bs):Bs×Nat×Bool:=zpq l.length l
theorem zle{t:Bs}(h:z2x t=some (r,n)):(n=6\/n=12)/\n<=t.length+2/\r<=1114111:=by
 unfold z2x at h
 cases e:zgx t with
 |none=>rw[e]at h;cases h
 |some m=>
  have hm:=znb e
  have hl:4<=t.length:=by
   unfold zgx at e
   split at e
   ·assumption
   ·cases e
  rw[e]at h
  dsimp only at h
  split at h
  ·cases h
  ·split at h
   ·simp only[As,Bn]at h
    obtain⟨rfl,rfl⟩:=h
    exact⟨.inl rfl,by omega,by omega⟩
   ·split at h
    ·cases e2:zgx (t.drop 6)with
     |none=>rw[e2]at h;cases h
     |some k=>
      have Z:4<=(t.drop 6).length:=by
       unfold zgx at e2
       split at e2
       ·assumption
       ·cases e2
      rw[AW]at Z
      rw[e2]at h
      dsimp only at h
      split at h
      ·simp only[As,Bn]at h
       obtain⟨rfl,rfl⟩:=h
       exact⟨.inr rfl,by omega,by omega⟩
      ·cases h
    ·cases h
theorem z7u{c:UInt8}(h:z2w c=some r):r<=255:=by
 have:=c.toNat_lt
 unfold z2w at h
 repeat' split at h
 all_goals first|(cases h;omega)|cases h
theorem zlf(h:z7t l=some (r,n)):2<=n/\n<=12/\n<=l.length/\r<=1114111:=by
 match l,h with
 |a::c::t,h=>
  unfold z7t at h
  dsimp only at h
  cases e:z2w c with
  |some k=>
   rw[e]at h;cases h
   have:=z7u e
   exact⟨by omega,by omega,by simp,by omega⟩
  |none=>
   rw[e]at h
   dsimp only at h
   split at h
   ·obtain⟨h1,h2,h3⟩:=zle h
    refine⟨by omega,by omega,?_,h3⟩
    simp only[AN];omega
   ·cases h
theorem zzl(l:Bs):(dec l).1<=1114111:=by
 have h0:=(l.getD 0 0).toNat_lt
 have h1:=(l.getD 1 0).toNat_lt
 have h2:=(l.getD 2 0).toNat_lt
 have h3:=(l.getD 3 0).toNat_lt
 unfold dec decodeN
 repeat' split
 all_goals (simp only;omega)
theorem J3(hl:l≠[])(h:zbs l=some (r,n)):1<=n/\n<=12/\n<=l.length/\r<=1114111:=by
 unfold zbs at h
 split at h
 ·obtain⟨h1,h2,h3,h4⟩:=zlf h
  exact⟨by omega,h2,h3,h4⟩
 ·split at h
  ·cases h
  ·have h:=AL h
   obtain⟨rfl,rfl⟩:r=(dec l).1/\n=(dec l).2:=by rw[h];exact⟨rfl,rfl⟩
   have h1:=Yv l
   have h2:=ztq hl
   exact⟨h1.1,by omega,h2,zzl l⟩
theorem zlg:∀(f:Nat) (l:Bs),l.length<=f->∀g,l.length<=g->zpq f l=zpq g l
 |0,l,h,g,_=>by
  have:l=[]:=Bj.1 (by omega)
  subst this
  cases g <;> simp[zpq]
 |f+1,l,h,0,hg=>by
  have:l=[]:=Bj.1 (by omega)
  subst this
  simp[zpq]
 |f+1,l,h,g+1,hg=>by
  unfold zpq
  by_cases h1:l=[]
  ·rw[if_pos h1,if_pos h1]
  ·rw[if_neg h1,if_neg h1]
   by_cases h2:l.head?=some 34
   ·rw[if_pos h2,if_pos h2]
   ·rw[if_neg h2,if_neg h2]
    cases e:zbs l with
    |none=>rfl
    |some x=>
     obtain⟨r,n⟩:=x
     obtain⟨n1,_,n2,_⟩:=J3 h1 e
     have:=zlg f (l.drop n) (by rw[AW];omega) g (by rw[AW];omega)
     dsimp only
     rw[this]
theorem zzm:zam []=([],0,false):=rfl
theorem J4(h:l≠[]):zam l=if l.head?=some 34 then([],1,true)else match zbs l with
  |none=>([],0,false)
  |some (r,n)=>(encodeRune (r:Int)++(zam (l.drop n)).1,n+(zam (l.drop n)).2.1,(zam (l.drop n)).2.2):=by
 have hp:=BC.2 h
 obtain⟨f,hf⟩:∃f,l.length=f+1:=⟨l.length-1,by omega⟩
 rw[zam,hf,zpq,if_neg h]
 by_cases h2:l.head?=some 34
 ·rw[if_pos h2,if_pos h2]
 ·rw[if_neg h2,if_neg h2]
  cases e:zbs l with
  |none=>rfl
  |some x=>
   obtain⟨r,n⟩:=x
   obtain⟨n1,_,n2,_⟩:=J3 h e
   dsimp only
   rw[zam,zlg f (l.drop n) (by rw[AW];omega) (l.drop n).length (Av _)]
theorem zzn:∀(k:Nat) (l:Bs),l.length=k->(zam l).2.1<=l.length/\(zam l).1.length<=4*l.length:=by
 intro k
 induction k using DC with
 |_ k ih=>
  intro l hl
  by_cases h:l=[]
  ·subst h;exact⟨Av _,Av _⟩
  ·have hp:=BC.2 h
   rw[J4 h]
   split
   ·exact⟨hp,by simp⟩
   ·cases e:zbs l with
    |none=>exact⟨by simp,by simp⟩
    |some x=>
     obtain⟨r,n⟩:=x
     obtain⟨n1,_,n2,_⟩:=J3 h e
     have hd:(l.drop n).length=l.length-n:=AW
     have:=ih (l.drop n).length (by omega) _ rfl
     have h4:(encodeRune (r:Int)).length<=4:=by
      have:=(encodeRuneZ_length (r:Int)).2
      rw[encodeRune,BN];exact this
     dsimp only
     rw[AF]
     omega
def Qt(t:Bs)(a:Nat):Bs×Nat×Int:=
 if(t.drop a).head?=some 34 then(let q:=zam (t.drop (a+1));if q.2.2 then(q.1,a+1+q.2.1,0)else([],a+1+q.2.1,2))else([],a,2)
def zei(t:Bs):Bs×Nat×Int:=let r:=Qt t 0;if r.2.2=0/\r.2.1<t.length then([],r.2.1,2)else r
def z5b(c:UInt8):Bs:=
 if c=34\/c=92 then [92,c]else if c=8 then [92,98]else if c=12 then [92,102]else if c=10 then [92,110]else if c=13 then [92,114]else if c=9 then [92,116]
 else if c.toNat<32 then [92,117,48,48,Be (48+c.toNat / 16),Be (if c.toNat % 16<10 then 48+c.toNat % 16 else 87+c.toNat % 16)]else [c]
def zbz(l:Bs):Bs:=l.flatMap z5b
def z2y(l:Bs):Bs×Int:=if Ys l then(34::zbz l++[34],0)else([],2)
end
end Go.X
end
section
namespace Go.X
open Go Go.X Go.Proofs Go.RowKit
section
variable {h:Za} {b:Nat} {l:Bs} {r:Int} {K:Value -> Za -> Prop}
theorem zjg(H:Bld h b l)(h0:0<=r)(h1:r<=1114111)(hl:l.length+4<=140737488355328)(hK:∀h' n,Bld h' b (l++Lib.encodeRune r)->Keep b h h'->Itk h h'->K (.tuple #[.int .i64 n,.nilIface]) h'):
  XC Tp 83 #[.pointer (some ⟨b,0,none⟩),.int .i32 r] h K:=by
 apply Wy
 refine chk H λh2 H2 k2 z2 i2=>⟨rfl,_,rfl,?_⟩
 have Z:=H2.lt
 obtain⟨p,s,e,hp,ho⟩:=H2
 have aa:=ho.1
 rw[Lib.byteCells_length,C5]at aa
 have c1:=Blk.cellAdd (o:=0) (k:=1) (v:=slV s) (cs:=#[.pointer p,slV s]) ⟨_,e⟩ rfl
 refine⟨s,c1,_,rfl,s,c1,?_⟩
 refine XC.of_calls λB d=>(zbf (b+1) (slV s) s.len (Lib.byteCells l) r (by omega) (by omega) (mk B d h2) ho (by omega) (show b+1<=h2.size by omega)).mono ?_
 rintro e' w' ⟨v',rfl,q,o,gr⟩
 obtain⟨s',rfl,hn⟩:∃s':Sl,v'=slV s'/\s'.len=s.len+(Lib.runeCells r).length:=by
  rcases q.2 with⟨rfl,hz⟩|⟨g,cap,ae,rfl,_⟩
  ·exact⟨⟨none,0,0⟩,rfl,hz.symm⟩
  ·exact⟨⟨_,_,_⟩,rfl,rfl⟩
 have o6:Owns w'.heap (b+1) 5 1 s' (Lib.byteCells (l++Lib.encodeRune r)):=by
  have e1:Lib.byteCells (l++Lib.encodeRune r)=Lib.byteCells l++Lib.runeCells r:=by
   rw[<-Lib.byteCells_encodeRune];unfold Lib.byteCells;rw[CG]
  rw[e1]
  rw[<-hn]at q
  exact q
 have e6:w'.heap[b]?=some (.cells #[.pointer p,slV s] 112 (0,0)):=by
  have hx:=gr.block b (by show b<(h2.push o).size;rw[AM];omega) (by
   intro hq
   cases ha:s.a with
   |none=>rw[slV,ha]at hq;cases hq
   |some a=>
    have:=ho.base_le a ha
    rw[slV,ha]at hq
    simp only[Value.ownBlock,As]at hq
    omega)
  rw[hx]
  show(h2.push o)[b]?=_
  rw[Array.getElem?_push_lt Z,<-e];simp[Z]
 have kk:Keep b h w'.heap:=by
  refine k2.trans ⟨?_,λi hi=>?_⟩ (Av _)
  ·have:=gr.size
   have h3:(h2.push o).size<=w'.heap.size:=this
   rw[AM]at h3;omega
  ·have hx:=gr.block i (by show i<(h2.push o).size;rw[AM];omega) (by
    intro hq
    cases ha:s.a with
    |none=>rw[slV,ha]at hq;cases hq
    |some a=>
     have:=ho.base_le a ha
     rw[slV,ha]at hq
     simp only[Value.ownBlock,As]at hq
     omega)
   rw[hx]
   show(h2.push o)[i]?=_
   rw[Array.getElem?_push_lt (by omega)];simp[show i<h2.size by omega]
 have ik:Itk h2 w'.heap:=Itk.own ho λi hi ab=>by
  have hx:=gr.block i (by show i<(h2.push o).size;rw[AM];omega) (by
   intro hq
   cases ha:s.a with
   |none=>rw[slV,ha]at hq;cases hq
   |some a=>
    have:=ab a ha
    rw[slV,ha]at hq
    simp only[Value.ownBlock,As]at hq
    exact this hq)
  rw[hx]
  show(h2.push o)[i]?=_
  rw[Array.getElem?_push_lt hi];simp[hi]
 refine⟨_,rfl,gr.os,gr.tape,gr.output,s',rfl,_,rfl,?_⟩
 refine zzk e6 hp o6 λh7 H7 k7 z7 i7=>?_
 have H8:=H7
 obtain⟨p8,s8,e8,_,_⟩:=H8
 exact⟨_,rfl,s8,Blk.cellAdd (o:=0) (k:=1) (v:=slV s8) (cs:=#[.pointer p8,slV s8]) ⟨_,e8⟩ rfl,hK h7 _ H7 (kk.trans k7 (Av _)) (i2.trans (ik.trans i7))⟩
theorem zr6(H:Bld h b l)(h0:0<=r)(h1:r<=1114111)(hl:l.length+4<=140737488355328)(hK:∀h' n,Bld h' b (l++Lib.encodeRune r)->Keep b h h'->K (.tuple #[.int .i64 n,.nilIface]) h'):
  XC Tp 83 #[.pointer (some ⟨b,0,none⟩),.int .i32 r] h K:=
 zjg H h0 h1 hl λh' n a b _=>hK h' n a b
def qdp(c:Int):Option Nat:=let lo:=bits .or .u8 c 32
 if 97<=lo/\lo<=122 then(let d:=Ar .u8 ((Ar .u8 (lo-97))+10);if d>=16 then none else some d.toNat)else none
theorem z7v:(BS 256).all (λc=>decide (48<=c/\c<=57)||(qdp (c:Int)==zjp (Be c)))=true:=by kernel_rfl
theorem z7w{c:UInt8}(h:¬(48<=c.toNat/\c.toNat<=57)):qdp (c.toNat:Int)=zjp c:=by
 have:=A5.1 z7v c.toNat (BF.2 c.toNat_lt)
 rw[Cb,decide_eq_true_eq]at this
 rcases this with h1|h1
 ·exact absurd h1 h
 ·rw[beq_iff_eq]at h1
  rw[h1];congr 1
  rw[UInt8.ofNat_toNat]
theorem zzo:(BS 256).all (λc=>decide (0<=Ar .u8 ((Ar .u8 ((bits .or .u8 (c:Int) 32)-97))+10)))=true:=by kernel_rfl
theorem zr7{c:Int}(hK:K (.int .u8 (bits .or .u8 c 32)) h):XC Tp 325 #[.int .u8 c] h K:=by
 refine XC.of_calls λB d=>(zai c (mk B d h)).mono ?_
 rintro e w' ⟨rfl,rfl⟩
 exact⟨_,rfl,rfl,rfl,rfl,hK⟩
theorem zej:∀(a b:Bs) (n:Nat),zka n (a++b)=(zka n a).bind λm=>zka m b
 |[],b,n=>rfl
 |c::a,b,n=>by
  show(match zjp c with|some d=>zka (16*n+d) (a++b)|none=>none)=(match zjp c with|some d=>zka (16*n+d) a|none=>none).bind _
  cases zjp c with
  |none=>rfl
  |some d=>exact zej a b _
theorem z2z(n:Nat)(c:UInt8):zka n [c]=(zjp c).map λd=>16*n+d:=by
 show(match zjp c with|some d=>zka (16*n+d) []|none=>none)=_
 cases zjp c <;> rfl
theorem qa2{s:Bs}(hK:∀(x:Sl) h',Keep h.size h h'->x.len=s.length->x.a=some ⟨h.size,0,none⟩->(∀j (hj:j<s.length),Ze h' ⟨h.size,j,none⟩=some (.int .u8 (s[j].toNat:Int)))->K (slV x) h'):
  XRun Tp (convert 9 110 (.string (bl s))) h K:=by
 intro B d
 refine⟨_,_,_,Lib.run_convert_string_bytes (P:=Tp) (mk B d h) 9 110 5 (bl s) qel elemU8.slice (by kernel_rfl),?_⟩
 refine hK ⟨some ⟨h.size,0,none⟩,(bl s).size,_⟩ _ ⟨?_,λi hi=>?_⟩ (Zf s) rfl λj hj=>?_
 ·show h.size<=(Lib.bytesWorld (mk B d h) 5 (bl s)).heap.size
  rw[Lib.bytesWorld_size];exact Nat.le_succ _
 ·exact Lib.bytesWorld_at_old (mk B d h) 5 (bl s) i hi
 ·have:=Lib.bytesWorld_cell (mk B d h) 5 (bl s) j (by rw[Zf];exact hj)
  have e:(bl s).data.toList=s:=Yh s
  rw[e,Df,AE hj]at this
  exact this
set_option maxHeartbeats 4000000 in
theorem zr8(hl:l.length=4)(h1:∀n h',zka 0 l=some n->Keep h.size h h'->K (.tuple #[.int .u64 (n:Int),.nilIface]) h')
  (h2:∀h',zka 0 l=none->Keep h.size h h'->K (.tuple #[.int .u64 0,.iface 287 (.int .i64 2)]) h'):
  XC Tp 316 #[.string (bl l),.int .i64 16,.int .i64 32] h K:=by
 apply Wo
 have he:((bl l:Bt).toList==((⟨#[]⟩:Bt):Bt).toList)=false:=by
  have:((bl l:Bt).toList==((⟨#[]⟩:Bt):Bt).toList)=decide (l=[]):=zmv l []
  rw[this,decide_eq_false_iff_not]
  intro e;rw[e]at hl;simp at hl
 refine⟨λe=>(by rw[he]at e;cases e),λ_=>?_⟩
 intro K4 ap
 refine⟨λ_=>ap _ _ _ ?_,λe=>by simp at e⟩
 intro K7 ar
 refine⟨λe=>by simp at e,λ_=>⟨λe=>by simp at e,λ_=>ar _ _ ?_⟩⟩
 intro aE ae
 refine⟨λe=>by simp at e,λ_=>⟨λ_=>ae _ _ ?_,λe=>by simp at e⟩⟩
 have ah:(Ar .u64 32:Int)=32:=by decide
 refine⟨by rw[ah];omega,?_⟩
 refine qa2 λx h3 k3 xl xa xc=>⟨x,rfl,?_⟩
 refine⟨λu n i g=>u=false/\g=h3/\∃(k m:Nat),k<=4/\i=(k:Int)/\n=(m:Int)/\zka 0 (l.take k)=some m,λu n i g=>4-i.toNat,⟨rfl,rfl,0,0,by omega,rfl,rfl,rfl⟩,?_⟩
 rintro u n i g ⟨rfl,rfl,k,m,hk,rfl,rfl,hm⟩
 have aF:m<65536:=by
  have:=zr5 hm
  have hp:(l.take k).length<=4:=by rw[Bc];omega
  have:16 ^ (l.take k).length<=16 ^ 4:=Nat.pow_le_pow_right (by omega) hp
  omega
 refine⟨λhc=>?_,λhc=>?_⟩
 ·have am:k<4:=by rw[decide_eq_true_eq,xl,hl]at hc;omega
  have af:k<l.length:=by omega
  refine⟨⟨h.size,0,none⟩,⟨xa,by omega,by rw[decide_eq_true_eq]at hc;exact hc⟩,(l[k].toNat:Int),?_,?_⟩
  ·rw[Qd,AK,C5,AX]
   exact xc k af
  generalize aC:l[k]=c
  have Z:zka 0 (l.take (k+1))=(zjp c).map λd=>16*m+d:=by
   rw[Ba af,zej,hm,aC]
   exact z2z m c
  have aa:zjp c=none->zka 0 l=none:=by
   intro e
   rw[e]at Z
   rw[<-Cm (k+1) l,zej,Z];rfl
  have cl:=c.toNat_lt
  intro au aj
  have ab:∀d:Int,0<=d->(d<16->zjp c=some d.toNat)->(16<=d->zjp c=none)->au false d g:=by
   intro d az aA ay
   apply aj
   have aB:(Ar .u8 16:Int)=16:=by decide
   have ai:(Ar .u64 16:Int)=16:=by decide
   rw[aB,ai,ah]
   refine⟨λe=>h2 _ (aa (ay (by simpa using e))) k3,λe=>?_⟩
   have hd:d<16:=by simpa using e
   have hv:=aA hd
   rw[hv]at Z
   have wr:∀z:Int,0<=z->z<18446744073709551616->Ar .u64 z=z:=by
    intro z z0 z1
    unfold Ar
    have e1:(2:Int) ^ AB .u64=18446744073709551616:=by decide
    have e2:Do .u64=false:=rfl
    simp only[e1,e2,DL,Bv,if_false]
    exact Int.emod_eq_of_lt z0 z1
   have e1:Ar .u64 ((m:Int)*16)=(m:Int)*16:=wr _ (by omega) (by omega)
   have e2:Ar .u64 d=d:=wr _ az (by omega)
   have e3:Ar .u64 ((m:Int)*16+d)=(m:Int)*16+d:=wr _ (by omega) (by omega)
   have e4:(Ar .u64 ((Ar .u64 (1*2 ^ (min (32:Int).toNat 64)))-1):Int)=4294967295:=by decide
   rw[e1,e2,e3,e4]
   refine⟨λe=>?_,λ_=>⟨λe=>?_,λ_=>?_⟩⟩
   ·rw[decide_eq_true_eq]at e;omega
   ·simp only[Bool.cond_eq_ite,Bool.if_true_left,Cb,decide_eq_true_eq]at e
    omega
   ·rw[zj4 (n:=4) am (by omega)]
    refine⟨⟨rfl,rfl,k+1,16*m+d.toNat,by omega,rfl,by omega,Z⟩,?_⟩
    show 4-((k+1:Nat):Int).toNat<4-((k:Nat):Int).toNat
    omega
  have ak:(bif ((c.toNat:Int)==95)then((16:Int)==0)else false)=false:=by
   cases((c.toNat:Int)==95) <;> rfl
  refine⟨λe=>(by rw[ak]at e;cases e),λ_=>⟨λe=>?_,λe=>?_⟩⟩
  ·have hd:48<=c.toNat/\c.toNat<=57:=by
    simp only[Bool.cond_eq_ite,Bool.if_false_right,BP,decide_eq_true_eq]at e
    omega
   rw[qau (by omega) (by omega)]
   refine ab _ (by omega) (λ_=>?_) (λh9=>by omega)
   unfold zjp
   rw[if_pos hd];congr 1;omega
  ·have hd:¬(48<=c.toNat/\c.toNat<=57):=by
    simp only[Bool.cond_eq_ite,Bool.if_false_right,CW,decide_eq_false_iff_not,decide_eq_true_eq]at e
    omega
   have lh:=z7w hd
   have lr:=A5.1 zzo c.toNat (BF.2 cl)
   rw[decide_eq_true_eq]at lr
   unfold qdp at lh
   dsimp only at lh
   refine zr7 ?_
   generalize an:bits .or .u8 (c.toNat:Int) 32=lo at lh lr ⊢
   refine⟨lo,rfl,λv g'=>v=.int .u8 lo/\g'=g,λ_=>zr7 ?_,λ_=>⟨lo,rfl,rfl⟩,?_,?_⟩
   ·rw[an];exact⟨lo,rfl,rfl,rfl⟩
   ·rintro _ v g' ⟨rfl,_⟩;exact⟨lo,rfl⟩
   ·rintro x g' ⟨e1,rfl⟩
    injection e1 with _ e1
    subst e1
    refine⟨λe9=>zr7 ?_,λe9=>?_⟩
    ·rw[an]
     refine⟨x,rfl,?_⟩
     have hr:97<=x/\x<=122:=by
      simp only[Bool.cond_eq_ite,Bool.if_false_right,BP,decide_eq_true_eq]at e9
      omega
     rw[if_pos hr]at lh
     refine ab _ lr (λh9=>?_) (λh9=>?_)
     ·rw[if_neg (by omega)]at lh;exact lh.symm
     ·rw[if_pos (by omega)]at lh;exact lh.symm
    ·have hr:¬(97<=x/\x<=122):=by
      simp only[Bool.cond_eq_ite,Bool.if_false_right,CW,decide_eq_false_iff_not,decide_eq_true_eq]at e9
      omega
     rw[if_neg hr]at lh
     exact h2 _ (aa lh.symm) k3
 ·have am:k=4:=by rw[decide_eq_false_iff_not,xl,hl]at hc;omega
  refine⟨λv g'=>g'=g,(λe=>by cases e),(λ_=>⟨true,rfl⟩),(λe=>by cases e),?_⟩
  rintro x g' rfl
  refine⟨λe=>(by cases e),λ_=>h1 _ _ ?_ k3⟩
  rw[Cv (by omega)]at hm
  exact hm
end
end Go.X
end
section
namespace Go.X
section
theorem z3a{gl:Fr}(hg:GL gl){l:List Bt}(hl:SL l){R:Bool->Prop}(hR:R (zpl l)):PC Tp gl 70 [Arg.mk (.row .str) l] [.bool] R:=by
 intro h M vs hM ag ha
 match vs,ha with
 |[u],⟨hu,_⟩=>
  obtain⟨s,rfl,hr⟩:=qdf hu
  have hr:Rd M (.row .str) l [slV s]:=hr
  obtain⟨ab,aj,ai⟩:=rowLen hr
  apply PX.of
  apply zho s
  have hd:decide (((s.len:Nat):Int)<=64)=decide (l.length<=64):=by rw[ab,A6,decide_eq_true_eq,decide_eq_true_eq];omega
  rw[hd]
  refine⟨λv h'=>∃b,v=.bool b/\(decide (l.length<=64)=true->b=l.any λx=>!(Ys (lb x)))/\∃M',Later h M h' M',λhc=>?_,λhc=>⟨true,true,rfl,λe=>(by rw[e]at hc;cases hc),M,Later.refl ag⟩,λ_ v h' ⟨b,e,_⟩=>⟨b,e⟩,?_⟩
  ·refine(qdn (gl:=gl) ag hr (p:=λx=>!(Ys (lb x))) λx hx=>⟨by kernel_rfl,λh' M' u' L' af=>?_⟩).go λw h4 M4 b L4 Z ah=>⟨b,z4t Z,b,rfl,λ_=>ah,M4,L4⟩
   have:=Y1 af
   subst this
   apply PX.of
   show XC Tp 133 #[.string x] h' _
   apply zfy
   have hp:=z2s hg.tabs (l:=lb x) (R:=λb=>b=Ys (lb x)) (by have:=hl.s x hx;omega) rfl
   rw[zo4]at hp
   exact hp.go (vs:=[.string x]) (hM.trans L'.le) L'.ag (Qw (rdStr _) Yk) λw h5 M5 b L5 aa ae=>⟨b,z4t aa,M5,_,L5,zqn.2 (rdBool _),by rw[ae]⟩
  ·rintro b h' ⟨b',e,hb,M',L'⟩
   cases e
   refine⟨M',_,L',zqn.2 (rdBool _),?_⟩
   have:(bif decide (l.length<=64)then !b else false)=zpl l:=by
    unfold zpl
    cases hc:decide (l.length<=64)with
    |false=>rfl
    |true=>
     rw[hb hc,cond_true,Dj,A6];simp
   rw[this];exact hR
end
end Go.X
end
section
namespace Go.X
open Go Go.X Go.Proofs Go.RowKit
section
theorem qey{z:UInt8}(h:128<=z.toNat):Lib.indexByte [95] z=-1:=by
 have:z≠95:=by rintro rfl;revert h;decide
 unfold Lib.indexByte
 simp[Lib.indexByte,this.symm]
theorem ix0{z:UInt8}:Lib.indexByte [] z=-1:=by simp[Lib.indexByte]
def VR(r:Int)(e:Ending):Prop:=∃b,e=.returned (.bool b)/\(b=true->(0<=r/\r<55296)\/(57343<r/\r<=1114111))
set_option maxHeartbeats 4000000 in
set_option maxRecDepth 1000000 in
theorem zr9(r:Int)(w:World):Calls Tp 300 #[.int .i32 r] w λe w'=>VR r e/\w'=w:=by
 have mixed:=Tryz.mixed
 go_enter Tryz.func300,Tryz.ntmps300
 by_cases h1:0<=r <;> by_cases h2:r<55296 <;> by_cases h3:57343<r <;> by_cases h4:r<=1114111 <;> (go_wp2;go_ret;exact⟨⟨_,rfl,λh=>by first|omega|cases h⟩,rfl⟩)
theorem zzp(r:Int)(h:128<=r):(∃a z:UInt8,En r=⟨#[a,z]⟩/\128<=z.toNat)\/(∃a b z:UInt8,En r=⟨#[a,b,z]⟩/\128<=z.toNat)\/(∃a b c z:UInt8,En r=⟨#[a,b,c,z]⟩/\128<=z.toNat):=by
 have hz:∀n:Nat,128<=(Be (128+n % 64)).toNat:=λn=>by
  have:(Be (128+n % 64)).toNat=(128+n % 64) % 256:=UInt8.toNat_ofNat
  rw[this,DW (by omega)];omega
 have hc:∃c:Nat,128<=c/\(if Utf8.valid r then r.toNat else Utf8.runeError)=c:=by
  refine⟨_,?_,rfl⟩
  split
  ·omega
  ·decide
 obtain⟨c,aa,Z⟩:=hc
 unfold En
 simp only[Z]
 rw[if_neg (by omega)]
 by_cases h1:c<2048
 ·rw[if_pos h1];exact .inl ⟨_,_,rfl,hz _⟩
 ·rw[if_neg h1]
  by_cases h2:c<65536
  ·rw[if_pos h2];exact .inr (.inl ⟨_,_,_,rfl,hz _⟩)
  ·rw[if_neg h2];exact .inr (.inr ⟨_,_,_,_,rfl,hz _⟩)
def IR(e:Ending):Prop:=∃n,e=.returned (.int .i64 n)
set_option maxHeartbeats 4000000 in
set_option maxRecDepth 1000000 in
theorem zsa(r:Int)(w:World)(h1:128<=r)(h2:r≠65533):Calls Tp 269 #[.string ⟨#[43,45,95]⟩,.int .i32 r] w λe w'=>IR e/\Below w.heap.size w w':=by
 have mixed:=Tryz.mixed
 have ae:∀args w,(callFunc 212 args).run Tp w=.ok (.enter 212 args) w:=enters_of Eg (by kernel_rfl) rfl
 have ab:∀args w,(callFunc 300 args).run Tp w=.ok (.enter 300 args) w:=enters_of Tryz.func300 (by kernel_rfl) rfl
 have g1:¬r<128:=by omega
 go_enter Tryz.func269,Tryz.ntmps269
 go_wp2_with (go_at_fn 300;refine(zr9 _ _).mono ?_;rintro e w' ⟨⟨b,rfl,hb⟩,hw⟩;rw[hw];cases b)
 ·go_ret
  exact⟨⟨_,rfl⟩,Below.refl _ _⟩
 ·rcases zzp r h1 with⟨a,z,hE,hz⟩|⟨a,b,z,hE,hz⟩|⟨a,b,c,z,hE,hz⟩
  ·have Z:=λ(w:World)=>run_convert_int_string (P:=Tp) w 21 9 .i32 r (by kernel_rfl) (by kernel_rfl)
   rw[hE]at Z
   refine wp_scope_straight ?_
   go_wp2
   go_loop [9] (λv=>v=.int .i64 1) (λ_=>0)
   case atStart=>rfl
   case round=>
    subst hrel
    go_wp2
    refine wp_scope_straight ?_
    have aa:((45:Int) != (z.toNat:Int))=true:=bne_iff_ne.2 (by omega)
    go_wp2
    go_region
    simp only[show ∀h,((⟨#[43,45,95]⟩:Bt)[1]'h)=45 from λ_=>rfl,show ∀h,((⟨#[a,z]⟩:Bt)[1]'h)=z from λ_=>rfl,show((45:UInt8).toNat:Int)=45 from rfl,aa]
    all_goals go_wp2
    all_goals go_region_with (go_at_call 212;refine(Ya _ _ _).mono ?_;rintro e w' ⟨rfl,rfl⟩)
    all_goals simp only[show ∀h,((⟨#[a,z]⟩:Bt)[1]'h)=z from λ_=>rfl,qey hz]
    all_goals go_wp2
    all_goals simp only[Exit.noGoto,Exit.inBlock]
    all_goals go_wp2
    all_goals simp only[Exit.noGoto,Exit.inBlock]
    all_goals go_wp2
    all_goals go_ret
    all_goals exact⟨⟨_,rfl⟩,zi9 w 2⟩
  ·have Z:=λ(w:World)=>run_convert_int_string (P:=Tp) w 21 9 .i32 r (by kernel_rfl) (by kernel_rfl)
   rw[hE]at Z
   refine wp_scope_straight ?_
   go_wp2
   go_loop [9] (λv=>v=.int .i64 2) (λ_=>0)
   case atStart=>rfl
   case round=>
    subst hrel
    go_wp2
    refine wp_scope_straight ?_
    have aa:((95:Int) != (z.toNat:Int))=true:=bne_iff_ne.2 (by omega)
    go_wp2
    go_region
    simp only[show ∀h,((⟨#[43,45,95]⟩:Bt)[2]'h)=95 from λ_=>rfl,show ∀h,((⟨#[a,b,z]⟩:Bt)[2]'h)=z from λ_=>rfl,show((95:UInt8).toNat:Int)=95 from rfl,aa]
    all_goals go_wp2
    all_goals go_region_with (go_at_call 212;refine(Ya _ _ _).mono ?_;rintro e w' ⟨rfl,rfl⟩)
    all_goals simp only[show ∀h,((⟨#[a,b,z]⟩:Bt)[2]'h)=z from λ_=>rfl,ix0]
    all_goals go_wp2
    all_goals simp only[Exit.noGoto,Exit.inBlock]
    all_goals go_wp2
    all_goals simp only[Exit.noGoto,Exit.inBlock]
    all_goals go_wp2
    all_goals go_ret
    all_goals exact⟨⟨_,rfl⟩,zi9 w 2⟩
  ·have Z:=λ(w:World)=>run_convert_int_string (P:=Tp) w 21 9 .i32 r (by kernel_rfl) (by kernel_rfl)
   rw[hE]at Z
   refine wp_scope_straight ?_
   go_wp2
   go_loop [9] (λv=>v=.int .i64 3) (λ_=>0)
   case atStart=>rfl
   case round=>
    subst hrel
    go_wp2
    go_ret
    exact⟨⟨_,rfl⟩,Below.refl _ _⟩
end
end Go.X
end
section
namespace Go.X
open Go Go.Lib
section
variable {l:Bs}
def zsb(l:Bs):Prop:=∀c∈l,c.toNat<128
theorem zcl(cs:Bs):∀l:Bs,containsAny l cs=l.any λc=>cs.contains c
 |[]=>by simp[containsAny,indexAny]
 |c::l=>by
  have ih:=zcl cs l
  have aa:=indexAny_ge cs l
  rw[List.any_cons,<-ih]
  unfold containsAny
  rw[indexAny]
  by_cases hc:cs.contains c=true
  ·rw[if_pos hc,hc];simp
  ·have Z:cs.contains c=false:=by simpa using hc
   rw[if_neg hc,Z,DD]
   by_cases h1:indexAny l cs=-1
   ·simp[h1]
   ·have hb:(indexAny l cs==-1)=false:=by rw[beq_eq_false_iff_ne];exact h1
    rw[hb,if_neg (by simp),A6,decide_eq_true_eq,decide_eq_true_eq];omega
theorem zzq:∀(l:Bs) (acc:Nat),l.all Q1=true->acc*10 ^ l.length+Zv l<10 ^ 18->parseUint10 acc l=.ok (acc*10 ^ l.length+Zv l)
 |[],acc,_,_=>by simp[parseUint10,Zv]
 |c::t,acc,hd,hl=>by
  rw[List.all_cons,BP]at hd
  have hc:48<=c.toNat/\c.toNat<=57:=by simpa[Q1]using hd.1
  have e:Zv (c::t)=(c.toNat-48)*10 ^ t.length+Zv t:=by
   have:=zmw [c] t
   rw[List.singleton_append]at this
   rw[this];simp[Zv]
  have e2:(acc*10+(c.toNat-48))*10 ^ t.length+Zv t=acc*10 ^ (c::t).length+Zv (c::t):=by
   rw[e,AN,Nat.pow_succ,Cp,Nat.mul_assoc,C4 10 (10 ^ t.length)];omega
  have hp:1<=10 ^ t.length:=Nat.one_le_pow _ _ (by decide)
  have hb:acc*10+(c.toNat-48)<=acc*10 ^ (c::t).length+Zv (c::t):=by
   rw[<-e2]
   calc acc*10+(c.toNat-48)=(acc*10+(c.toNat-48))*1:=by omega
    _<=(acc*10+(c.toNat-48))*10 ^ t.length:=Nat.mul_le_mul_left _ hp
    _<=_:=by omega
  rw[parseUint10,if_pos hc,if_neg (by omega),if_neg (by omega),zzq t _ hd.2 (by rw[e2];exact hl),e2]
theorem zsc:∀(l:Bs) (acc:Nat),l.all Q1=false->∀v,parseUint10 acc l≠.ok v
 |[],acc,h,v=>by simp at h
 |c::t,acc,h,v=>by
  rw[parseUint10]
  by_cases hc:48<=c.toNat/\c.toNat<=57
  ·have hd:Q1 c=true:=by simp[Q1,hc]
   rw[List.all_cons,hd,Dj]at h
   rw[if_pos hc]
   by_cases h1:1844674407370955162<=acc
   ·rw[if_pos h1];simp
   ·rw[if_neg h1]
    by_cases h2:18446744073709551616<=acc*10+(c.toNat-48)
    ·rw[if_pos h2];simp
    ·rw[if_neg h2];exact zsc t _ h v
  ·rw[if_neg hc];simp
theorem z7x(hd:l.all Q1=true)(aa:l≠[])(hl:l.length<=9):atoiAll l=.ok (Zv l:Int):=by
 have hv:Zv l<10 ^ 9:=zfv hl hd
 have hp:=zzq l 0 hd (by rw[Ef];omega)
 rw[Ef,AX]at hp
 obtain⟨c,t,rfl⟩:=BK aa
 have hc:48<=c.toNat/\c.toNat<=57:=by
  rw[List.all_cons,BP]at hd
  simpa[Q1]using hd.1
 unfold atoiAll
 simp only
 rw[if_neg (by omega)]
 unfold parseMag
 rw[if_neg (by simp),hp]
 have Z:¬c.toNat=45:=by omega
 simp only[Z,not_false_eq_true,true_and,false_and,if_false]
 rw[if_neg (by omega)]
theorem z7y(hd:l.all Q1=false)(hh:∀c,l.head?=some c->c.toNat≠43/\c.toNat≠45)(v:Int):atoiAll l≠.ok v:=by
 cases l with
 |nil=>simp at hd
 |cons c t=>
  have hc:=hh c rfl
  unfold atoiAll
  simp only
  rw[if_neg (by omega)]
  unfold parseMag
  rw[if_neg (by simp)]
  have:=zsc (c::t) 0 hd
  cases hp:parseUint10 0 (c::t)with
  |ok u=>exact absurd hp (this u)
  |range=>simp
  |_=>simp
theorem z7z(h:¬zsb l)(v:Int):atoiAll l≠.ok v:=by
 have Z:∀m:Bs,¬zsb m->∀u,parseMag m≠.ok u:=by
  intro m hm u
  unfold parseMag
  split
  ·simp
  ·apply zsc
   rw[Bool.eq_false_iff]
   intro hd
   apply hm
   intro c hc
   rw[A5]at hd
   have:=hd c hc
   simp[Q1]at this;omega
 cases l with
 |nil=>exact absurd (λc hc=>by cases hc) h
 |cons c t=>
  unfold atoiAll
  simp only
  have hm:¬zsb (if c.toNat=43\/c.toNat=45 then t else c::t):=by
   split
   ·rename_i hc
    intro ht
    apply h
    intro d hd
    rcases Ay.1 hd with rfl|hd
    ·omega
    ·exact ht d hd
   ·exact h
  have:=Z _ hm
  cases hp:parseMag (if c.toNat=43\/c.toNat=45 then t else c::t)with
  |ok u=>exact absurd hp (this u)
  |range=>simp
  |_=>simp
def zpr(l:Bs):Int×Bool:=if l.length<1\/9<l.length\/(1<l.length/\l.head?=some 48)then(0,false)else if l.all Q1 then((Zv l:Int),true)else(0,false)
theorem zlh(h:(zpr l).2=true):0<=(zpr l).1/\(zpr l).1<1000000000:=by
 unfold zpr at h ⊢
 split
 ·rename_i hc;rw[if_pos hc]at h;cases h
 ·rename_i hc
  rw[if_neg hc]at h
  split
  ·rename_i hd
   have:Zv l<10 ^ 9:=zfv (by omega) hd
   simp only;omega
  ·rename_i hd;rw[if_neg hd]at h;cases h
end
end Go.X
end
section
namespace Go.X
section
theorem zbt(gl:Fr)(s0:Bt)(Z:Bt)(R:Bool->Prop)
  (H:PC Tp gl 265 [Arg.mk .str s0,Arg.mk .str Z] [.int .i64] (λa:Int=>R (decide (a>=0)))):
  PC Tp gl 209 [Arg.mk .str s0,Arg.mk .str Z] [.bool] R:=
 PF ⟨[],[],[],[]⟩ [.tmp 4] 9 Tryz.func209 H
theorem zek(gl:Fr)(s0:Bt)(aa:Bt)(R:Int->Prop)
  (H:((aa.toList==(⟨#[]⟩:Bt).toList)=true->R (-1))/\((aa.toList==(⟨#[]⟩:Bt).toList)=false->(((aa.size:Int)==1)=true->(0<=(0:Int)/\(0:Int)<(aa.size:Int))/\∀a:Int->Prop,(∀b:Int,(PC Tp gl 269 [Arg.mk .str s0,Arg.mk (.int .i32) b] [.int .i64] (λc:Int=>R c))->a b)->((decide ((Ar .i32 (Zc aa (0:Int).toNat))>=128))=true->a 65533)/\((decide ((Ar .i32 (Zc aa (0:Int).toNat))>=128))=false->a (Ar .i32 (Zc aa (0:Int).toNat))))/\(((aa.size:Int)==1)=false->∀d:Prop,((∃(e:(Bt×Nat)->Prop) (f:(Bt×Nat)->Nat),e (s0,0)/\∀Z:Bt×Nat,e Z->(((nxB Z.1 Z.2)=true->(nxB Z.1 Z.2)=true/\(nxB Z.1 Z.2)=true/\PC Tp gl 269 [Arg.mk .str aa,Arg.mk (.int .i32) (nxR Z.1 Z.2)] [.int .i64] (λg:Int=>(decide (g>=0)=true->R (Z.2:Int))/\(decide (g>=0)=false->(e (Z.1,nxP Z.1 Z.2)/\f (Z.1,nxP Z.1 Z.2)<f Z))))/\((nxB Z.1 Z.2)=false->R (-1))))->d)->PC Tp gl 293 [Arg.mk (.int .i64) (s0.size:Int)] [.bool] (λi:Bool=>(i=true->False)/\(i=false->d))))):
  PC Tp gl 265 [Arg.mk .str s0,Arg.mk .str aa] [.int .i64] R:=
 PF ⟨[],[],[(18,⟨[],[(45,[.dat .iter])],[],[1002880]⟩)],[(7,⟨[(5,.one (.dat (.int .i32)))],[],[],[100320]⟩),(17,⟨[],[],[],[]⟩)]⟩ [.tmp 4] 55 Tryz.func265 H
theorem Ws(gl:Fr)(s0:Bt)(r1:Int)(R:Int->Prop)
  (H:((bif (decide ((0:Int)<=r1))then(decide (r1<128))else false)=true->PC Tp gl 212 [Arg.mk .str s0,Arg.mk (.int .u8) (Ar .u8 r1)] [.int .i64] (λa:Int=>R a))/\((bif (decide ((0:Int)<=r1))then(decide (r1<128))else false)=false->((r1==65533)=true->∃(b:(Bt×Nat)->Prop) (c:(Bt×Nat)->Nat),b (s0,0)/\∀Z:Bt×Nat,b Z->(((nxB Z.1 Z.2)=true->(nxB Z.1 Z.2)=true/\(nxB Z.1 Z.2)=true/\(((nxR Z.1 Z.2:Int)==65533)=true->R (Z.2:Int))/\(((nxR Z.1 Z.2:Int)==65533)=false->(b (Z.1,nxP Z.1 Z.2)/\c (Z.1,nxP Z.1 Z.2)<c Z)))/\((nxB Z.1 Z.2)=false->R (-1))))/\((r1==65533)=false->PC Tp gl 300 [Arg.mk (.int .i32) r1] [.bool] (λd:Bool=>((!d)=true->R (-1))/\((!d)=false->False))))):
  PC Tp gl 269 [Arg.mk .str s0,Arg.mk (.int .i32) r1] [.int .i64] R:=
 PF ⟨[],[],[(38,⟨[],[(175,[.dat .iter])],[],[1011200]⟩)],[]⟩ [.tmp 4] 187 Tryz.func269 H
theorem W0(gl:Fr)(Z:Int)(R:Bool->Prop)
  (H:R (decide (Z>8))):
  PC Tp gl 293 [Arg.mk (.int .i64) Z] [.bool] R:=
 PF ⟨[],[],[],[]⟩ [.tmp 2] 5 Tryz.func293 H
end
end Go.X
end
section
namespace Go.X
open Go Go.X Go.Proofs Go.RowKit
section
variable {gl:Fr} {R:Int -> Prop} {l:Bs}
theorem zjh{f:FuncId}{args:List Arg}{us:List Value}(aa:zha args=some us)(hR:∀n,R n)
  (H:∀w:World,Calls Tp f us.toArray w λe w'=>IR e/\Below w.heap.size w w'):PC Tp gl f args [.int .i64] R:=by
 intro h M vs hM ag ha
 rw[zfq aa ha]
 refine XC.of_calls λB d=>(H (mk B d h)).mono ?_
 rintro e w' ⟨⟨n,rfl⟩,Z⟩
 have k:Keep h.size h w'.heap:=⟨Z.size,Z.block⟩
 exact⟨_,rfl,Z.os,Z.tape,Z.output,k,M,n,Fr.le.refl _,λ_ _=>rfl,ag.keep k,zyq _ _,hR n⟩
theorem zps{r:Int}(hr:0<=r)(hR:∀n,R n):PC Tp gl 269 [Arg.mk .str (bl [43,45,95]),Arg.mk (.int .i32) r] [.int .i64] R:=by
 by_cases h1:r<128
 ·apply Ws
  have e:(bif decide ((0:Int)<=r)then decide (r<128)else false)=true:=by simp[hr,h1]
  rw[e]
  exact⟨λ_=>zch (hR _),λhx=>by cases hx⟩
 ·by_cases h2:r=65533
  ·subst h2
   apply Ws
   refine⟨λ_=>zch (hR _),λ_=>⟨λ_=>?_,λhx=>by cases hx⟩⟩
   refine⟨λq=>∃p:Nat,q=(bl [43,45,95],p),λq=>3-q.2,⟨0,rfl⟩,?_⟩
   rintro q ⟨p,rfl⟩
   simp only[zpc]
   refine⟨λhn=>⟨hn,hn,λ_=>hR _,λ_=>⟨⟨_,rfl⟩,?_⟩⟩,λ_=>hR _⟩
   have hp:p < [43,45,95].length:=by simpa using hn
   have Z:p<3:=hp
   rw[zja _ _ hp]
   have:=(Yv (([43,45,95]:Bs).drop p)).1
   omega
  ·exact zjh (us:=[.string ⟨#[43,45,95]⟩,.int .i32 r]) rfl hR λw=>zsa r w (by omega) h2
theorem zzr(w:World)(o1 o2:Obj):Below w.heap.size w ((w.alloc o1).alloc o2):=((Below.refl _ w).alloc (Av _) o1).alloc (by show w.heap.size<=(w.heap.push o1).size;simp) o2
theorem zzs(l:Bs):(0:Int)<=((dec l).1:Int):=Int.natCast_nonneg _
theorem zzt(hl:l.length<=9){R:Bool->Prop}(h1:zsb l->R (l.any λc=>[43,45,95].contains c))(h2:¬zsb l->∀b,R b):PC Tp gl 209 [Arg.mk .str (bl l),Arg.mk .str (bl [43,45,95])] [.bool] R:=by
 have Z:∀(j:Nat) (b:UInt8),([43,45,95]:Bs)[j]?=some b->b.toNat<128:=by
  intro j b hb
  have:b∈([43,45,95]:Bs):=Bl hb
  simp at this
  rcases this with rfl|rfl|rfl <;> decide
 by_cases ha:zsb l
 ·refine zj2 (s:=bl l) (c:=bl [43,45,95]) (by rw[Zf];omega) (by rw[Zf];decide) ?_ ?_ ?_
  ·rw[Yh];exact λj b hb=>ha b (Bl hb)
  ·rw[Yh];exact Z
  ·rw[Yh,Yh,zcl];exact h1 ha
 ·have hb:=h2 ha
  apply zbt
  by_cases h8:l.length<=8
  ·apply zek
   have e1:((bl [43,45,95]).toList==(⟨#[]⟩:Bt).toList)=false:=by rw[z4z,Yh];rfl
   have e2:((((bl [43,45,95]).size:Int))==1)=false:=by rw[Zf];rfl
   rw[e1,e2]
   refine⟨λhx=>(by cases hx),λ_=>⟨λhx=>(by cases hx),λ_ K hK=>?_⟩⟩
   apply W0
   have e3:decide (((bl l).size:Int)>8)=false:=by rw[Zf];simp;omega
   rw[e3]
   refine⟨λhx=>(by cases hx),λ_=>hK ?_⟩
   refine⟨λq=>∃p:Nat,q=(bl l,p),λq=>l.length-q.2,⟨0,rfl⟩,?_⟩
   rintro q ⟨p,rfl⟩
   simp only[zpc]
   refine⟨λhn=>⟨hn,hn,?_⟩,λ_=>hb _⟩
   have hp:p<l.length:=by simpa using hn
   refine zps (by rw[zpd];exact zzs _) λn=>⟨λ_=>hb _,λ_=>⟨⟨_,rfl⟩,?_⟩⟩
   rw[zja _ _ hp]
   have:=(Yv (l.drop p)).1
   omega
  ·refine zjh (us:=[.string (bl l),.string (bl [43,45,95])]) rfl (λn=>hb _) λw=>?_
   have hz:=(zero_of_info (P:=Tp) (t:=169) (v:=.agg (Br 256 (.bool false))) (n:=256) (by kernel_rfl)).1
   refine(zbi hz (bl l) (bl [43,45,95]) w (by rw[Zf];decide) (by rw[Zf];omega) (by rw[Zf];omega) (by rw[Zf];decide) Z).mono ?_
   rintro e w' ⟨rfl,rfl⟩
   exact⟨⟨_,rfl⟩,zzr w _ _⟩
theorem zzu:(bif (bif (l==[])then true else decide ((l.length:Int)>9))then true else(bif (!(l==[48]))then((((l[0]?).getD 0).toNat:Int)==48)else false))=decide (l.length<1\/9<l.length\/(1<l.length/\l.head?=some 48)):=by
 match l with
 |[]=>simp
 |[c]=>
  rw[A6,decide_eq_true_eq]
  by_cases hc:c=48
  ·subst hc;simp
  ·have:((c.toNat:Int)==48)=false:=by
    have:=zty (c:=c) (n:=48) 48 rfl
    unfold bne at this
    rw[<-Bool.not_not ((c.toNat:Int)==48),this];simp[hc]
   show(bif (bif ([c]==[])then true else decide ((([c]:Bs).length:Int)>9))then true else(bif (!([c]==[48]))then((c.toNat:Int)==48)else false))=true↔_
   rw[this];simp
 |c::d::t=>
  have e:((c.toNat:Int)==48)=(c==48):=by
   have:=zty (c:=c) (n:=48) 48 rfl
   unfold bne at this
   rw[<-Bool.not_not ((c.toNat:Int)==48),this,Bool.not_not]
  show(bif (bif ((c::d::t)==[])then true else decide (((c::d::t:Bs).length:Int)>9))then true else(bif (!((c::d::t)==[48]))then((c.toNat:Int)==48)else false))=_
  rw[e,A6,decide_eq_true_eq]
  have aa:¬(c::d::t:Bs).length<1:=by simp
  have Z:1<(c::d::t:Bs).length:=by simp
  have h1:((c::d::t:Bs)==[])=false:=rfl
  have h2:((c::d::t:Bs)==[48])=false:=by simp
  rw[h1,h2,cond_false,Bool.not_false,cond_true]
  generalize (c::d::t:Bs).length=n at *
  by_cases h9:9<n
  ·have:decide ((n:Int)>9)=true:=by simp;omega
   rw[this];simp[h9]
  ·have:decide ((n:Int)>9)=false:=by simp;omega
   rw[this,cond_false];simp[h9,aa,Z]
theorem z3b(h:l.any (λc=>[43,45,95].contains c)=false):∀c,l.head?=some c->c.toNat≠43/\c.toNat≠45:=by
 intro c hc
 rw[List.any_eq_false]at h
 have:=h c (List.mem_of_head? hc)
 constructor
 ·intro e
  have:c=43:=D7.1 (by rw[e];rfl)
  subst this;exact absurd rfl ‹¬_›
 ·intro e
  have:c=45:=D7.1 (by rw[e];rfl)
  subst this;exact absurd rfl ‹¬_›
theorem zpt(h:l.all Q1=true):zsb l/\(l.any λc=>[43,45,95].contains c)=false:=by
 rw[A5]at h
 constructor
 ·intro c hc
  have:=h c hc
  simp[Q1]at this;omega
 ·rw[List.any_eq_false]
  intro c hc hm
  have h2:=h c hc
  simp[Q1]at h2
  simp at hm
  rcases hm with rfl|rfl|rfl <;> revert h2 <;> decide
theorem zzv(hg:GL gl)(hl:l.length<=1048576){R:Int×Bool->Prop}(h:R (zpr l)):PC Tp gl 135 [Arg.mk .str (bl l)] [.int .i64,.bool] R:=by
 apply zhj
 have ai:∀s:Bs,((bl s).toList==(⟨#[48]⟩:Bt).toList)=(s==[48]):=λs=>by rw[show(⟨#[48]⟩:Bt)=bl [48]from rfl,qdo,Yh]
 simp only[Zf,Yd,show(0:Int).toNat=0 from rfl,z4z,Yh,ai,zzu]
 refine⟨λhx=>⟨by omega,?_⟩,?_⟩
 ·simp at hx
  have:=BC.2 hx.1.1
  omega
 unfold zpr at h
 by_cases Z:l.length<1\/9<l.length\/(1<l.length/\l.head?=some 48)
 ·rw[if_pos Z]at h
  rw[decide_eq_true Z]
  exact⟨λ_=>True,λhx=>(by cases hx),λr _=>⟨λ_=>h,λhx=>by cases hx⟩⟩
 ·rw[if_neg Z]at h
  rw[decide_eq_false Z]
  refine⟨λb=>(l.all Q1=true->b=false)/\(l.all Q1=false->b=false->∀v,Lib.atoiAll l≠.ok v),λ_=>?_,λb hb=>?_⟩
  ·refine zzt (by omega) (λha=>⟨λhd=>(zpt hd).2,λhd hf=>z7y hd (z3b hf)⟩) (λaa b=>⟨λhd=>absurd (zpt hd).1 aa,λhd hf v=>z7z aa v⟩)
  ·obtain⟨af,ae⟩:=hb rfl
   refine⟨λhx=>?_,λhx=>?_⟩
   ·have ab:b=true:=by simpa using hx
    cases hd:l.all Q1 with
    |true=>rw[af hd]at ab;cases ab
    |false=>rw[hd,if_neg (by simp)]at h;exact h
   ·have ah:b=false:=by simpa using hx
    refine z7f hg.err (s:=bl l) (by rw[Zf];omega) ?_
    rw[Yh]
    unfold z7e
    cases hd:l.all Q1 with
    |true=>
     rw[z7x hd (by rintro rfl;simp at Z) (by omega)]
     rw[hd,if_pos rfl]at h
     exact⟨λhx=>(by cases hx),λ_=>h⟩
    |false=>
     rw[hd,if_neg (by simp)]at h
     have:=ae hd ah
     cases ha:Lib.atoiAll l with
     |ok v=>exact absurd ha (this v)
     |range=>exact⟨λ_=>h,λhx=>by cases hx⟩
     |_=>exact⟨λ_=>h,λhx=>by cases hx⟩
end
section
variable {gl:Fr} {l:Bs}
theorem zzw{gl M:Fr}(hg:zrq gl)(hM:Fr.le gl M){h:Za}(ag:AgM M h){fn s:Bt}(hs:s.size<=281474976710656){b n:Int}{K:Value->Za->Prop}(hK:∀t u h',Keep h.size h h'->K (.iface t u) h'):
  XC Tp 267 #[.string fn,.string s,.int .i64 b,.int .i64 n,.iface 287 (.int .i64 2)] h K:=by
 obtain⟨⟨cs,ev,e1,e2,e3⟩,_⟩:=hg
 refine XC.of_calls λB d=>(zah fn s b n ev (mk B d h) hs (AgM.glob (w:=mk B d h) ag (hM _ _ e1) e2) e3).mono ?_
 rintro e w' ⟨N,rfl,h1,h2,Z⟩
 exact⟨_,rfl,Z.os,Z.tape,Z.output,hK _ _ _ ⟨Z.size,Z.block⟩⟩
theorem znc:∀{l:Bs} {c:UInt8} (n:Nat),c∈l->zjp c=none->zka n l=none
 |x::l,c,n,hc,hv=>by
  show(match zjp x with|some d=>zka (16*n+d) l|none=>none)=none
  rcases Ay.1 hc with rfl|hc
  ·rw[hv]
  ·cases zjp x with
   |none=>rfl
   |some d=>exact znc _ hc hv
theorem zub{c:UInt8}(h:c.toNat<48\/c=95\/128<=c.toNat):zjp c=none:=by
 have h':c.toNat<48\/c.toNat=95\/128<=c.toNat:=by rcases h with h|rfl|h <;> simp[*]
 unfold zjp
 rw[if_neg (by omega),if_neg (by omega),if_neg (by omega)]
theorem zpu(hg:GL gl)(hl:l.length=4){R:Int×Bool->Prop}(h1:∀n:Nat,zka 0 l=some n->R ((n:Int),true))(h2:zka 0 l=none->R (0,false)):
  PC Tp gl 329 [Arg.mk .str (bl l),Arg.mk (.int .i64) 16,Arg.mk (.int .i64) 32] [.int .u64,.err] R:=by
 intro h M vs hM ag ha
 match vs,ha with
 |[u1,u2,u3],⟨a1,a2,a3,_⟩=>
  obtain rfl:=Y1 a1
  obtain rfl:=Zy a2
  obtain rfl:=Zy a3
  apply PX.of
  apply zdb
  refine zr8 hl (λn h' e k=>?_) (λh' e k=>?_)
  ·exact⟨(n:Int),.nilIface,rfl,rfl,λhx=>(by cases hx),λ_=>⟨M,((n:Int),true),Later.same ag k,zpb _ _,h1 n e⟩⟩
  ·refine⟨0,.iface _ _,rfl,rfl,λ_=>?_,λhx=>(by cases hx)⟩
   refine zzw hg.err hM (ag.keep k) (by rw[Zf];omega) λt u h3 k3=>⟨_,rfl,M,(0,false),Later.same ag (k.trans k3 k.size),zrr _ _ _ _,h2 e⟩
theorem zzx(hg:GL gl)(hl:l.length<=1152921504606846976){R:Int×Bool->Prop}(h1:∀n:Nat,zgx l=some n->R ((n:Int),true))(h2:zgx l=none->∀v,R (v,false)):
  PC Tp gl 328 [Arg.mk .str (bl l)] [.int .i32,.bool] R:=by
 apply zna
 simp only[Zf,Jy,show(0:Int).toNat=0 from rfl,show(4:Int).toNat=4 from rfl,Cc,Dv]
 by_cases h4:l.length<4
 ·have e:decide (((l.length:Nat):Int)<4)=true:=by rw[decide_eq_true_eq];omega
  have e9:zgx l=none:=by unfold zgx;rw[if_neg (by omega)]
  simp only[e]
  exact⟨λhx=>(by cases hx),λ_=>True,λhx=>(by cases hx),λr _=>⟨λ_=>h2 e9 0,λhx=>(by cases hx)⟩⟩
 ·have e:decide (((l.length:Nat):Int)<4)=false:=by rw[decide_eq_false_iff_not];omega
  simp only[e]
  have Z:zgx l=zka 0 (l.take 4):=by unfold zgx;rw[if_pos (by omega)]
  have ht:(l.take 4).length=4:=by rw[Bc];omega
  refine⟨λ_=>⟨by omega,by omega,by omega⟩,λr=>r=true->zgx l=none,λ_=>?_,λr hr=>⟨λhx=>h2 (hr rfl hx) 0,λhx=>⟨⟨by omega,by omega,by omega⟩,?_⟩⟩⟩
  ·refine zzt (l:=l.take 4) (by omega) (λha hb=>?_) (λha b hb=>?_)
   ·obtain⟨c,hc,aa⟩:=List.any_eq_true.1 hb
    rw[Z]
    refine znc 0 hc (zub ?_)
    simp at aa
    rcases aa with rfl|rfl|rfl
    ·left;decide
    ·left;decide
    ·right;left;rfl
   ·rw[Z]
    have:∃c∈l.take 4,128<=c.toNat:=by
     refine CU λhn=>ha λc hc=>?_
     refine CU λh9=>hn ⟨c,hc,by omega⟩
    obtain⟨c,hc,aa⟩:=this
    exact znc 0 hc (zub (.inr (.inr aa)))
  ·refine zpu hg ht (λn e1=>?_) (λe1=>h2 (Z.trans e1) _)
   have hn:=znb (Z.trans e1)
   have:=h1 n (Z.trans e1)
   rw[zcf (by omega) (by omega)]
   exact this
end
section
variable {M:Fr} {h:Za} {K:Value -> Za -> Prop} {b o c:Nat}
def Brn(gl:Fr):Prop:=∃cs:Array Value,gl 7=some cs/\cs[15]?=some (.int .u8 4)
theorem Brn.mono{gl M:Fr}(h:Brn gl)(le:Fr.le gl M):Brn M:=by
 obtain⟨cs,e,h⟩:=h;exact⟨cs,le _ _ e,h⟩
theorem z8a(hK:K (.bool true) h):XC Tp 273 #[.int .i64 16] h K:=by
 apply Jo
 exact Eq.mpr (congrArg (λb=>K (.bool b) h) (by kernel_rfl)) hK
theorem qez(hb:Brn M)(ag:AgM M h)(hK:K (.int .i64 4) h):XC Tp 274 #[.int .u64 16] h K:=by
 obtain⟨cs,e,hc⟩:=hb
 apply Xp
 refine⟨λhx=>(by cases hx),λ_=>?_⟩
 apply Wx
 refine⟨λhx=>(by cases hx),λ_=>⟨_,⟨rfl,by decide +kernel,by decide +kernel⟩,4,?_,4,rfl,hK⟩⟩
 have key:∀n:Nat,n=15->Ze h (AD ⟨7,0,none⟩ n)=some (.int .u8 4):=by
  rintro n rfl;exact ag.cell e hc
 exact key _ (by kernel_rfl)
def qem:Bs:=[48,49,50,51,52,53,54,55,56,57,97,98,99,100,101,102,103,104,105,106,107,108,109,110,111,112,113,114,115,116,117,118,119,120,121,122]
def dgH(k:Nat):UInt8:=qem[k]?.getD 0
theorem zli(k:Nat):Zc (⟨#[48,49,50,51,52,53,54,55,56,57,97,98,99,100,101,102,103,104,105,106,107,108,109,110,111,112,113,114,115,116,117,118,119,120,121,122]⟩:Bt) k=((dgH k).toNat:Int):=Yd qem k
def zc2(c:Nat):Bs:=if c<16 then [dgH c]else [dgH 1,dgH (c % 16)]
def z65:Array Value:=#[.int .u8 0,.int .u8 0,.int .u8 0,.int .u8 0,.int .u8 0,.int .u8 0,.int .u8 0,.int .u8 0,.int .u8 0,.int .u8 0,.int .u8 0,.int .u8 0,.int .u8 0,.int .u8 0,.int .u8 0,.int .u8 0,.int .u8 0,.int .u8 0,.int .u8 0,.int .u8 0,.int .u8 0,.int .u8 0,.int .u8 0,.int .u8 0,.int .u8 0,.int .u8 0,.int .u8 0,.int .u8 0,.int .u8 0,.int .u8 0,.int .u8 0,.int .u8 0,.int .u8 0,.int .u8 0,.int .u8 0,.int .u8 0,.int .u8 0,.int .u8 0,.int .u8 0,.int .u8 0,.int .u8 0,.int .u8 0,.int .u8 0,.int .u8 0,.int .u8 0,.int .u8 0,.int .u8 0,.int .u8 0,.int .u8 0,.int .u8 0,.int .u8 0,.int .u8 0,.int .u8 0,.int .u8 0,.int .u8 0,.int .u8 0,.int .u8 0,.int .u8 0,.int .u8 0,.int .u8 0,.int .u8 0,.int .u8 0,.int .u8 0,.int .u8 0,.int .u8 0]
theorem qe0:Z6 Tp 5=true:=by kernel_rfl
theorem qe1:Qh Tp 5=1:=by kernel_rfl
theorem qa3{l:Bs}{cap:Nat}(hc:∀j (hj:j<l.length),Ze h ⟨b,o+j,none⟩=some (.int .u8 (l[j].toNat:Int)))(hK:K (.string (bl l)) h):
  XRun Tp (convert 110 9 (.slice (some ⟨b,o,none⟩) l.length cap)) h K:=by
 intro B d
 refine⟨_,d,h,run_convert_bytes_back (P:=Tp) (mk B d h) 110 9 5 ⟨b,o,none⟩ cap l Tryz.underlying110 BU BM λj hj=>?_,hK⟩
 rw[zqq,Zq];exact hc j hj
theorem qa4(hc:c<18446744073709551616):Ar .u64 (((AH (AB .u64) (c:Int)) &&& (AH (AB .u64) (15:Int))).toNat:Int)=((c % 16:Nat):Int):=by
 rw[show(15:Int)=((15:Nat):Int)from rfl,z2n hc (by decide)]
 congr 1
 exact Nat.and_two_pow_sub_one_eq_mod c 4
theorem zzy{k:Nat}(h:k<36):0<=(k:Int)/\(k:Int)<(((⟨#[48,49,50,51,52,53,54,55,56,57,97,98,99,100,101,102,103,104,105,106,107,108,109,110,111,112,113,114,115,116,117,118,119,120,121,122]⟩:Bt)).size:Int):=by
 have:(((⟨#[48,49,50,51,52,53,54,55,56,57,97,98,99,100,101,102,103,104,105,106,107,108,109,110,111,112,113,114,115,116,117,118,119,120,121,122]⟩:Bt)).size:Int)=36:=rfl
 rw[this];omega
theorem zzz{g:Za}{cs:Array Value}(B:Blk g b cs)(ho:o<cs.size){x:Int}{K:Za->Prop}(hK:∀g',Blk g' b (cs.setIfInBounds o (.int .u8 x))->g'.size=g.size->(∀i,i≠b->g'[i]?=g[i]?)->K g'):XRunU Tp (AI 5 (.pointer (some ⟨b,o,none⟩)) (.int .u8 x)) g K:=
 Ji qe0 qe1 B ho rfl hK
set_option maxRecDepth 100000 in
set_option maxHeartbeats 4000000 in
theorem qdq(hc:c<32)(hb:Brn M)(ag:AgM M h)(hK:∀h',Keep h.size h h'->K (.tuple #[.slice none 0 0,.string (bl (zc2 c))]) h'):
  XC Tp 224 #[.slice none 0 0,.int .u64 (c:Int),.int .i64 16,.bool false,.bool false] h K:=by
 refine Wg ⟨none,0,0⟩ (c:Int) 16 false false h K ?_
 intro K2 au
 refine⟨λhx=>(by simp at hx),λ_=>au _ ?_⟩
 intro h3
 have k3:Keep h.size h h3:=Keep.push _ _ (Av _)
 have z3:h3.size=h.size+1:=AM _
 have B3:Blk h3 h.size z65:=Blk.new _ _ _
 clear_value h3
 have ap:=ag.keep k3
 intro K6 aA
 refine⟨λhx=>(by cases hx),λ_=>aA _ _ ?_⟩
 intro K9 az
 have aC:Ar .u64 16=16:=by decide
 have ay:Ar .u64 (16-1)=15:=by decide
 rw[aC,ay]
 refine z8a ⟨true,rfl,λ_=>?_,λhx=>(by cases hx)⟩
 refine qez hb ap ⟨_,rfl,?_⟩
 have ae:z65.size=65:=rfl
 have ah:∀(g:Za) (cs:Array Value) (u i:Nat),Keep h.size h g->Blk g h.size cs->cs.size=65->u<16->1<=i->i<=65->(∀j,j<65-i->∃x:UInt8,(zc2 c)[j+1]?=some x/\cs[i+j]?=some (.int .u8 (x.toNat:Int)))->(zc2 c).length=66-i->(zc2 c)[0]?=some (dgH u) ->
   XRunU Tp (AI 5 (.pointer (some (AD ⟨h.size,0,none⟩ (((i-1:Nat):Int).toNat*1)))) (.int .u8 (Zc (⟨#[48,49,50,51,52,53,54,55,56,57,97,98,99,100,101,102,103,104,105,106,107,108,109,110,111,112,113,114,115,116,117,118,119,120,121,122]⟩:Bt) ((u:Int)).toNat))) g (λaB=>K9 (((i-1:Nat):Int)) aB):=by
  intro g cs u i kg Bg af hu aG aH ab ak Z
  rw[AK,AK,C5,zli]
  rw[Zq,AX]
  refine zzz Bg (by rw[af];omega) λg2 B2 z2 f2=>az _ _ ?_
  intro aF ai
  refine⟨λhx=>(by cases hx),λ_=>ai _ _ ?_⟩
  refine⟨λhx=>(by cases hx),λ_=>⟨⟨by omega,by omega,by omega⟩,?_⟩⟩
  have am:Keep h.size h g2:=⟨by have:=kg.size;omega,λj hj=>(f2 j (by omega)).trans (kg.get j hj)⟩
  have an:Value.slice (zjr (some ⟨h.size,0,none⟩) 1 ((i-1:Nat):Int).toNat 65) ((65:Int).toNat-((i-1:Nat):Int).toNat) (65-((i-1:Nat):Int).toNat)=.slice (some ⟨h.size,i-1,none⟩) (zc2 c).length (65-(i-1)):=by
   rw[AK,ak,show(65:Int).toNat-(i-1)=66-i from by have:(65:Int).toNat=65:=rfl;omega]
   congr 1
   unfold zjr
   rw[if_neg (by omega)]
   simp only[D6,Zq,AX,C5]
  rw[an]
  refine qa3 (λj hj=>?_) ⟨_,rfl,hK _ am⟩
  refine B2.cell ?_
  rw[Array.getElem?_setIfInBounds]
  cases j with
  |zero=>
   rw[CM,if_pos rfl,if_pos (by rw[af];omega)]
   rw[AE hj]at Z
   rw[AL Z]
  |succ j=>
   rw[if_neg (by omega)]
   obtain⟨x,aj,aE⟩:=ab j (by omega)
   rw[show i-1+(j+1)=i+j from by omega,aE]
   rw[AE hj]at aj
   rw[AL aj]
 refine⟨λu i g=>Keep h.size h g/\((u=(c:Int)/\i=65/\Blk g h.size z65)\/(16<=c/\u=1/\i=64/\Blk g h.size (z65.setIfInBounds 64 (.int .u8 ((dgH (c % 16)).toNat:Int))))),λu _ _=>u.toNat,⟨k3,.inl ⟨rfl,rfl,B3⟩⟩,?_⟩
 rintro u i g ⟨kg,⟨rfl,rfl,Bg⟩|⟨aa,rfl,rfl,Bg⟩⟩
 ·refine⟨λhx=>?_,λhx=>?_⟩
  ·have aa:16<=c:=by have:=of_decide_eq_true hx;omega
   rw[qa4 (by omega)]
   have w64:Ar .i64 ((65:Int)-1)=64:=by decide
   rw[w64]
   refine⟨zzy (by omega),_,⟨rfl,by decide,by decide⟩,?_⟩
   rw[AK,zli,Zq]
   refine zzz (o:=64) Bg (by rw[ae];omega) λg2 B2 z2 f2=>⟨by decide,⟨⟨by have:=kg.size;omega,λj hj=>(f2 j (by omega)).trans (kg.get j hj)⟩,.inr ⟨aa,?_,rfl,B2⟩⟩,?_⟩
   ·have:(min (Ar .u64 4).toNat 64)=4:=by decide
    rw[this]
    show(c:Int).fdiv 16=1
    rw[Int.fdiv_eq_ediv_of_nonneg _ (by decide)];omega
   ·have:(min (Ar .u64 4).toNat 64)=4:=by decide
    rw[this]
    show((c:Int).fdiv 16).toNat<(c:Int).toNat
    rw[Int.fdiv_eq_ediv_of_nonneg _ (by decide)];omega
  ·have aa:c<16:=by have:=of_decide_eq_false hx;omega
   have w64:Ar .i64 ((65:Int)-1)=((65-1:Nat):Int):=by decide
   rw[w64]
   refine⟨zzy (by omega),_,⟨rfl,by decide,by decide⟩,?_⟩
   have ht:zc2 c=[dgH c]:=by unfold zc2;rw[if_pos aa]
   exact ah g z65 c 65 kg Bg rfl aa (by omega) (by omega) (λj hj=>by omega) (by rw[ht];rfl) (by rw[ht];rfl)
 ·refine⟨λhx=>?_,λhx=>?_⟩
  ·exact absurd (of_decide_eq_true hx) (by omega)
  ·have ar:Ar .i64 ((64:Int)-1)=((64-1:Nat):Int):=by decide
   rw[ar]
   refine⟨zzy (k:=1) (by omega),_,⟨rfl,by decide,by decide⟩,?_⟩
   have ht:zc2 c=[dgH 1,dgH (c % 16)]:=by unfold zc2;rw[if_neg (by omega)]
   refine ah g _ 1 64 kg Bg (by simp[ae]) (by omega) (by omega) (by omega) (λj hj=>?_) (by rw[ht];rfl) (by rw[ht];rfl)
   have:j=0:=by omega
   subst this
   exact⟨_,by rw[ht];rfl,by rw[Array.getElem?_setIfInBounds,if_pos rfl,if_pos (by rw[ae];omega)]⟩
theorem zsd(hc:c<32)(hb:Brn M)(ag:AgM M h)(hK:∀h',Keep h.size h h'->K (.string (bl (zc2 c))) h'):XC Tp 84 #[.int .i64 (c:Int),.int .i64 16] h K:=by
 apply zc9
 apply Wp
 refine⟨λhx=>(by simp at hx),λ_=>?_⟩
 have e1:Ar .u64 (c:Int)=(c:Int):=zy8 (by omega) (by omega)
 have e2:decide ((c:Int)<0)=false:=decide_eq_false (by omega)
 rw[e1,e2]
 exact qdq hc hb ag λh' k=>⟨⟨none,0,0⟩,_,rfl,_,rfl,hK h' k⟩
end
end Go.X
end
section
namespace Go.Proofs.YtjohlemfgcmaoaaGreatDoor
open Go Go.X Go.ChangeShapes Go.WideShapes Go.ChangeAt Go.RowKit Go.Lib
set_option linter.unusedVariables false
section
theorem zpv{H:Type}{t:TypeId}{x:ByteArray}(h:qap A7 t (.lit (.string x.data.toList):DataW H)):(lb x).length<=reachBytes:=h _ (by unfold DataW.weights;exact BQ.2 rfl)
theorem qa5{W:World}(h:laidMetH A7 zjd W):Brn (Fz W):=by
 have hl:laidMet A7 zjd W:=by
  rw[MakeChecks.laidMetH_plain _ _ _ (by kernel_rfl)]at h;exact h
 have hv : VarReads Tryz.prog W "math/bits.deBruijn64tab" (tabData .u8 [0, 1, 56, 2, 57, 49, 28, 3, 61, 58, 42, 50, 38, 29, 17, 4, 62, 47, 59, 36, 45, 43, 51, 22, 53, 39, 33, 30, 24, 18, 12, 5, 63, 55, 48, 27, 60, 41, 37, 16, 46, 35, 44, 21, 52, 32, 23, 11, 54, 26, 40, 15, 34, 20, 31, 10, 25, 14, 19, 9, 13, 8, 7, 6]) := by
  have := Go.Lib.laidMet.reads hl (List.mem_of_getElem? (show zjd[1]? = some ("math/bits.deBruijn64tab", Rows.laid_math_bits_deBruijn64tab) from rfl))
  have e:(Rows.laid_math_bits_deBruijn64tab:DataW Unit)=tabData .u8 [0,1,56,2,57,49,28,3,61,58,42,50,38,29,17,4,62,47,59,36,45,43,51,22,53,39,33,30,24,18,12,5,63,55,48,27,60,41,37,16,46,35,44,21,52,32,23,11,54,26,40,15,34,20,31,10,25,14,19,9,13,8,7,6]:=by kernel_rfl
  rw[<-e];exact this
 obtain⟨cs,h1,h2⟩:=zzb (g:=7) (t:=307) (e:=5) (m:=64) (by kernel_rfl) (by kernel_rfl) (by kernel_rfl) (by kernel_rfl) (by kernel_rfl) (by kernel_rfl) hv
 exact⟨cs,h1,by rw[<-BI,h2];rfl⟩
end
end Go.Proofs.YtjohlemfgcmaoaaGreatDoor
end
section
namespace Go.X
open Go Go.Lib
section
variable {a:Nat}
abbrev Tk:=Int×Int×Int
def Wt:Bs:=[32,9,10,13]
def zcm:Bs:=[123,125,91,93,44,58]
def zdl:Bs:=[45,43,46,48,49,50,51,52,53,54,55,56,57,101,69]
def zhr:Bs:=[45,48,49,50,51,52,53,54,55,56,57]
def Yx:Bs:=[97,98,99,100,101,102,103,104,105,106,107,108,109,110,111,112,113,114,115,116,117,118,119,120,121,122]
def J7(p:UInt8->Bool)(l:Bs):Nat:=(l.takeWhile p).length
theorem zz0(p:UInt8->Bool)(l:Bs):J7 p l<=l.length:=(List.takeWhile_sublist p).length_le
theorem zuc{p:UInt8->Bool}{c:UInt8}{l:Bs}(h:p c=true):0<J7 p (c::l):=by
 unfold J7;rw[List.takeWhile_cons,if_pos h];simp
theorem znd{p:UInt8->Bool}:∀{l:Bs} {k:Nat} (hk:k<=l.length),(∀j (hj:j<k),p (l[j]'(by omega))=true)->(∀h:k<l.length,p l[k]=false)->J7 p l=k
 |[],k,hk,h1,h2=>by simp at hk;subst hk;rfl
 |c::l,0,hk,h1,h2=>by
  have:=h2 (by simp)
  unfold J7;rw[List.takeWhile_cons,if_neg (by simp at this;simp[this])];rfl
 |c::l,k+1,hk,h1,h2=>by
  have hc:=h1 0 (by omega)
  simp only[List.getElem_cons_zero]at hc
  unfold J7
  rw[List.takeWhile_cons,if_pos hc,AN]
  have:=znd (p:=p) (l:=l) (k:=k) (by simp at hk;omega) (λj hj=>by have:=h1 (j+1) (by omega);simpa using this) (λhh=>by have:=h2 (by simp;omega);simpa using this)
  unfold J7 at this
  omega
def zf0(s:Bs):Int:=if s=[116,114,117,101]then 10 else if s=[102,97,108,115,101]then 11 else if s=[110,117,108,108]then 12 else 0
def Y5(l:Bs)(c:UInt8):Bool:=decide (c∈l)
def J5(s:Bs)(a:Nat):Int×Nat×Int:=match s.drop a with
 |[]=>(0,a,2)
 |c::t=>
  if c∈zcm then(2+indexByte zcm c,a+1,0)
  else if c∈Wt then(1,a+J7 (Y5 Wt) (c::t),0)
  else if c=34 then(if(Qt s a).2.2=0 then(8,(Qt s a).2.1,0)else(0,(Qt s a).2.1,(Qt s a).2.2))
  else if c∈zhr then(if(Zh ((c::t).take (J7 (Y5 zdl) (c::t)))).2=0 then(9,a+J7 (Y5 zdl) (c::t),0)else(0,a,(Zh ((c::t).take (J7 (Y5 zdl) (c::t)))).2))
  else if zf0 ((c::t).take (J7 (Y5 Yx) (c::t)))=0 then(0,a,2)else(zf0 ((c::t).take (J7 (Y5 Yx) (c::t))),a+J7 (Y5 Yx) (c::t),0)
theorem zwj{t:Bs}(h:(Qt t a).2.2=0):a<(Qt t a).2.1/\(Qt t a).2.1<=t.length:=by
 unfold Qt at h ⊢
 split at h
 ·rename_i hh
  rw[if_pos hh]
  have:=(zzn _ (t.drop (a+1)) rfl).1
  have Z:a<t.length:=by
   rcases A1 a t.length with h1|h1
   ·exact h1
   ·rw[BJ h1]at hh;cases hh
  rw[AW]at this
  dsimp only at h ⊢
  split at h
  ·rename_i h2;rw[if_pos h2];dsimp only;omega
  ·cases h
 ·cases h
theorem zcn{s:Bs}(ha:a<s.length)(h:(J5 s a).2.2=0):a<(J5 s a).2.1/\(J5 s a).2.1<=s.length:=by
 have hd:s.drop a=s[a]::s.drop (a+1):=A9 ha
 have hl:(s[a]::s.drop (a+1)).length=s.length-a:=by rw[<-hd,AW]
 have rb:=λp=>zz0 p (s[a]::s.drop (a+1))
 rw[hl]at rb
 unfold J5 at h ⊢
 rw[hd]at h ⊢
 dsimp only at h ⊢
 split
 ·dsimp only;omega
 ·rename_i h1
  rw[if_neg h1]at h
  split
  ·rename_i h2
   have:=zuc (p:=Y5 Wt) (l:=s.drop (a+1)) (c:=s[a]) (by unfold Y5;exact decide_eq_true h2)
   have:=rb (Y5 Wt)
   dsimp only;omega
  ·rename_i h2
   rw[if_neg h2]at h
   split
   ·rename_i h3
    rw[if_pos h3]at h
    split at h
    ·rename_i h4
     rw[if_pos h4]
     exact zwj h4
    ·rename_i h4;exact absurd h h4
   ·rename_i h3
    rw[if_neg h3]at h
    split
    ·rename_i h4
     rw[if_pos h4]at h
     split at h
     ·rename_i h5
      rw[if_pos h5]
      have hn:s[a]∈zdl:=by
       have:∀c∈zhr,c∈zdl:=by decide
       exact this _ h4
      have:=zuc (p:=Y5 zdl) (l:=s.drop (a+1)) (c:=s[a]) (by unfold Y5;exact decide_eq_true hn)
      have:=rb (Y5 zdl)
      dsimp only;omega
     ·rename_i h5;exact absurd h h5
    ·rename_i h4
     rw[if_neg h4]at h
     split at h
     ·cases h
     ·rename_i h5
      rw[if_neg h5]
      have:0<J7 (Y5 Yx) (s[a]::s.drop (a+1)):=by
       refine Nat.pos_of_ne_zero λe=>h5 ?_
       rw[e];rfl
      have:=rb (Y5 Yx)
      dsimp only;omega
def zbk:Nat->Bs->Nat->List Tk->List Tk×Nat×Int
 |0,_,a,o=>(o,a,0)
 |f+1,s,a,o=>if a<s.length then(if(J5 s a).2.2=0 then zbk f s (J5 s a).2.1 (o++[((J5 s a).1,((a:Int),((J5 s a).2.1:Int)))])else([],(J5 s a).2.1,(J5 s a).2.2))else(o,a,0)
def Yr(s:Bs):List Tk×Nat×Int:=if 65536<s.length then([],0,3)else zbk s.length s 0 []
end
section
variable {s:Bs}
abbrev Sp:=Int×Int
abbrev Nd:=Int×Sp×Sp×List Int×List Sp
structure PSt where
 rest:List Tk
 last:Int
 nodes:List Nd
abbrev PR(α:Type):=α ⊕ (Int×Int)
def PSt.kind(st:PSt):Int:=match st.rest with | []=>0|t::_=>t.1
def PSt.here(st:PSt)(n:Nat):Int:=match st.rest with | []=>(n:Int)|t::_=>t.2.1
def PSt.skip(st:PSt):PSt:=match st.rest with | []=>st|t::r=>⟨r,t.2.2,st.nodes⟩
def Z9(k:Int):Int:=if k=12 then 1 else if k=10\/k=11 then 2 else if k=9 then 3 else if k=8 then 4 else if k=4 then 5 else if k=2 then 6 else 0
def zz1(k:Int)(p:Sp)(x:Nd):Nd:=(x.1,x.2.1,x.2.2.1,x.2.2.2.1++[k],x.2.2.2.2++[p])
def z8b(t:Int)(x:Nd):Nd:=(x.1,(x.2.1.1,t),x.2.2)
def PSt.addKid(st:PSt)(n:Nat)(k:Int)(p:Sp):PSt:=⟨st.rest,st.last,st.nodes.modify n (zz1 k p)⟩
def PSt.setTo(st:PSt)(n:Nat):PSt:=⟨st.rest,st.last,st.nodes.modify n (z8b st.last)⟩
def PSt.err{α:Type}(st:PSt)(s:Bs)(e:Int):PR α:=.inr (st.here s.length,e)
abbrev zns:=List Bs->PSt->PR (List Bs×PSt)
def zco(s:Bs)(n:Nat)(closing:Int)(kid:zns):Nat->List Bs->PSt->PR PSt
 |0,_,st=>st.err s 2
 |f+1,had,st=>match kid had st with
  |.inr e=>.inr e
  |.inl (had',st')=>
   if st'.kind=closing then .inl (st'.addKid n st.nodes.length (st.last,st'.here s.length)).skip
   else if st'.kind=6 then zco s n closing kid f had' (st'.addKid n st.nodes.length (st.last,st'.here s.length)).skip
   else st'.err s 2
def zdd(s:Bs)(n:Nat)(closing:Int)(kid:zns)(st:PSt):PR PSt:=
 if st.kind=closing then .inl st.skip else zco s n closing kid (st.rest.length+1) [] st
abbrev zpw:=Sp->PSt->PR PSt
def zhs(val:zpw):zns:=λhad st=>match val (0,0) st with
 |.inl st'=>.inl (had,st')
 |.inr e=>.inr e
def zel(s:Bs)(p:Sp):Bs:=(s.drop p.1.toNat).take (p.2.toNat-p.1.toNat)
def zse(s:Bs)(val:zpw):zns:=λhad st=>match st.rest with
 |[]=>st.err s 2
 |t::_=>
  if t.1=8 then
   if(zei (zel s t.2)).1∈had then st.err s 7
   else if st.skip.kind=7 then match val t.2 st.skip.skip with
    |.inl st'=>.inl (had++[(zei (zel s t.2)).1],st')
    |.inr e=>.inr e
   else st.skip.err s 2
  else st.err s 2
def PSt.open(st:PSt)(key:Sp):PSt:=match st.rest with
 |[]=>st
 |t::r=>⟨r,t.2.2,st.nodes++[(Z9 t.1,t.2,key,[],[])]⟩
def zsf(s:Bs)(val:zpw)(n:Nat)(k:Int)(st:PSt):PR PSt:=
 if k=5 then zdd s n 5 (zhs val) st else if k=6 then zdd s n 3 (zse s val) st else .inl st
def zc3(s:Bs):Nat->zpw
 |0,key,st=>if Z9 st.kind=0 then st.err s 2 else st.err s 5
 |d+1,key,st=>if Z9 st.kind=0 then st.err s 2 else if st.nodes.length=4096 then st.err s 6 else
  match zsf s (zc3 s d) st.nodes.length (Z9 st.kind) (st.open key)with
  |.inl st'=>.inl (st'.setTo st.nodes.length)
  |.inr e=>.inr e
def Q0(l:List Tk):List Tk:=l.filter λt=>decide (t.1≠1)
def zan(s:Bs):(Bs×List Nd)×Int×Int:=
 if(Yr s).2.2=0 then
  match zc3 s 32 (0,0) ⟨Q0 (Yr s).1,0,[]⟩with
  |.inl st=>if st.rest=[]then((s,st.nodes),(s.length:Int),0)else(([],[]),st.here s.length,2)
  |.inr e=>(([],[]),e.1,e.2)
 else(([],[]),((Yr s).2.1:Int),(Yr s).2.2)
def TkW(s:Bs)(t:Tk):Prop:=0<=t.2.1/\t.2.1<t.2.2/\t.2.2<=(s.length:Int)/\(2<=t.1/\t.1<=7->t.2.2=t.2.1+1)
theorem zz2{a:Nat}(ha:a<s.length)(h:2<=(J5 s a).1/\(J5 s a).1<=7):(J5 s a).2.1=a+1:=by
 have hd:s.drop a=s[a]::s.drop (a+1):=A9 ha
 unfold J5 at h ⊢
 rw[hd]at h ⊢
 dsimp only at h ⊢
 have hw:∀l:Bs,zf0 l=0\/zf0 l=10\/zf0 l=11\/zf0 l=12:=λl=>by
  unfold zf0
  split
  ·exact .inr (.inl rfl)
  ·split
   ·exact .inr (.inr (.inl rfl))
   ·split
    ·exact .inr (.inr (.inr rfl))
    ·exact .inl rfl
 split
 ·rfl
 ·rename_i h1
  rw[if_neg h1]at h
  split at h
  ·omega
  ·rename_i h2
   split at h
   ·split at h <;> (dsimp only at h;omega)
   ·split at h
    ·split at h <;> (dsimp only at h;omega)
    ·split at h
     ·dsimp only at h;omega
     ·dsimp only at h
      rcases hw ((s[a]::s.drop (a+1)).take (J7 (Y5 Yx) (s[a]::s.drop (a+1))))with e|e|e|e <;> rw[e]at h <;> omega
theorem zud:∀(f:Nat) (s:Bs) (a:Nat) (o:List Tk),(∀t∈o,TkW s t)->∀t∈(zbk f s a o).1,TkW s t
 |0,s,a,o,h=>h
 |f+1,s,a,o,h=>by
  rw[zbk]
  split
  ·rename_i ha
   split
   ·rename_i h0
    refine zud f s _ _ λt ht=>?_
    rcases AP.1 ht with ht|ht
    ·exact h t ht
    ·rw[BQ.1 ht]
     have hp:=zcn ha h0
     refine⟨by dsimp only;omega,by dsimp only;omega,by dsimp only;omega,λhk=>?_⟩
     have:=zz2 ha hk
     dsimp only;omega
   ·intro t ht;cases ht
  ·exact h
theorem z3c(s:Bs):∀t∈(Yr s).1,TkW s t:=by
 unfold Yr
 split
 ·intro t ht;cases ht
 ·exact zud _ _ _ _ λt ht=>by cases ht
theorem zwk{l:List Tk}(h:∀t∈l,TkW s t):∀t∈Q0 l,TkW s t:=λt ht=>h t (List.mem_filter.1 ht).1
end
section
variable {k:Int} {s:Bs}
def ndW(x:Nd):Nat:=x.2.2.2.1.length+x.2.2.2.2.length
def PSt.T(st:PSt):Nat:=2*st.rest.length+(st.nodes.map ndW).sum
theorem zsg{f:Nd->Nd}{k:Nat}(h:∀x,ndW (f x)<=ndW x+k):∀(l:List Nd) (n:Nat),((l.modify n f).map ndW).sum<=(l.map ndW).sum+k
 |[],n=>by simp
 |x::l,0=>by
  have:=h x
  simp only[List.modify_zero_cons,Cf,List.sum_cons];omega
 |x::l,n+1=>by
  have:=zsg h l n
  simp only[List.modify_succ_cons,Cf,List.sum_cons];omega
theorem z8c{st:PSt}{x:Nd}(h:x∈st.nodes):ndW x<=st.T:=by
 have:∀(l:List Nd),x∈l->ndW x<=(l.map ndW).sum:=by
  intro l
  induction l with
  |nil=>intro h;cases h
  |cons y l ih=>
   intro h
   rw[Cf,List.sum_cons]
   rcases Ay.1 h with rfl|h
   ·omega
   ·have:=ih h;omega
 have:=this _ h
 unfold PSt.T;omega
theorem z3d(st:PSt)(n:Nat)(k:Int)(p:Sp):(st.addKid n k p).T<=st.T+2:=by
 have:=zsg (f:=zz1 k p) (k:=2) (λx=>by unfold ndW zz1;simp;omega) st.nodes n
 unfold PSt.T PSt.addKid;dsimp only;omega
theorem z8d(st:PSt)(n:Nat):(st.setTo n).T<=st.T:=by
 have:=zsg (f:=z8b st.last) (k:=0) (λx=>by unfold ndW z8b;simp) st.nodes n
 unfold PSt.T PSt.setTo;dsimp only;omega
theorem qa6{st:PSt}(h:st.rest≠[]):st.skip.T+2=st.T:=by
 unfold PSt.skip PSt.T
 cases hr:st.rest with
 |nil=>exact absurd hr h
 |cons t r=>simp only[AN];omega
theorem qa7{st:PSt}{key:Sp}(h:st.rest≠[]):(st.open key).T+2=st.T:=by
 unfold PSt.open PSt.T
 cases hr:st.rest with
 |nil=>exact absurd hr h
 |cons t r=>
  simp only[AN,CG,List.sum_append,Cf,Eh,List.sum_cons,List.sum_nil,ndW,Bh];omega
theorem Qs(st:PSt):st.skip.nodes=st.nodes:=by unfold PSt.skip;split <;> rfl
theorem PSt.ne_kind{st:PSt}(h:st.kind=k)(hk:k≠0):st.rest≠[]:=λe=>by
 unfold PSt.kind at h;rw[e]at h;exact hk h.symm
theorem zne{st:PSt}(h:¬Z9 st.kind=0):st.rest≠[]:=λe=>by
 refine h ?_
 unfold PSt.kind;rw[e];rfl
theorem zlj(st:PSt)(n:Nat)(k:Int)(p:Sp):(st.addKid n k p).nodes.length=st.nodes.length:=by unfold PSt.addKid;simp
theorem zji(st:PSt)(n:Nat):(st.setTo n).nodes.length=st.nodes.length:=by unfold PSt.setTo;simp
theorem znf{st:PSt}{key:Sp}(h:st.rest≠[]):(st.open key).nodes.length=st.nodes.length+1:=by
 unfold PSt.open
 cases hr:st.rest with
 |nil=>exact absurd hr h
 |cons t r=>simp
structure Okk (st st':PSt) (k:Nat):Prop where
 t:st'.T+k<=st.T
 r:2*st'.rest.length+k<=2*st.rest.length
 w:∀t∈st'.rest,t∈st.rest
 n:st.nodes.length<=st'.nodes.length
 m:st.nodes.length<=4096->st'.nodes.length<=4096
theorem Okk.trans{a b c:PSt}{j k:Nat}(x:Okk a b j)(y:Okk b c k):Okk a c (j+k):=⟨by have:=x.t;have:=y.t;omega,by have:=x.r;have:=y.r;omega,λt h=>x.w t (y.w t h),by have:=x.n;have:=y.n;omega,λh=>y.m (x.m h)⟩
theorem Okk.le{a b:PSt}{j k:Nat}(x:Okk a b j)(h:k<=j):Okk a b k:=⟨by have:=x.t;omega,by have:=x.r;omega,x.w,x.n,x.m⟩
theorem Okk.refl(a:PSt):Okk a a 0:=⟨Av _,Av _,λt h=>h,Av _,id⟩
theorem qa8{st:PSt}(h:st.rest≠[]):st.skip.rest.length+1=st.rest.length:=by
 unfold PSt.skip
 cases hr:st.rest with
 |nil=>exact absurd hr h
 |cons t r=>simp
theorem qa9{st:PSt}{key:Sp}(h:st.rest≠[]):(st.open key).rest.length+1=st.rest.length:=by
 unfold PSt.open
 cases hr:st.rest with
 |nil=>exact absurd hr h
 |cons t r=>simp
theorem qba(st:PSt):∀t∈st.skip.rest,t∈st.rest:=by
 unfold PSt.skip
 cases hr:st.rest with
 |nil=>simp[hr]
 |cons t r=>intro x hx;exact Aw _ hx
theorem qbb(st:PSt)(key:Sp):∀t∈(st.open key).rest,t∈st.rest:=by
 unfold PSt.open
 cases hr:st.rest with
 |nil=>simp[hr]
 |cons t r=>intro x hx;exact Aw _ hx
theorem zcp{st:PSt}(h:st.rest≠[]):Okk st st.skip 2:=⟨by have:=qa6 h;omega,by have:=qa8 h;omega,qba st,by rw[Qs];omega,by rw[Qs];exact id⟩
def zwl(kid:zns):Prop:=∀had st had' st',kid had st=.inl (had',st')->Okk st st' 2
theorem zgy{kid:zns}(hk:zwl kid){had had':List Bs}{st st':PSt}{n:Nat}{p:Sp}(e:kid had st=.inl (had',st'))(h:st'.rest≠[]):Okk st (st'.addKid n k p).skip 2:=by
 have a:=hk _ _ _ _ e
 have h2:(st'.addKid n k p).rest≠[]:=h
 have b:=zcp h2
 have c:=z3d st' n k p
 have d:=zlj st' n k p
 have hr:(st'.addKid n k p).rest=st'.rest:=rfl
 exact⟨by have:=a.t;have:=b.t;omega,by have:=a.r;have:=b.r;rw[hr]at this;omega,λt h=>a.w t (b.w t h),by have:=a.n;have:=b.n;omega,λh=>b.m (by have:=a.m h;omega)⟩
theorem zue{s:Bs}{n:Nat}{closing:Int}(hc:closing≠0){kid:zns}(hk:zwl kid):∀(f:Nat) (had:List Bs) (st st':PSt),zco s n closing kid f had st=.inl st'->Okk st st' 2
 |0,had,st,st',h=>by unfold zco PSt.err at h;cases h
 |f+1,had,st,st',h=>by
  rw[zco]at h
  split at h
  ·cases h
  ·rename_i Z aa e
   split at h
   ·rename_i ab
    cases h
    exact zgy hk e (PSt.ne_kind ab hc)
   ·split at h
    ·rename_i h6
     have a:=zgy hk e (n:=n) (k:=(st.nodes.length:Int)) (p:=(st.last,aa.here s.length)) (PSt.ne_kind h6 (by omega))
     exact(a.trans (zue hc hk f Z _ st' h)).le (by omega)
    ·unfold PSt.err at h;cases h
theorem zuf{n:Nat}{closing:Int}(hc:closing≠0){kid:zns}(hk:zwl kid){st st':PSt}(h:zdd s n closing kid st=.inl st'):Okk st st' 0:=by
 unfold zdd at h
 split at h
 ·rename_i hx;cases h;exact(zcp (PSt.ne_kind hx hc)).le (by omega)
 ·exact(zue hc hk _ _ _ _ h).le (by omega)
def z8e(val:zpw):Prop:=∀key st st',val key st=.inl st'->Okk st st' 2
theorem zz3{val:zpw}(h:z8e val):zwl (zhs val):=by
 intro had st had' st' e
 unfold zhs at e
 split at e
 ·rename_i Z e1;cases e;exact h _ _ _ e1
 ·cases e
theorem z5c{val:zpw}(h:z8e val):zwl (zse s val):=by
 intro had st had' st' e
 unfold zse at e
 split at e
 ·unfold PSt.err at e;cases e
 ·rename_i t r hr
  split at e
  ·split at e
   ·unfold PSt.err at e;cases e
   ·split at e
    ·rename_i h7
     split at e
     ·rename_i Z e1
      cases e
      have a:=zcp (st:=st) (by rw[hr];simp)
      have b:=zcp (PSt.ne_kind h7 (by omega))
      exact((a.trans b).trans (h _ _ _ e1)).le (by omega)
     ·cases e
    ·unfold PSt.err at e;cases e
  ·unfold PSt.err at e;cases e
theorem zz4{st:PSt}{key:Sp}(h:st.rest≠[])(h4:¬st.nodes.length=4096):Okk st (st.open key) 2:=⟨by have:=qa7 (key:=key) h;omega,by have:=qa9 (key:=key) h;omega,qbb st key,by rw[znf h];omega,λh2=>by rw[znf h];omega⟩
theorem zpx(s:Bs):∀d:Nat,z8e (zc3 s d)
 |0=>by
  intro key st st' e
  unfold zc3 at e
  split at e <;> (unfold PSt.err at e;cases e)
 |d+1=>by
  intro key st st' e
  unfold zc3 at e
  split at e
  ·unfold PSt.err at e;cases e
  ·rename_i hk
   split at e
   ·unfold PSt.err at e;cases e
   ·rename_i h4
    split at e
    ·rename_i Z e1
     cases e
     have a:=zz4 (key:=key) (zne hk) h4
     have b:Okk (st.open key) Z 0:=by
      unfold zsf at e1
      split at e1
      ·exact zuf (by omega) (zz3 (zpx s d)) e1
      ·split at e1
       ·exact zuf (by omega) (z5c (zpx s d)) e1
       ·cases e1;exact Okk.refl _
     have c:Okk Z (Z.setTo st.nodes.length) 0:=⟨z8d _ _,Av _,λt h=>h,by rw[zji];omega,by rw[zji];exact id⟩
     exact(a.trans b).trans c
    ·cases e
def qcn(s:Bs)(had:List Bs)(st:PSt):PR (Bs×Sp×PSt):=match st.rest with
 |[]=>st.err s 2
 |t::_=>
  if t.1=8 then
   if(zei (zel s t.2)).1∈had then st.err s 7
   else if st.skip.kind=7 then .inl ((zei (zel s t.2)).1,t.2,st.skip.skip)
   else st.skip.err s 2
  else st.err s 2
theorem z3e(s:Bs)(val:zpw)(had:List Bs)(st:PSt):zse s val had st=match qcn s had st with
  |.inl x=>(match val x.2.1 x.2.2 with
   |.inl st'=>.inl (had++[x.1],st')
   |.inr e=>.inr e)
  |.inr e=>.inr e:=by
 unfold zse qcn PSt.err
 cases st.rest with
 |nil=>rfl
 |cons t r=>
  dsimp only
  by_cases h1:t.1=8
  ·rw[if_pos h1,if_pos h1]
   by_cases h2:(zei (zel s t.2)).1∈had
   ·rw[if_pos h2,if_pos h2]
   ·rw[if_neg h2,if_neg h2]
    by_cases h3:st.skip.kind=7
    ·rw[if_pos h3,if_pos h3] <;> rfl
    ·rw[if_neg h3,if_neg h3]
  ·rw[if_neg h1,if_neg h1]
theorem qbc{had:List Bs}{st:PSt}{x:Bs×Sp×PSt}(h:qcn s had st=.inl x):Okk st x.2.2 4/\x.2.2.nodes=st.nodes:=by
 unfold qcn PSt.err at h
 split at h
 ·cases h
 ·rename_i t r hr
  split at h
  ·split at h
   ·cases h
   ·split at h
    ·rename_i h7
     cases h
     have a:=zcp (st:=st) (by rw[hr];simp)
     have b:=zcp (PSt.ne_kind h7 (by omega))
     exact⟨a.trans b,by dsimp only;rw[Qs,Qs]⟩
    ·cases h
  ·cases h
end
section
variable {lvs:List Nat} {l n lk:Nat} {s:Bs} {closing:Int}
structure GoodN (lvs:List Nat) (nodes:List Nd):Prop where
 len:lvs.length=nodes.length
 lv:∀(k l:Nat),lvs[k]?=some l->1<=l/\l<=32
 kid:∀(k l:Nat) (x:Nd),nodes[k]?=some x->lvs[k]?=some l->∀c∈x.2.2.2.1,∃j:Nat,c=(j:Int)/\k<j/\lvs[j]?=some (l+1)
theorem GoodN.nil:GoodN [] []:=⟨rfl,λk l h=>(by cases h),λk l x h=>(by cases h)⟩
theorem GoodN.push{nodes:List Nd}(G:GoodN lvs nodes)(h1:1<=l)(h2:l<=32){x:Nd}(hx:x.2.2.2.1=[]):GoodN (lvs++[l]) (nodes++[x]):=by
 refine⟨by simp[G.len],λk m h=>?_,λk m y hy hm c hc=>?_⟩
 ·rw[List.getElem?_append]at h
  split at h
  ·exact G.lv k m h
  ·have:=Bl h
   rw[BQ]at this;omega
 ·rw[List.getElem?_append]at hy hm
  have hl:=G.len
  by_cases hk:k<nodes.length
  ·rw[if_pos hk]at hy
   rw[if_pos (by omega)]at hm
   obtain⟨j,e1,e2,e3⟩:=G.kid k m y hy hm c hc
   refine⟨j,e1,e2,?_⟩
   rw[BE (AQ.1 e3).1];exact e3
  ·rw[if_neg hk]at hy
   have:=Bl hy
   rw[BQ]at this
   subst this
   rw[hx]at hc;cases hc
theorem GoodN.mod{nodes:List Nd}(G:GoodN lvs nodes){f:Nd->Nd}(h:∀x l c,lvs[n]?=some l->c∈(f x).2.2.2.1->c∈x.2.2.2.1\/∃j:Nat,c=(j:Int)/\n<j/\lvs[j]?=some (l+1)):GoodN lvs (nodes.modify n f):=by
 refine⟨by rw[List.length_modify];exact G.len,G.lv,λk l x hx hl c hc=>?_⟩
 rw[BX]at hx
 cases hy:nodes[k]? with
 |none=>rw[hy]at hx;cases hx
 |some y=>
  rw[hy]at hx
  by_cases e:n=k
  ·subst e
   have hx:f y=x:=by simpa using hx
   subst hx
   rcases h y l c hl hc with h|h
   ·exact G.kid n l y hy hl c h
   ·exact h
  ·have hx:y=x:=by simpa[e]using hx
   subst hx
   exact G.kid k l y hy hl c hc
def qco(kid:zns)(lk:Nat):Prop:=∀had st had' st' lvs,kid had st=.inl (had',st')->GoodN lvs st.nodes->∃new,GoodN (lvs++lk::new) st'.nodes
theorem zlk{s:Bs}{n l:Nat}{closing:Int}{kid:zns}(hk:qco kid (l+1)):∀(f:Nat) (had:List Bs) (st st':PSt) (lvs:List Nat),zco s n closing kid f had st=.inl st'->GoodN lvs st.nodes->lvs[n]?=some l->∃new,GoodN (lvs++new) st'.nodes
 |0,had,st,st',lvs,h,G,hn=>by unfold zco PSt.err at h;cases h
 |f+1,had,st,st',lvs,h,G,hn=>by
  rw[zco]at h
  split at h
  ·cases h
  ·rename_i ae ah e
   obtain⟨new,G1⟩:=hk _ _ _ _ lvs e G
   have ai:=(AQ.1 hn).1
   have ab:=G.len
   have aa:(lvs++(l+1)::new)[n]?=some l:=by rw[BE ai];exact hn
   have Z:(lvs++(l+1)::new)[st.nodes.length]?=some (l+1):=by
    rw[Bf (by omega),<-ab,Nat.sub_self];rfl
   have G2:GoodN (lvs++(l+1)::new) (ah.addKid n st.nodes.length (st.last,ah.here s.length)).skip.nodes:=by
    rw[Qs]
    refine G1.mod λx m c hm hc=>?_
    unfold zz1 at hc
    rw[aa]at hm
    cases hm
    rcases AP.1 hc with h|h
    ·exact .inl h
    ·rw[BQ]at h
     exact .inr ⟨_,h,by omega,Z⟩
   split at h
   ·cases h;exact⟨_,G2⟩
   ·split at h
    ·obtain⟨af,G3⟩:=zlk hk f ae _ st' _ h G2 aa
     exact⟨(l+1)::new++af,by rw[<-Bo];exact G3⟩
    ·unfold PSt.err at h;cases h
theorem zll{kid:zns}(hk:qco kid (l+1)){st st':PSt}(h:zdd s n closing kid st=.inl st')(G:GoodN lvs st.nodes)(hn:lvs[n]?=some l):∃new,GoodN (lvs++new) st'.nodes:=by
 unfold zdd at h
 split at h
 ·cases h;exact⟨[],by rw[Bu,Qs];exact G⟩
 ·exact zlk hk _ _ _ _ _ h G hn
def qdr(val:zpw)(lk:Nat):Prop:=∀key st st' lvs,val key st=.inl st'->GoodN lvs st.nodes->∃new,GoodN (lvs++lk::new) st'.nodes
theorem zz5{val:zpw}(h:qdr val lk):qco (zhs val) lk:=by
 intro had st had' st' lvs e G
 unfold zhs at e
 split at e
 ·rename_i Z e1;cases e;exact h _ _ _ _ e1 G
 ·cases e
theorem z3f{val:zpw}(h:qdr val lk):qco (zse s val) lk:=by
 intro had st had' st' lvs e G
 rw[z3e]at e
 split at e
 ·rename_i x hx
  have Z:=(qbc hx).2
  split at e
  ·rename_i aa e1
   cases e
   exact h _ _ _ _ e1 (by rw[Z];exact G)
  ·cases e
 ·cases e
theorem zwm{st:PSt}{key:Sp}(h:st.rest≠[]):∃x:Nd,x.2.2.2.1=[]/\(st.open key).nodes=st.nodes++[x]:=by
 unfold PSt.open
 cases hr:st.rest with
 |nil=>exact absurd hr h
 |cons t r=>exact⟨_,rfl,rfl⟩
theorem zug(s:Bs):∀d:Nat,d<=32->qdr (zc3 s d) (33-d)
 |0,_=>by
  intro key st st' lvs e G
  unfold zc3 at e
  split at e <;> (unfold PSt.err at e;cases e)
 |d+1,hd=>by
  intro key st st' lvs e G
  have ih:=zug s d (by omega)
  rw[show 33-d=33-(d+1)+1 by omega]at ih
  unfold zc3 at e
  split at e
  ·unfold PSt.err at e;cases e
  ·rename_i hk
   split at e
   ·unfold PSt.err at e;cases e
   ·split at e
    ·rename_i ab e1
     cases e
     obtain⟨x,Z,aa⟩:=zwm (key:=key) (zne hk)
     have G1:GoodN (lvs++[33-(d+1)]) (st.open key).nodes:=by rw[aa];exact G.push (by omega) (by omega) Z
     have hn:(lvs++[33-(d+1)])[st.nodes.length]?=some (33-(d+1)):=by
      rw[<-G.len,Bf (Av _),Nat.sub_self];rfl
     obtain⟨new,G2⟩:∃new,GoodN (lvs++[33-(d+1)]++new) ab.nodes:=by
      unfold zsf at e1
      split at e1
      ·exact zll (zz5 ih) e1 G1 hn
      ·split at e1
       ·exact zll (z3f ih) e1 G1 hn
       ·cases e1;exact⟨[],by rw[Bu];exact G1⟩
     refine⟨new,?_⟩
     rw[Bo]at G2
     exact G2.mod λx l c hl hc=>.inl hc
    ·cases e
def qcp(kid:zns):Prop:=∀had st x,kid had st=.inr x->x.2≠0
def qds(val:zpw):Prop:=∀key st x,val key st=.inr x->x.2≠0
theorem zf1{α:Type}{st:PSt}{e:Int}(he:e≠0){x:Int×Int}(h:(st.err s e:PR α)=.inr x):x.2≠0:=by
 unfold PSt.err at h;cases h;exact he
theorem zz6{s:Bs}{n:Nat}{closing:Int}{kid:zns}(hk:qcp kid):∀(f:Nat) (had:List Bs) (st:PSt) (x:Int×Int),zco s n closing kid f had st=.inr x->x.2≠0
 |0,had,st,x,h=>by unfold zco at h;exact zf1 (by omega) h
 |f+1,had,st,x,h=>by
  rw[zco]at h
  split at h
  ·rename_i y e;cases h;exact hk _ _ _ e
  ·split at h
   ·cases h
   ·split at h
    ·exact zz6 hk f _ _ x h
    ·exact zf1 (by omega) h
theorem zz7{kid:zns}(hk:qcp kid){st:PSt}{x:Int×Int}(h:zdd s n closing kid st=.inr x):x.2≠0:=by
 unfold zdd at h
 split at h
 ·cases h
 ·exact zz6 hk _ _ _ _ h
theorem qbd{val:zpw}(h:qds val):qcp (zhs val):=by
 intro had st x e
 unfold zhs at e
 split at e
 ·cases e
 ·rename_i y e1;cases e;exact h _ _ _ e1
theorem qdt{val:zpw}(h:qds val):qcp (zse s val):=by
 intro had st x e
 unfold zse at e
 split at e
 ·exact zf1 (by omega) e
 ·split at e
  ·split at e
   ·exact zf1 (by omega) e
   ·split at e
    ·split at e
     ·cases e
     ·rename_i y e1;cases e;exact h _ _ _ e1
    ·exact zf1 (by omega) e
  ·exact zf1 (by omega) e
theorem z8f(s:Bs):∀d:Nat,qds (zc3 s d)
 |0=>by
  intro key st x e
  unfold zc3 at e
  split at e <;> exact zf1 (by omega) e
 |d+1=>by
  intro key st x e
  unfold zc3 at e
  split at e
  ·exact zf1 (by omega) e
  ·split at e
   ·exact zf1 (by omega) e
   ·split at e
    ·cases e
    ·rename_i y e1
     cases e
     unfold zsf at e1
     split at e1
     ·exact zz7 (qbd (z8f s d)) e1
     ·split at e1
      ·exact zz7 (qdt (z8f s d)) e1
      ·cases e1
theorem zpy(h:(zan s).2.2=0):∃lvs,GoodN (1::lvs) (zan s).1.2/\(zan s).1.1=s/\(zan s).2.1=(s.length:Int)/\(zan s).1.2.length<=4096/\∀x∈(zan s).1.2,ndW x<=2*(Yr s).1.length:=by
 have Z:∀{x:Int×Int},zc3 s 32 (0,0) ⟨Q0 (Yr s).1,0,[]⟩=.inr x->x.2≠0:=λh=>z8f s 32 _ _ _ h
 unfold zan at h ⊢
 split at h
 ·rename_i h0
  rw[if_pos h0]
  split at h
  ·rename_i st e
   split at h
   ·rename_i hr
    rw[if_pos hr]
    have a:=zpx s 32 _ _ _ e
    obtain⟨new,G⟩:=zug s 32 (by omega) _ _ _ [] e GoodN.nil
    refine⟨new,G,rfl,rfl,a.m (by simp),λx hx=>?_⟩
    have h1:=z8c hx
    have h2:=a.t
    have h3:(⟨Q0 (Yr s).1,0,[]⟩:PSt).T=2*(Q0 (Yr s).1).length:=by unfold PSt.T;simp
    have h4:(Q0 (Yr s).1).length<=(Yr s).1.length:=List.length_filter_le _ _
    omega
   ·simp at h
  ·rename_i e he
   exact absurd h (Z he)
 ·rename_i h0
  exact absurd h h0
end
section
def Q6(t:Bs)(p:Sp):Bs:=if p.1<0\/p.2<p.1\/(t.length:Int)<p.2 then []else zel t p
theorem zlm(t:Bs)(p:Sp):(Q6 t p).length<=t.length:=by
 unfold Q6 zel
 split
 ·exact Da _
 ·rw[Bc,AW];omega
def zbu(kind:Int)(t:Bs):Bs:=if kind=2 then t else if kind=3 then We (Zh t).1 else if kind=4 then(zei t).1 else []
def zwy(t:Bs)(x:Nd):Bs:=(zei (Q6 t x.2.2.1)).1
def zjj(t:Bs)(nodes:List Nd)(c:Int):Bs:=match nodes[c.toNat]? with
 |some x=>zwy t x
 |none=>[]
def Je(t:Bs)(nodes:List Nd):Nat->Nat->Tr
 |0,_=>.mk 0 (bl []) [] []
 |f+1,k=>match nodes[k]? with
  |none=>.mk 0 (bl []) [] []
  |some x=>.mk x.1 (bl (zbu x.1 (Q6 t x.2.1))) (if x.1=6 then x.2.2.2.1.map λc=>bl (zjj t nodes c)else []) (x.2.2.2.1.map λc=>Je t nodes f c.toNat)
def zcq(s:Bs):Tr×Int×Int:=if(zan s).2.2=0 then(Je s (zan s).1.2 33 0,(s.length:Int),0)else(.mk 0 (bl []) [] [],(zan s).2.1,(zan s).2.2)
end
end Go.X
end
section
namespace Go.X
open Go Go.X Go.Proofs Go.RowKit
section
variable {gl:Fr} {l:Bs} {n:Nat}
theorem zpz{s p:Bs}{R:Bool->Prop}(h:R (p.isPrefixOf s)):PC Tp gl 156 [Arg.mk .str (bl s),Arg.mk .str (bl p)] [.bool] R:=
 PC.of_scal rfl (λ_=>ztn _) (r:=p.isPrefixOf s) h λw hw=>by
  have:=zd6 (bl s) (bl p) w
  have e1:(bl s).data.toList=s:=Yh s
  have e2:(bl p).data.toList=p:=Yh p
  rw[e1,e2]at this
  exact this.mono λe w' ⟨h1,h2⟩=>⟨h1,h2 ▸ Below.refl _ _⟩
theorem z8g{a b:UInt8}(l:Bs):[a,b].isPrefixOf l=decide (l.take 2=[a,b]):=by
 match l with
 |[]=>rfl
 |[x]=>simp[List.isPrefixOf]
 |x::y::l=>
  simp only[List.isPrefixOf,Bw,Ed,Bool.and_true,Ca,and_true]
  rw[A6,BP,beq_iff_eq,beq_iff_eq,decide_eq_true_eq]
  constructor <;> (rintro⟨rfl,rfl⟩;exact⟨rfl,rfl⟩)
theorem z3g(h:zgx l=some n):4<=l.length:=by
 unfold zgx at h
 split at h
 ·assumption
 ·cases h
theorem zwn(hg:GL gl)(h2:2<=l.length)(hl:l.length<=1152921504606846976){R:Int×Int->Prop}(h:R (match z2x (l.drop 2)with|some (r,n)=>((r:Int),(n:Int))|none=>(0,0))):
  PC Tp gl 324 [Arg.mk .str (bl l)] [.int .i32,.int .i64] R:=by
 apply zhq
 simp only[Zf,zph (show(2:Int)=((2:Nat):Int)from rfl),zph (show(6:Int)=((6:Nat):Int)from rfl),zph (show(8:Int)=((8:Nat):Int)from rfl)]
 refine⟨⟨by omega,by omega,by omega⟩,?_⟩
 unfold z2x at h
 refine zzx hg (by rw[AW];omega) (λn e=>?_) (λe v=>?_)
 ·rw[e]at h
  have hn:=znb e
  have h4:=z3g e
  rw[AW]at h4
  dsimp only at h
  intro K hK
  refine⟨λhx=>(by cases hx),λ_=>hK _ ?_⟩
  refine⟨λhx=>?_,λhx=>⟨λhy=>?_,λhy=>⟨⟨by omega,by omega,by omega⟩,?_⟩⟩⟩
  ·simp only[Bool.cond_eq_ite,Bool.if_false_right,BP,decide_eq_true_eq]at hx
   rw[if_pos (by omega)]at h
   exact h
  ·simp only[Bool.cond_eq_ite,Bool.if_false_right,CW,decide_eq_false_iff_not,Bool.if_true_left,Cb,decide_eq_true_eq]at hx hy
   rw[if_neg (by omega),if_pos (by omega)]at h
   exact h
  ·simp only[Bool.cond_eq_ite,Bool.if_false_right,CW,decide_eq_false_iff_not,Bool.if_true_left,Cu,decide_eq_true_eq]at hx hy
   rw[if_neg (by omega),if_neg (by omega)]at h
   rw[Bq,Bq]at h
   refine zpz ?_
   rw[z8g]
   refine⟨λhz=>?_,λhz=>⟨⟨by omega,?_,by omega⟩,?_⟩⟩
   ·rw[if_neg (by simpa using hz)]at h
    exact h
   ·have Z:(l.drop 6).take 2=[92,117]:=by simpa using hz
    have:=congrArg Db Z
    simp only[Bc,AW,AN,Bh]at this
    omega
   ·have Z:(l.drop 6).take 2=[92,117]:=by simpa using hz
    rw[if_pos Z]at h
    refine zzx hg (by rw[AW];omega) (λm e2=>?_) (λe2 v=>?_)
    ·rw[show 2+6=8 from rfl,e2]at h
     have hm:=znb e2
     dsimp only at h
     refine⟨λhw=>?_,λhw=>?_⟩
     ·simp only[Bool.cond_eq_ite,Bool.if_true_left,Cb,decide_eq_true_eq,Ek,Bv,false_or]at hw
      rw[if_neg (show¬(56320<=m/\m<57344)by omega)]at h
      exact h
     ·simp only[Bool.cond_eq_ite,Bool.if_true_left,Cu,decide_eq_false_iff_not,Ek,Bv,decide_false,decide_eq_true_eq,DD]at hw
      rw[if_pos (show 56320<=m/\m<57344 by omega)]at h
      dsimp only at h
      rw[zcf (n:=(n:Int)-55296) (by omega) (by omega),zcf (n:=((n:Int)-55296)*1024) (by omega) (by omega),zcf (n:=65536+((n:Int)-55296)*1024) (by omega) (by omega),
       zcf (n:=65536+((n:Int)-55296)*1024+(m:Int)) (by omega) (by omega),zcf (by omega) (by omega)]
      have e5:(((65536+(n-55296)*1024+(m-56320):Nat):Int))=65536+((n:Int)-55296)*1024+(m:Int)-56320:=by omega
      rw[e5]at h
      exact h
    ·rw[show 2+6=8 from rfl,e2]at h
     exact⟨λ_=>h,λhw=>by simp at hw⟩
 ·rw[e]at h
  intro K hK
  exact⟨λ_=>hK _ ⟨λ_=>h,λhx=>by cases hx⟩,λhx=>by cases hx⟩
theorem u8i{c:UInt8}(hn:n<256):((c.toNat:Int)==(n:Int))=decide (c=Be n):=by
 rw[A6,beq_iff_eq,decide_eq_true_eq,u8n hn];omega
theorem z3h{c:UInt8}{R:Int×Bool->Prop}(h:R (match z2w c with|some r=>((r:Int),true)|none=>(0,false))):PC Tp gl 323 [Arg.mk (.int .u8) (c.toNat:Int)] [.int .i32,.bool] R:=by
 apply zj9
 have hc:=c.toNat_lt
 have q:∀n:Nat,n<256->((c.toNat:Int)==(n:Int))=decide (c=Be n):=λn hn=>u8i hn
 have ah:=q 34 (by omega);have ai:=q 92 (by omega);have af:=q 47 (by omega);have aj:=q 98 (by omega);have aa:=q 102 (by omega);have ab:=q 110 (by omega);have ae:=q 114 (by omega);have Z:=q 116 (by omega)
 simp only[Int.cast_ofNat_Int,show Be 34=34 from rfl,show Be 92=92 from rfl,show Be 47=47 from rfl,show Be 98=98 from rfl,show Be 102=102 from rfl,show Be 110=110 from rfl,show Be 114=114 from rfl,show Be 116=116 from rfl]at ah ai af aj aa ab ae Z
 rw[ah,ai,af,aj,aa,ab,ae,Z]
 unfold z2w at h
 intro K hK
 have yes:(c=34\/c=92\/c=47)->K true:=by
  intro h1
  apply hK
  rw[if_pos h1]at h
  rw[zcf (by omega) (by omega)]
  exact⟨λ_=>h,λhx=>by cases hx⟩
 refine⟨λh1=>by rw[h1];exact yes (.inl (by simpa using h1)),λh1=>⟨λh2=>by rw[h2];exact yes (.inr (.inl (by simpa using h2))),λh2=>?_⟩⟩
 by_cases h3:c=47
 ·rw[decide_eq_true h3];exact yes (.inr (.inr h3))
 ·have hn:¬(c=34\/c=92\/c=47):=by
   rw[decide_eq_false_iff_not]at h1 h2
   rintro(h|h|h)
   ·exact h1 h
   ·exact h2 h
   ·exact h3 h
  rw[if_neg hn]at h
  rw[decide_eq_false h3]
  apply hK
  refine⟨λhx=>(by cases hx),λ_=>?_⟩
  by_cases a1:c=98
  ·rw[if_pos a1]at h;rw[decide_eq_true a1];exact⟨λ_=>h,λhx=>by cases hx⟩
  rw[if_neg a1]at h;rw[decide_eq_false a1];refine⟨λhx=>(by cases hx),λ_=>?_⟩
  by_cases a2:c=102
  ·rw[if_pos a2]at h;rw[decide_eq_true a2];exact⟨λ_=>h,λhx=>by cases hx⟩
  rw[if_neg a2]at h;rw[decide_eq_false a2];refine⟨λhx=>(by cases hx),λ_=>?_⟩
  by_cases a3:c=110
  ·rw[if_pos a3]at h;rw[decide_eq_true a3];exact⟨λ_=>h,λhx=>by cases hx⟩
  rw[if_neg a3]at h;rw[decide_eq_false a3];refine⟨λhx=>(by cases hx),λ_=>?_⟩
  by_cases a4:c=114
  ·rw[if_pos a4]at h;rw[decide_eq_true a4];exact⟨λ_=>h,λhx=>by cases hx⟩
  rw[if_neg a4]at h;rw[decide_eq_false a4];refine⟨λhx=>(by cases hx),λ_=>?_⟩
  by_cases a5:c=116
  ·rw[if_pos a5]at h;rw[decide_eq_true a5];exact⟨λ_=>h,λhx=>by cases hx⟩
  rw[if_neg a5]at h;rw[decide_eq_false a5];exact⟨λhx=>(by cases hx),λ_=>h⟩
end
section
variable {gl M:Fr} {l:Bs}
theorem zz8(hg:GL gl)(hl:l.length<=1152921504606846976){R:Int×Int->Prop}(h:R (match z7t l with|some (r,n)=>((r:Int),(n:Int))|none=>(0,0))):
  PC Tp gl 315 [Arg.mk .str (bl l)] [.int .i32,.int .i64] R:=by
 apply zjf
 rw[Zf]
 match l,hl,h with
 |[],_,h=>exact⟨λ_=>h,λhx=>by simp at hx⟩
 |[a],_,h=>exact⟨λ_=>h,λhx=>by simp at hx⟩
 |a::c::t,hl,h=>
  have Z:((a::c::t).length:Int)=t.length+2:=by simp;omega
  refine⟨λhx=>(by rw[decide_eq_true_eq]at hx;omega),λ_=>⟨⟨by omega,by omega⟩,?_⟩⟩
  have e1:Zc (bl (a::c::t)) (1:Int).toNat=(c.toNat:Int):=by rw[Yd];rfl
  rw[e1]
  refine z3h ?_
  unfold z7t at h
  dsimp only at h
  cases e:z2w c with
  |some r=>
   rw[e]at h
   exact⟨λ_=>h,λhx=>(by cases hx)⟩
  |none=>
   rw[e]at h
   dsimp only at h
   refine⟨λhx=>(by cases hx),λ_=>⟨⟨by omega,by omega⟩,?_⟩⟩
   have e2:((c.toNat:Int)==117)=decide (c=117):=u8i (n:=117) (by omega)
   rw[e2]
   refine⟨λhx=>?_,λhx=>?_⟩
   ·rw[if_pos (by simpa using hx)]at h
    refine zwn hg (by simp) hl ?_
    exact h
   ·rw[if_neg (by simpa using hx)]at h
    exact h
theorem qdu(h:l≠[]):Lib.decodeGo (bl l)=dec l:=by
 unfold Lib.decodeGo
 have hp:=BC.2 h
 rw[if_neg (by rw[Zf];omega),ztp,Yh,Cc]
theorem z8h(hg:GL gl)(Z:l≠[])(hl:l.length<=1152921504606846976){R:Int×Int->Prop}(h:R (match zbs l with|some (r,n)=>((r:Int),(n:Int))|none=>(0,0))):
  PC Tp gl 291 [Arg.mk .str (bl l)] [.int .i32,.int .i64] R:=by
 apply zm9
 have hp:=BC.2 Z
 rw[Zf,Yd,show(0:Int).toNat=0 from rfl,zts hp]
 refine⟨⟨by omega,by omega⟩,?_⟩
 have e2:((l[0].toNat:Int)==92)=decide (l[0]=92):=u8i (n:=92) (by omega)
 have hh:l.head?=some l[0]:=by cases l with
  |nil=>exact absurd rfl Z
  |cons a t=>rfl
 rw[e2]
 unfold zbs at h
 rw[hh]at h
 refine⟨λhx=>?_,λhx=>?_⟩
 ·rw[if_pos (by rw[of_decide_eq_true hx])]at h
  exact zz8 hg hl h
 ·rw[if_neg (by rw[As];exact of_decide_eq_false hx)]at h
  refine zpa hg.tabs ?_
  rw[qdu Z]
  have eb:(bif (decide (((dec l).1:Int)<32))then true else(bif (((dec l).1:Int)==65533)then(((dec l).2:Int)==1)else false))=decide ((dec l).1<32\/zc6 (dec l)=true):=by
   rw[A6]
   unfold zc6
   simp only[Bool.cond_eq_ite,Bool.if_true_left,Bool.if_false_right,Cb,BP,decide_eq_true_eq,beq_iff_eq]
   constructor
   ·rintro(h1|⟨h1,h2⟩)
    ·left;omega
    ·right;exact⟨by omega,by omega⟩
   ·rintro(h1|⟨h1,h2⟩)
    ·left;omega
    ·right;exact⟨by omega,by omega⟩
  rw[eb]
  refine⟨λhx=>?_,λhx=>?_⟩
  ·rw[if_pos (of_decide_eq_true hx)]at h;exact h
  ·rw[if_neg (of_decide_eq_false hx)]at h;exact h
theorem zuh(s:Bt)(i j:Int):ze0 M [.str,.int .i64,.int .i64] (s,i,j) (.tuple #[.string s,.int .i64 i,.int .i64 j]):=
 ⟨[_,_,_],⟨_,_,rfl,rdStr s,_,_,rfl,zbp _ i,_,rfl,zbp _ j⟩,rfl⟩
theorem zp0{k:IntKind}{r:Int×Int}{v:Value}(h:ze0 M [.int k,.int .i64] r v):v=.tuple #[.int k r.1,.int .i64 r.2]:=by
 obtain⟨vs,⟨v1,rest,rfl,hx,v2,rfl,hy⟩,rfl⟩:=h
 rw[Zy hx,Zy hy];rfl
set_option maxHeartbeats 1000000 in
theorem zui(hg:GL gl){t:Bs}{a:Nat}(an:a<=1152921504606846976)(hl:t.length<=1099511627776){R:Bt×Int×Int->Prop}(hR:R (bl (Qt t a).1,((Qt t a).2.1:Int),(Qt t a).2.2)):
  PC Tp gl 253 [Arg.mk .str (bl t),Arg.mk (.int .i64) (a:Int)] [.str,.int .i64,.int .i64] R:=by
 intro h M vs hM ag ha
 match vs,ha with
 |[u1,u2],⟨a1,a2,_⟩=>
  obtain rfl:=Y1 (s:=bl t) a1
  obtain rfl:=Zy (i:=(a:Int)) a2
  apply PX.of
  apply zm0
  rw[Zf,Yd,AK]
  have aa:∀{k:Nat},k<t.length->(t.drop k).head?=some (t[k]?.getD 0):=λ {k} hk=>by
   rw[List.head?_drop,AE hk];rfl
  have ai:∀k:Nat,(((t[k]?.getD 0).toNat:Int)==34)=decide (t[k]?.getD 0=34):=λk=>u8i (n:=34) (by omega)
  have aj:(((t[a]?.getD 0).toNat:Int) != 34)=!decide (t[a]?.getD 0=34):=by rw[bne,ai]
  rw[aj]
  refine⟨λhx=>?_,λhx=>?_,λhx=>?_⟩
  ·have:¬((a:Int)>=(t.length:Int)):=by simpa using hx
   exact⟨by omega,by omega⟩
  ·have hn:¬(t.drop a).head?=some 34:=by
    intro e
    have ab:a<t.length:=by
     rcases A1 a t.length with h1|h1
     ·exact h1
     ·rw[BJ h1]at e;cases e
    rw[aa ab]at e
    have e:=AL e
    have hd:decide ((a:Int)>=(t.length:Int))=false:=by rw[decide_eq_false_iff_not];omega
    rw[hd,e]at hx
    simp at hx
   have e:Qt t a=([],a,2):=by unfold Qt;rw[if_neg hn]
   rw[e]at hR
   exact⟨M,(bl [],(a:Int),2),Later.refl ag,zuh _ _ _,hR⟩
  ·have ab:a<t.length:=by
    rcases A1 a t.length with h1|h1
    ·exact h1
    ·have hd:decide ((a:Int)>=(t.length:Int))=true:=by rw[decide_eq_true_eq];omega
     rw[hd]at hx;cases hx
   have hd:decide ((a:Int)>=(t.length:Int))=false:=by rw[decide_eq_false_iff_not];omega
   have hq:(t.drop a).head?=some 34:=by
    rw[aa ab]
    rw[hd]at hx
    congr 1
    simpa using hx
   have eA:Qt t a=(let q:=zam (t.drop (a+1));if q.2.2 then(q.1,a+1+q.2.1,0)else([],a+1+q.2.1,2)):=by unfold Qt;rw[if_pos hq]
   rw[zj4 ab (by omega)]
   intro h1
   have B1:Bld h1 h.size []:=Bld.new h
   have k1:Keep h.size h h1:=Keep.push _ _ (Av _)
   clear_value h1
   refine⟨λi g=>∃(k:Nat) (out:Bs),i=(k:Int)/\k<=t.length/\out.length<=4*k/\Bld g h.size out/\Keep h.size h g/\Qt t a=(let q:=zam (t.drop k);if q.2.2 then(out++q.1,k+q.2.1,0)else([],k+q.2.1,2)),λi _=>t.length-i.toNat,⟨a+1,[],rfl,by omega,by simp,B1,k1,by rw[eA];rfl⟩,?_⟩
   rintro i g ⟨k,out,rfl,hk,ho,B,kg,er⟩
   simp only[AK]
   refine⟨λhx=>?_,λhx=>?_⟩
   ·have ae:k<t.length:=by rw[decide_eq_true_eq]at hx;omega
    have ah:t.drop k≠[]:=by rw[<-BC,AW];omega
    refine⟨⟨by omega,by omega⟩,?_⟩
    rw[Yd,ai]
    have Z:=J4 ah
    rw[aa ae]at Z
    refine⟨λaf=>?_,λaf=>⟨⟨by omega,by omega,by omega⟩,?_⟩⟩
    ·rw[if_pos (by rw[of_decide_eq_true af])]at Z
     rw[Z]at er
     refine zua B λh7 k7=>⟨_,rfl,M,(bl out,((k+1:Nat):Int),0),Later.same ag (kg.trans k7 (Av _)),?_,?_⟩
     ·rw[zj4 ae (by omega)];exact zuh _ _ _
     ·rw[er]at hR
      simpa using hR
    ·rw[if_neg (by rw[As];exact of_decide_eq_false af)]at Z
     have ex:(bl t).extract k t.length=bl (t.drop k):=zph (n:=(k:Int)) rfl
     rw[ex]
     refine(z8h hg ah (by rw[AW];omega) (R:=λr=>r=(match zbs (t.drop k)with|some (r,n)=>((r:Int),(n:Int))|none=>(0,0))) rfl).go hM (ag.keep kg) (Qw (a:=Arg.mk .str _) (rdStr _) Yk) λv h9 M9 r L hv hr=>?_
     obtain rfl:=zp0 hv
     cases ep:zbs (t.drop k)with
     |none=>
      rw[ep]at hr Z
      dsimp only at hr
      subst hr
      refine⟨_,_,rfl,λ_=>?_,λhz=>by cases hz⟩
      dsimp only at Z
      rw[Z]at er
      refine⟨M,(bl [],(k:Int),2),Later.same ag (kg.trans L.keep kg.size),zuh _ _ _,?_⟩
      rw[er]at hR
      simpa using hR
     |some x=>
      obtain⟨c,n⟩:=x
      rw[ep]at hr Z
      dsimp only at hr
      subst hr
      obtain⟨n1,n2,n3,n4⟩:=J3 ah ep
      rw[AW]at n3
      dsimp only at Z
      refine⟨(c:Int),(n:Int),rfl,λhz=>?_,λ_=>?_⟩
      ·simp only[beq_iff_eq]at hz;omega
      refine zr6 (B.keep L.keep) (by omega) (by omega) (by omega) λap m am ak=>⟨_,_,rfl,?_,?_⟩
      ·refine⟨k+n,out++Lib.encodeRune (c:Int),?_,by omega,?_,am,?_,?_⟩
       ·rw[w64 (by omega)];omega
       ·have h4:(Lib.encodeRune (c:Int)).length<=4:=by
         have:=(Lib.encodeRuneZ_length (c:Int)).2
         rw[Lib.encodeRune,BN];exact this
        rw[AF];omega
       ·exact(kg.trans L.keep kg.size).trans ak (Av _)
       ·rw[er,Z,Bq]
        dsimp only
        rw[Bo,D3]
      ·show t.length-(Ar .i64 ((k:Int)+(n:Int))).toNat<t.length-((k:Nat):Int).toNat
       rw[w64 (by omega)]
       omega
   ·have ae:k=t.length:=by rw[decide_eq_false_iff_not]at hx;omega
    rw[ae,List.drop_length,zzm]at er
    refine⟨M,(bl [],(t.length:Int),2),Later.same ag kg,zuh _ _ _,?_⟩
    rw[er]at hR
    simpa using hR
end
section
variable {t:Bs} {gl:Fr}
def qbe(t:Bs)(a:Int):Int×Int:=if a<0\/(t.length:Int)<a then(0,2)else((Qt t a.toNat).2.1,(Qt t a.toNat).2.2)
theorem z8i{R:Bt×Int×Int->Prop}(h:R (bl (zei t).1,((zei t).2.1:Int),(zei t).2.2)):
  ((bif ((Qt t 0).2.2==0)then(decide (((Qt t 0).2.1:Int)<(t.length:Int)))else false)=true->R (bl [],((Qt t 0).2.1:Int),2))/\((bif ((Qt t 0).2.2==0)then(decide (((Qt t 0).2.1:Int)<(t.length:Int)))else false)=false->R (bl (Qt t 0).1,((Qt t 0).2.1:Int),(Qt t 0).2.2)):=by
 have e:(bif ((Qt t 0).2.2==0)then(decide (((Qt t 0).2.1:Int)<(t.length:Int)))else false)=decide ((Qt t 0).2.2=0/\(Qt t 0).2.1<t.length):=by
  rw[A6]
  simp only[Bool.cond_eq_ite,Bool.if_false_right,BP,decide_eq_true_eq,beq_iff_eq]
  omega
 rw[e]
 unfold zei at h
 refine⟨λhx=>?_,λhx=>?_⟩
 ·rw[if_pos (of_decide_eq_true hx)]at h;exact h
 ·rw[if_neg (of_decide_eq_false hx)]at h;exact h
theorem zgz(hg:GL gl)(hl:t.length<=1099511627776){R:Bt×Int×Int->Prop}(h:R (bl (zei t).1,((zei t).2.1:Int),(zei t).2.2)):
  PC Tp gl 196 [Arg.mk .str (bl t)] [.str,.int .i64,.int .i64] R:=by
 apply zhp
 rw[Zf]
 exact zui hg (a:=0) (by omega) hl (z8i h)
theorem qbf(hg:GL gl){a:Int}(hl:t.length<=1099511627776){R:Int×Int->Prop}(h:R (qbe t a)):PC Tp gl 258 [Arg.mk .str (bl t),Arg.mk (.int .i64) a] [.int .i64,.int .i64] R:=by
 apply zpo
 rw[Zf]
 have e:(bif (decide (a<0))then true else(decide (a>(t.length:Int))))=decide (a<0\/(t.length:Int)<a):=by
  rw[A6];simp only[Bool.cond_eq_ite,Bool.if_true_left,Cb,decide_eq_true_eq]
 rw[e]
 unfold qbe at h
 refine⟨λhx=>?_,λhx=>?_⟩
 ·rw[if_pos (of_decide_eq_true hx)]at h;exact h
 ·have hn:=of_decide_eq_false hx
  rw[if_neg hn]at h
  have ea:a=((a.toNat:Nat):Int):=by omega
  have:=zui hg (t:=t) (a:=a.toNat) (by omega) hl (R:=λZ=>R (Z.2.1,Z.2.2)) h
  rw[<-ea]at this
  exact this
end
end Go.X
end
section
namespace Go.X
open Go Go.RowKit
section
variable {n k rb:Nat} {h:Za} {x:Tr}
def qbg(v:Tr)(k:Nat)(x:Tr):Tr:=.mk v.kind v.text v.keys (v.items.set k x)
theorem zng{bf:Nat->List Nat}:((BS n).flatMap bf).Nodup↔(∀i,i<n->(bf i).Nodup)/\∀i j,i<j->j<n->∀x∈bf i,∀y∈bf j,x≠y:=by
 unfold List.Nodup
 rw[List.pairwise_flatMap,List.pairwise_iff_getElem]
 constructor
 ·rintro⟨h1,h2⟩
  refine⟨λi hi=>h1 i (by simpa using hi),λi j Z hj=>?_⟩
  have:=h2 i j (by simp;omega) (by simpa using hj) Z
  simpa using this
 ·rintro⟨h1,h2⟩
  refine⟨λi hi=>h1 i (by simpa using hi),λi j hi hj Z=>?_⟩
  simp at hi hj
  simpa using h2 i j Z hj
theorem zuj{cs:Array Value}{o n:Nat}(h:o+n<=cs.size):upd cs o (cut cs o n)=cs:=by
 have hl:(cut cs o n).length=n:=by unfold cut;simp;omega
 apply Array.ext'
 apply BB
 intro q
 rw[zm3 (by rw[hl];exact h)]
 split
 ·rfl
 ·split
  ·rw[Z3,if_pos (by omega)];congr 1;omega
  ·rfl
theorem OT.put1{v:Tr}{bs:List Nat}{cells:List Value}(H:OT h v bs cells)(hk:k<v.items.length):
  ∃(b:Nat) (cs:Array Value) (si:Sl) (bx:List Nat),cells[3]?=some (slV si)/\si.a=some ⟨b,0,none⟩/\si.len=v.items.length/\Blk h b cs/\v.items.length*4<=cs.size/\b∈bs/\OT h v.items[k] bx (cut cs (k*4) 4)/\b∉bx/\(∀c∈bx,c∈bs) /\
   ∀(h':Za) (x':Tr) (aa:List Value) (b':List Nat),(∀c∈bs,c∉bx->c≠b->h'[c]?=h[c]?)->Blk h' b (upd cs (k*4) aa)->OT h' x' b' aa->(∀c∈b',c∈bx\/c∉bs)->∃bn,OT h' (qbg v k x') bn cells/\∀c∈bn,c∈bs\/c∈b':=by
 cases H with
 | @mk kd s ks xs sk si bk bb b cs bf hkk hn hz hi hd=>
  have hk:k<xs.length:=hk
  rcases hz with⟨h0,_⟩|⟨rfl,e1,hb,am⟩
  ·rw[h0]at hk;simp at hk
  have aC:xs.length*4<=cs.size:=by have:=hn.2.2;omega
  rw[Ck]at hd
  obtain⟨aJ,az,aj⟩:=hd
  rw[Ck]at az
  obtain⟨aL,aE,aF⟩:=az
  have nf:=zng.1 aE
  have ah:∀i,i<xs.length->b∉bf i:=λi hi hm=>aF b (by simp) b (BH.2 ⟨i,by simpa using hi,hm⟩) rfl
  have ai:∀i,i<xs.length->∀c∈bf i,c∈bk++([b]++(BS xs.length).flatMap bf):=λi hi c hc=>by
   simp only[AP,BH,BF]
   exact .inr (.inr ⟨i,hi,hc⟩)
  refine⟨b,cs,si,bf k,rfl,e1,hn.1,hb,aC,by simp,hi k hk,ah k hk,ai k hk,λh' x' aa b' hf aH ho ak=>?_⟩
  have aG:aa.length=4:=ho.len
  have au:∀c∈b',∀i,i<xs.length->i≠k->c∉bf i:=λc hc i ab aI hm=>by
   rcases ak c hc with hx|hx
   ·rcases Nat.lt_or_gt_of_ne aI with ae|ae
    ·exact nf.2 i k ae hk c hm c hx rfl
    ·exact nf.2 k i ae ab c hx c hm rfl
   ·exact hx (ai i ab c hm)
  have ay:b∉b':=λhm=>by
   rcases ak b hm with hx|hx
   ·exact ah k hk hx
   ·exact hx (by simp)
  have ap:∀c∈bk,c∉b':=λc hc hm=>by
   rcases ak c hm with hx|hx
   ·exact aj c hc c (by rw[AP];exact .inr (BH.2 ⟨k,by simpa using hk,hx⟩)) rfl
   ·exact hx (by simp[hc])
  have an:∀c∈bk,c≠b:=λc hc e=>aj c hc b (by simp) e
  have ar:∀c∈bk,∀i,i<xs.length->c∉bf i:=λc hc i ab hm=>aj c hc c (by rw[AP];exact .inr (BH.2 ⟨i,by simpa using ab,hm⟩)) rfl
  have af:(xs.set k x').length=xs.length:=by simp
  have hu:k*4+aa.length<=cs.size:=by omega
  refine⟨bk++([b]++(BS (xs.set k x').length).flatMap (λi=>if i=k then b' else bf i)),?_,λc hc=>?_⟩
  ·refine OT.mk (b:=b) (cs:=upd cs (k*4) aa) (hkk.frame λc hc=>hf c (by simp[hc]) (ar c hc k hk) (an c hc)) (by rw[af];exact hn) (.inr ⟨rfl,e1,aH,by rw[zm2 hu];exact am⟩) (λi hx=>?_) ?_
   ·rw[af]at hx
    by_cases Z:i=k
    ·subst Z
     rw[if_pos rfl]
     have:=z7n hu
     rw[aG]at this
     rw[this,List.getElem_set_self];exact ho
    ·rw[if_neg Z,List.getElem_set_ne (by omega),zwf hu (by omega)]
     refine(hi i hx).frame λc hc=>hf c (ai i hx c hc) (λhm=>?_) (λe=>ah i hx (e ▸ hc))
     rcases Nat.lt_or_gt_of_ne Z with ae|ae
     ·exact nf.2 i k ae hk c hc c hm rfl
     ·exact nf.2 k i ae hx c hm c hc rfl
   ·rw[af,Ck]
    refine⟨aJ,?_,λx hx y hy=>?_⟩
    ·rw[Ck]
     refine⟨by simp,zng.2 ⟨λi ab=>?_,λi j aB hj x hx y hy e=>?_⟩,λx hx y hy=>?_⟩
     ·by_cases Z:i=k
      ·rw[if_pos Z];exact ho.nodup
      ·rw[if_neg Z];exact nf.1 i ab
     ·subst e
      by_cases Z:i=k
      ·rw[if_pos Z]at hx
       rw[if_neg (by omega)]at hy
       exact au x hx j hj (by omega) hy
      ·rw[if_neg Z]at hx
       by_cases aA:j=k
       ·rw[if_pos aA]at hy
        exact au x hy i (by omega) Z hx
       ·rw[if_neg aA]at hy
        exact nf.2 i j aB hj x hx x hy rfl
     ·simp at hx;subst hx
      obtain⟨i,ab,hy⟩:=BH.1 hy
      simp at ab
      intro e;subst e
      by_cases Z:i=k
      ·rw[if_pos Z]at hy;exact ay hy
      ·rw[if_neg Z]at hy;exact ah i ab hy
    ·intro e;subst e
     rw[AP]at hy
     rcases hy with hy|hy
     ·simp at hy;exact an x hx hy
     ·obtain⟨i,ab,hy⟩:=BH.1 hy
      simp at ab
      by_cases Z:i=k
      ·rw[if_pos Z]at hy;exact ap x hx hy
      ·rw[if_neg Z]at hy;exact ar x hx i ab hy
  ·rw[af,AP,AP]at hc
   rcases hc with hc|hc|hc
   ·exact .inl (by simp[hc])
   ·exact .inl (by simp at hc;simp[hc])
   ·obtain⟨i,ab,hc⟩:=BH.1 hc
    simp at ab
    by_cases Z:i=k
    ·rw[if_pos Z]at hc;exact .inr hc
    ·rw[if_neg Z]at hc;exact .inl (ai i ab c hc)
def Foc(h:Za)(base rb:Nat)(p:Addr)(x:Tr)(T:Tr->Tr):Prop:=
 ∃(b o:Nat) (cs:Array Value) (bx:List Nat),p=⟨b,o,none⟩/\Blk h b cs/\o+4<=cs.size/\OT h x bx (cut cs o 4)/\b∉bx/\base<=b/\(∀c∈bx,base<=c) /\
  ∀(h':Za) (x':Tr) (Z:List Value) (b':List Nat),(∀c,c≠b->c∉bx->c<h.size->h'[c]?=h[c]?)->Blk h' b (upd cs o Z)->OT h' x' b' Z->(∀c∈b',c∈bx\/h.size<=c) ->
   ∃cs' aa,Blk h' rb cs'/\cs'.size=4/\OT h' (T x') aa cs'.toList/\∀c∈aa,base<=c/\c≠rb
theorem Foc.step{base rb:Nat}{p:Addr}{T:Tr->Tr}(H:Foc h base rb p x T)(hk:k<x.items.length):
  ∃(si:Sl) (a:Addr),Ze h (p.add 3)=some (slV si)/\si.a=some a/\si.len=x.items.length/\Foc h base rb (a.add (k*4)) x.items[k] (λy=>T (qbg x k y)):=by
 obtain⟨b,o,cs,bx,rfl,hb,ho,ot,ai,au,ab,ae⟩:=H
 obtain⟨b2,aG,si,aF,e3,ea,el,aA,aH,af,ay,an,Z,ah⟩:=ot.put1 hk
 refine⟨si,⟨b2,0,none⟩,?_,ea,el,b2,k*4,aG,aF,by rw[Zq,AX],aA,by omega,ay,an,ab b2 af,λc hc=>ab c (Z c hc),λh' x' aa b' hf az aE ak=>?_⟩
 ·rw[Zq]
  refine hb.cell ?_
  rw[Z3,if_pos (by omega)]at e3
  rw[<-BI];exact e3
 ·have aB:b≠b2:=λe=>ai (e ▸ af)
  obtain⟨bn,ar,aj⟩:=ah h' x' aa b' (λc hc aC ap=>hf c ap aC (ot.lt c hc)) az aE (λc hc=>(ak c hc).imp id λhx hm=>by have:=ot.lt c hm;omega)
  refine ae h' (qbg x k x') (cut cs o 4) bn (λc hc am ae=>hf c (λe=>am (e ▸ af)) (λhm=>am (Z c hm)) ae) ?_ ar λc hc=>?_
  ·rw[zuj ho]
   exact hb.keep (hf b aB (λhm=>ai (Z b hm)) hb.lt)
  ·rcases aj c hc with hx|hx
   ·exact .inl hx
   ·rcases ak c hx with hy|hy
    ·exact .inl (Z c hy)
    ·exact .inr hy
theorem Foc.put{base rb:Nat}{p:Addr}{T:Tr->Tr}(H:Foc h base rb p x T){h1:Za}(k:Keep h.size h h1){w:Tr}{bw:List Nat}{cw:List Value}(ow:OT h1 w bw cw)(ab:∀c∈bw,h.size<=c):
  ∃(b o:Nat) (cs:Array Value),p=⟨b,o,none⟩/\base<=b/\b<h.size/\Blk h1 b cs/\o+4<=cs.size/\∀h2:Za,Blk h2 b (upd cs o cw)->h2.size=h1.size->(∀j,j≠b->h2[j]?=h1[j]?) ->
   ∃cs' af,Blk h2 rb cs'/\cs'.size=4/\OT h2 (T w) af cs'.toList/\∀c∈af,base<=c/\c≠rb:=by
 obtain⟨b,o,cs,bx,rfl,hb,ho,ot,ak,Z,aj,aa⟩:=H
 have ah:=hb.lt
 refine⟨b,o,cs,rfl,Z,ah,hb.ofKeep k,ho,λh2 ai am ae=>?_⟩
 refine aa h2 w cw bw (λc hc _ aa=>(ae c hc).trans (k.get c aa)) ai (ow.frame λc hc=>ae c (λe=>by have:=ab c hc;omega)) λc hc=>.inr (ab c hc)
theorem Foc.keep{h h':Za}{base rb:Nat}{p:Addr}{T:Tr->Tr}(H:Foc h base rb p x T)(k:Keep h.size h h'):Foc h' base rb p x T:=by
 obtain⟨b,o,cs,bx,rfl,hb,ho,ot,af,aa,ab,am⟩:=H
 have hz:=k.size
 refine⟨b,o,cs,bx,rfl,hb.ofKeep k,ho,ot.frame λc hc=>k.get c (ot.lt c hc),af,aa,ab,λh2 x' Z b' hf ae ai ah=>am h2 x' Z b' (λc hc aj ak=>(hf c hc aj (by omega)).trans (k.get c ak)) ae ai λc hc=>(ah c hc).imp id λhx=>by omega⟩
end
section
variable {h h':Za} {v x:Tr} {sk si si' sk':Sl} {bk bb bk' D:List Nat} {b n i k rb:Nat} {cs cs':Array Value} {c cw:List Value} {α:Type} {ks':List Bt}
structure OTp (h:Za) (v:Tr) (sk si:Sl) (bk bb:List Nat) (b:Nat) (cs:Array Value) (bf:Nat->List Nat):Prop where
 keys:OKeys h v.keys bk sk
 hn:si.len=v.items.length/\v.items.length<=140737488355328/\v.items.length<=si.cap
 hz:(v.items=[]/\bb=[]/\si.cap=0)\/(bb=[b]/\si.a=some ⟨b,0,none⟩/\Blk h b cs/\si.cap*4<=cs.size)
 hi:∀i (hx:i<v.items.length),OT h v.items[i] (bf i) (cut cs (i*4) 4)
 nk:bk.Nodup
 d1:∀c∈bk,c∉bb
 d2:∀c∈bk,∀i,i<v.items.length->c∉bf i
 d3:∀c∈bb,∀i,i<v.items.length->c∉bf i
 d4:∀i j,i<v.items.length->j<v.items.length->i≠j->∀c∈bf i,c∉bf j
def Jr(v:Tr)(sk si:Sl):List Value:=[.int .i64 v.kind,.string v.text,slV sk,slV si]
theorem OTp.ot{bf:Nat->List Nat}(H:OTp h v sk si bk bb b cs bf):OT h v (bk++(bb++(BS v.items.length).flatMap bf)) (Jr v sk si):=by
 obtain⟨k,s,ks,xs⟩:=v
 refine OT.mk (b:=b) (cs:=cs) H.keys H.hn H.hz H.hi ?_
 rw[Ck]
 refine⟨H.nk,?_,λx hx y hy e=>?_⟩
 ·rw[Ck]
  refine⟨?_,zng.2 ⟨λi hi=>(H.hi i hi).nodup,λi j Z hj x hx y hy e=>?_⟩,λx hx y hy e=>?_⟩
  ·rcases H.hz with⟨_,e,_⟩|⟨e,_⟩
   ·rw[e];exact List.nodup_nil
   ·rw[e];simp
  ·subst e;exact H.d4 i j (Nat.lt_trans Z hj) hj (by omega) x hx hy
  ·subst e
   obtain⟨i,hi,hy⟩:=BH.1 hy
   exact H.d3 x hx i (by simpa using hi) hy
 ·subst e
  rcases AP.1 hy with hy|hy
  ·exact H.d1 x hx hy
  ·obtain⟨i,hi,hy⟩:=BH.1 hy
   exact H.d2 x hx i (by simpa using hi) hy
theorem OT.p{bs:List Nat}{cells:List Value}(H:OT h v bs cells):∃(sk si:Sl) (bk bb:List Nat) (b:Nat) (cs:Array Value) (bf:Nat->List Nat),cells=Jr v sk si/\OTp h v sk si bk bb b cs bf/\bs=bk++(bb++(BS v.items.length).flatMap bf):=by
 cases H with
 | @mk kd s ks xs sk si bk bb b cs bf hk hn hz hi hd=>
  rw[Ck]at hd
  obtain⟨ah,ab,aa⟩:=hd
  rw[Ck]at ab
  obtain⟨aj,ae,af⟩:=ab
  have nf:=zng.1 ae
  refine⟨sk,si,bk,bb,b,cs,bf,rfl,⟨hk,hn,hz,hi,ah,λc hc hm=>aa c hc c (AJ _ hm) rfl,λc hc i hi hm=>aa c hc c (AO _ (BH.2 ⟨i,by simpa using hi,hm⟩)) rfl,λc hc i hi hm=>af c hc c (BH.2 ⟨i,by simpa using hi,hm⟩) rfl,λi j hi hj ai c hc hm=>?_⟩,rfl⟩
  rcases Nat.lt_or_gt_of_ne ai with Z|Z
  ·exact nf.2 i j Z hj c hc c hm rfl
  ·exact nf.2 j i Z hi c hm c hc rfl
theorem zz9{bf:Nat->List Nat}{n c:Nat}:c∈bk++(bb++(BS n).flatMap bf)↔c∈bk\/c∈bb\/∃i,i<n/\c∈bf i:=by
 simp only[AP,BH,BF]
theorem zc4(h:i+4<=n):cut cs i 4=((cut cs 0 n).drop i).take 4:=by
 unfold cut
 rw[Cc,Dp,Dq,C7 (by omega)]
theorem z8j{xs:List α}{w:α}(hk:k<=xs.length)(h:i<(xs.take k++w::xs.drop k).length):
  (i<k/\∃h':i<xs.length,(xs.take k++w::xs.drop k)[i]=xs[i])\/(i=k/\(xs.take k++w::xs.drop k)[i]=w)\/(k<i/\∃h':i-1<xs.length,(xs.take k++w::xs.drop k)[i]=xs[i-1]):=by
 have hl:(xs.take k).length=k:=by rw[Bc];omega
 simp only[AF,AN,hl,AW]at h
 rcases Nat.lt_trichotomy i k with h1|h1|h1
 ·refine .inl ⟨h1,by omega,?_⟩
  rw[Dk (by rw[hl];exact h1),List.getElem_take]
 ·refine .inr (.inl ⟨h1,?_⟩)
  subst h1
  rw[CV (by rw[hl];exact Av _)]
  simp[hl]
 ·refine .inr (.inr ⟨h1,by omega,?_⟩)
  rw[CV (by rw[hl];omega)]
  simp only[hl]
  have e:i-k=(i-1-k)+1:=by omega
  simp only[e,List.getElem_cons_succ,List.getElem_drop]
  congr 1;omega
theorem z8k(hc:c.length=n*4)(hw:cw.length=4)(hk:k<=n):
  (∀i,i<k->((c.take (k*4)++cw++c.drop (k*4)).drop (i*4)).take 4=(c.drop (i*4)).take 4)/\((c.take (k*4)++cw++c.drop (k*4)).drop (k*4)).take 4=cw/\∀i,k<i->((c.take (k*4)++cw++c.drop (k*4)).drop (i*4)).take 4=(c.drop ((i-1)*4)).take 4:=by
 have hl:(c.take (k*4)).length=k*4:=by rw[Bc];omega
 refine⟨λi hi=>?_,?_,λi hi=>?_⟩
 ·apply BB
  intro j
  rw[AR,AR]
  split
  ·rw[AY,AY,Bo,BE (by rw[hl];omega),AR,if_pos (by omega)]
  ·rfl
 ·rw[Bo,List.drop_append,BJ (by rw[hl];exact Av _),BV,hl,Nat.sub_self,Cc,List.take_append,hw,Nat.sub_self,Ed,Bu,Cv (by omega)]
 ·rw[List.drop_append,BJ (by rw[AF,hl,hw];omega),BV,AF,hl,hw,Bq]
  congr 2;omega
theorem OTp.ins{bf:Nat->List Nat}(H:OTp h v sk si bk bb b cs bf)(hk:k<=v.items.length){w:Tr}{bw:List Nat}(ow:OT h' w bw cw)
  (hf:∀i,i<v.items.length->∀c∈bf i,h'[c]?=h[c]?) {b':Nat} (e1:si'.a=some ⟨b',0,none⟩) (e2:Blk h' b' cs') (e3:si'.len=v.items.length+1) (e4:v.items.length+1<=si'.cap) (e5:si'.cap*4<=cs'.size) (e6:v.items.length+1<=140737488355328)
  (e7:cut cs' 0 ((v.items.length+1)*4)=(cut cs 0 (v.items.length*4)).take (k*4)++cw++(cut cs 0 (v.items.length*4)).drop (k*4)) (ak:∀i,i<v.items.length->b'∉bf i) (aj:b'∉bw) (hw:∀c∈bw,∀i,i<v.items.length->c∉bf i) (ok:OKeys h' ks' bk' sk') (nk:bk'.Nodup) (an:b'∉bk') (ar:∀c∈bk',∀i,i<v.items.length->c∉bf i) (ah:∀c∈bk',c∉bw):
  OTp h' (.mk v.kind v.text ks' (v.items.take k++w::v.items.drop k)) sk' si' bk' [b'] b' cs' (λi=>if i<k then bf i else if i=k then bw else bf (i-1)):=by
 have Z:(v.items.take k++w::v.items.drop k).length=v.items.length+1:=by simp;omega
 have ai:∀i (hx:i<v.items.length),(cut cs 0 (v.items.length*4)).length=v.items.length*4:=by
  intro i hx
  rcases H.hz with⟨h0,_⟩|⟨_,_,_,au⟩
  ·rw[h0]at hx;simp at hx
  ·unfold cut;simp;have:=H.hn.2.2;omega
 have af:(cut cs 0 (v.items.length*4)).length=v.items.length*4:=by
  by_cases h0:0<v.items.length
  ·exact ai 0 h0
  ·have:v.items.length=0:=by omega
   rw[this];unfold cut;simp
 have ap:cw.length=4:=ow.len
 obtain⟨c1,c2,c3⟩:=z8k af ap hk
 have ae:∀i,i<v.items.length+1->∀c,c∈(if i<k then bf i else if i=k then bw else bf (i-1))->(∃j,j<v.items.length/\c∈bf j)\/c∈bw:=by
  intro i hi c hc
  split at hc
  ·exact .inl ⟨i,by omega,hc⟩
  ·split at hc
   ·exact .inr hc
   ·exact .inl ⟨i-1,by omega,hc⟩
 refine⟨ok,⟨by show si'.len=(v.items.take k++w::v.items.drop k).length;rw[Z];exact e3,by show(v.items.take k++w::v.items.drop k).length<=_;rw[Z];exact e6,by show(v.items.take k++w::v.items.drop k).length<=_;rw[Z];exact e4⟩,.inr ⟨rfl,e1,e2,e5⟩,λi hx=>?_,nk,λc hc hm=>?_,λc hc i hi hm=>?_,λc hc i hi hm=>?_,λi j hi hj am c hc hm=>?_⟩
 ·have ab:i<(v.items.take k++w::v.items.drop k).length:=hx
  have ay:i<v.items.length+1:=by rw[<-Z];exact ab
  rw[zc4 (n:=(v.items.length+1)*4) (by omega),e7]
  show OT h' (v.items.take k++w::v.items.drop k)[i] _ _
  rcases z8j hk ab with⟨hi,h2,e⟩|⟨hi,e⟩|⟨hi,h2,e⟩
  ·rw[e,if_pos hi,c1 i hi,<-zc4 (by omega)]
   exact(H.hi i h2).frame (hf i h2)
  ·subst hi
   rw[e,if_neg (by omega),if_pos rfl,c2];exact ow
  ·rw[e,if_neg (by omega),if_neg (by omega),c3 i hi,<-zc4 (by omega)]
   exact(H.hi (i-1) h2).frame (hf (i-1) h2)
 ·simp at hm;subst hm;exact an hc
 ·have aa:i<v.items.length+1:=by rw[<-Z];exact hi
  rcases ae i aa c hm with⟨j,hj,hm⟩|hm
  ·exact ar c hc j hj hm
  ·exact ah c hc hm
 ·have aa:i<v.items.length+1:=by rw[<-Z];exact hi
  simp at hc;subst hc
  rcases ae i aa c hm with⟨j,hj,hm⟩|hm
  ·exact ak j hj hm
  ·exact aj hm
 ·have aa:i<v.items.length+1:=by rw[<-Z];exact hi
  have az:j<v.items.length+1:=by rw[<-Z];exact hj
  try simp only at hc hm
  split at hc
  ·split at hm
   ·exact H.d4 i j (by omega) (by omega) am c hc hm
   ·split at hm
    ·exact hw c hm i (by omega) hc
    ·exact H.d4 i (j-1) (by omega) (by omega) (by omega) c hc hm
  ·split at hc
   ·split at hm
    ·exact hw c hc j (by omega) hm
    ·split at hm
     ·omega
     ·exact hw c hc (j-1) (by omega) hm
   ·split at hm
    ·exact H.d4 (i-1) j (by omega) (by omega) (by omega) c hc hm
    ·split at hm
     ·exact hw c hm (i-1) (by omega) hc
     ·exact H.d4 (i-1) (j-1) (by omega) (by omega) (by omega) c hc hm
theorem z8l{xs:List α}(hk:k<xs.length)(h:i<(xs.take k++xs.drop (k+1)).length):
  (i<k/\∃h':i<xs.length,(xs.take k++xs.drop (k+1))[i]=xs[i])\/(k<=i/\∃h':i+1<xs.length,(xs.take k++xs.drop (k+1))[i]=xs[i+1]):=by
 have hl:(xs.take k).length=k:=by rw[Bc];omega
 simp only[AF,hl,AW]at h
 rcases A1 i k with h1|h1
 ·refine .inl ⟨h1,by omega,?_⟩
  rw[Dk (by rw[hl];exact h1),List.getElem_take]
 ·refine .inr ⟨h1,by omega,?_⟩
  rw[CV (by rw[hl];omega)]
  simp only[hl,List.getElem_drop]
  congr 1;omega
theorem z8m(hc:c.length=n*4)(hk:k<n):
  (∀i,i<k->((c.take (k*4)++c.drop ((k+1)*4)).drop (i*4)).take 4=(c.drop (i*4)).take 4)/\∀i,k<=i->((c.take (k*4)++c.drop ((k+1)*4)).drop (i*4)).take 4=(c.drop ((i+1)*4)).take 4:=by
 have hl:(c.take (k*4)).length=k*4:=by rw[Bc];omega
 refine⟨λi hi=>?_,λi hi=>?_⟩
 ·apply BB
  intro j
  rw[AR,AR]
  split
  ·rw[AY,AY,BE (by rw[hl];omega),AR,if_pos (by omega)]
  ·rfl
 ·rw[List.drop_append,BJ (by rw[hl];omega),BV,hl,Bq]
  congr 2;omega
theorem OTp.del{bf:Nat->List Nat}(H:OTp h v sk si bk bb b cs bf)(hk:k<v.items.length)
  (hf:∀i,i<v.items.length->∀c∈bf i,h'[c]?=h[c]?) (e1:si'.a=si.a) (e2:Blk h' b cs') (e3:si'.len+1=v.items.length) (e4:si'.cap=si.cap) (e5:cs'.size=cs.size)
  (e7:cut cs' 0 ((v.items.length-1)*4)=(cut cs 0 (v.items.length*4)).take (k*4)++(cut cs 0 (v.items.length*4)).drop ((k+1)*4)) (ok:OKeys h' ks' bk' sk') (aa:∀c∈bk',c∈bk) (nk:bk'.Nodup):
  OTp h' (.mk v.kind v.text ks' (v.items.take k++v.items.drop (k+1))) sk' si' bk' [b] b cs' (λi=>if i<k then bf i else bf (i+1)):=by
 have Z:(v.items.take k++v.items.drop (k+1)).length=v.items.length-1:=by simp;omega
 rcases H.hz with⟨h0,_⟩|⟨ai,ha,hb,ah⟩
 ·rw[h0]at hk;simp at hk
 obtain⟨n1,n2,n3⟩:=H.hn
 have aj:(cut cs 0 (v.items.length*4)).length=v.items.length*4:=by unfold cut;simp;omega
 obtain⟨c1,c2⟩:=z8m aj hk
 have ab:b∈bb:=by rw[ai];simp
 refine⟨ok,⟨by show si'.len=(v.items.take k++v.items.drop (k+1)).length;rw[Z];omega,by show(v.items.take k++v.items.drop (k+1)).length<=_;rw[Z];omega,by show(v.items.take k++v.items.drop (k+1)).length<=_;rw[Z];omega⟩,.inr ⟨rfl,by rw[e1];exact ha,e2,by rw[e4,e5];exact ah⟩,λi hx=>?_,nk,λc hc hm=>?_,λc hc i hi hm=>?_,λc hc i hi hm=>?_,λi j hi hj ak c hc hm=>?_⟩
 ·have ae:i<(v.items.take k++v.items.drop (k+1)).length:=hx
  have am:i<v.items.length-1:=by rw[<-Z];exact ae
  rw[zc4 (n:=(v.items.length-1)*4) (by omega),e7]
  show OT h' (v.items.take k++v.items.drop (k+1))[i] _ _
  rcases z8l hk ae with⟨hi,h2,e⟩|⟨hi,h2,e⟩
  ·rw[e,if_pos hi,c1 i hi,<-zc4 (by omega)]
   exact(H.hi i h2).frame (hf i h2)
  ·rw[e,if_neg (by omega),c2 i hi,<-zc4 (by omega)]
   exact(H.hi (i+1) h2).frame (hf (i+1) h2)
 ·simp at hm;subst hm;exact H.d1 c (aa c hc) ab
 ·have af:i<v.items.length-1:=by rw[<-Z];exact hi
  try simp only at hm
  split at hm
  ·exact H.d2 c (aa c hc) i (by omega) hm
  ·exact H.d2 c (aa c hc) (i+1) (by omega) hm
 ·have af:i<v.items.length-1:=by rw[<-Z];exact hi
  simp at hc;subst hc
  try simp only at hm
  split at hm
  ·exact H.d3 c ab i (by omega) hm
  ·exact H.d3 c ab (i+1) (by omega) hm
 ·have af:i<v.items.length-1:=by rw[<-Z];exact hi
  have an:j<v.items.length-1:=by rw[<-Z];exact hj
  try simp only at hc hm
  split at hc
  ·split at hm
   ·exact H.d4 i j (by omega) (by omega) ak c hc hm
   ·exact H.d4 i (j+1) (by omega) (by omega) (by omega) c hc hm
  ·split at hm
   ·exact H.d4 (i+1) j (by omega) (by omega) (by omega) c hc hm
   ·exact H.d4 (i+1) (j+1) (by omega) (by omega) (by omega) c hc hm
structure Doc (h:Za) (rb:Nat) (v:Tr) (D:List Nat):Prop where
 ex:∃cs:Array Value,Blk h rb cs/\cs.size=4/\OT h v D cs.toList
 no:rb∉D
def Plc(h:Za)(D:List Nat)(rb:Nat)(p:Addr)(x:Tr)(T:Tr->Tr):Prop:=
 ∃(b o:Nat) (cs:Array Value) (bx:List Nat),p=⟨b,o,none⟩/\Blk h b cs/\o+4<=cs.size/\OT h x bx (cut cs o 4)/\b∉bx/\(b=rb\/b∈D)/\(∀c∈bx,c∈D)/\rb∉D/\(∀c∈D,c<h.size) /\
  ∀(h':Za) (x':Tr) (Z:List Value) (b':List Nat),(∀c,c≠b->c∉bx->(c=rb\/c∈D)->h'[c]?=h[c]?)->Blk h' b (upd cs o Z)->OT h' x' b' Z->(∀c∈b',c∈bx\/(c≠rb/\c∉D)) ->
   ∃D',Doc h' rb (T x') D'/\∀c∈D',c∈D\/c∈b'
theorem Plc.step{p:Addr}{T:Tr->Tr}(H:Plc h D rb p x T)(hk:k<x.items.length):
  ∃(si:Sl) (a:Addr),Ze h (p.add 3)=some (slV si)/\si.a=some a/\si.len=x.items.length/\Plc h D rb (a.add (k*4)) x.items[k] (λy=>T (qbg x k y)):=by
 obtain⟨b,o,cs,bx,rfl,hb,ho,ot,ak,af,Z,ap,aA,ah⟩:=H
 obtain⟨b2,aJ,si,aI,e3,ea,el,aE,aL,ai,aB,au,aa,aj⟩:=ot.put1 hk
 refine⟨si,⟨b2,0,none⟩,?_,ea,el,b2,k*4,aJ,aI,by rw[Zq,AX],aE,by omega,aB,au,.inr (Z b2 ai),λc hc=>Z c (aa c hc),ap,aA,λh' x' ab b' hf aC aH am=>?_⟩
 ·rw[Zq]
  refine hb.cell ?_
  rw[Z3,if_pos (by omega)]at e3
  rw[<-BI];exact e3
 ·have aF:b≠b2:=λe=>ak (e ▸ ai)
  obtain⟨bn,az,ae⟩:=aj h' x' ab b' (λc hc aG ay=>hf c ay aG (.inr (Z c hc))) aC aH (λc hc=>(am c hc).imp id λhx hm=>hx.2 (Z c hm))
  obtain⟨D',hD,ar⟩:=ah h' (qbg x k x') (cut cs o 4) bn (λc hc an ah=>hf c (λe=>an (e ▸ ai)) (λhm=>an (aa c hm)) ah) (by
   rw[zuj ho]
   exact hb.keep (hf b aF (λhm=>ak (aa b hm)) af)) az λc hc=>by
    rcases ae c hc with hx|hx
    ·exact .inl hx
    ·rcases am c hx with hy|hy
     ·exact .inl (aa c hy)
     ·exact .inr hy
  refine⟨D',hD,λc hc=>?_⟩
  rcases ar c hc with hx|hx
  ·exact .inl hx
  ·rcases ae c hx with hy|hy
   ·exact .inl (Z c hy)
   ·exact .inr hy
theorem Plc.keep{p:Addr}{T:Tr->Tr}(H:Plc h D rb p x T)(k:∀c,c=rb\/c∈D->h'[c]?=h[c]?)(hs:h.size<=h'.size):Plc h' D rb p x T:=by
 obtain⟨b,o,cs,bx,rfl,hb,ho,ot,ah,Z,ab,ae,am,an⟩:=H
 refine⟨b,o,cs,bx,rfl,hb.keep (k b Z),ho,ot.frame λc hc=>k c (.inr (ab c hc)),ah,Z,ab,ae,λc hc=>by have:=am c hc;omega,λh2 x' aa b' hf af aj ai=>an h2 x' aa b' (λc hc ak hl=>(hf c hc ak hl).trans (k c hl)) af aj ai⟩
theorem Doc.keep(H:Doc h rb v D)(k:∀c,c=rb\/c∈D->h'[c]?=h[c]?):Doc h' rb v D:=by
 obtain⟨⟨cs,hb,aa,ot⟩,Z⟩:=H
 exact⟨⟨cs,hb.keep (k rb (.inl rfl)),aa,ot.frame λc hc=>k c (.inr hc)⟩,Z⟩
theorem Doc.lt(H:Doc h rb v D):∀c,c=rb\/c∈D->c<h.size:=by
 obtain⟨⟨cs,hb,aa,ot⟩,Z⟩:=H
 rintro c (rfl|hc)
 ·exact hb.lt
 ·exact ot.lt c hc
end
section
variable {cs:Array Value} {o n b:Nat} {h:Za}
theorem zem(h:o+n<=cs.size):(cut cs o n).length=n:=by unfold cut;simp;omega
theorem z0a(H:Blk h b cs):Arr h.size h (some ⟨b,o,none⟩) (cut cs o n):=by
 refine .inr ⟨b,o,rfl,H.lt,λi v hv=>H.cell ?_⟩
 rw[Z3]at hv
 split at hv
 ·rw[<-BI];exact hv
 ·cases hv
theorem z0b{P:Program}(H:Blk h b cs){vs:List Value}(hl:o+vs.length<=cs.size)(h1:∀u∈vs,u.oneCell'=true)(B:World)(d:Nat):
  ∃h',(storeCells ⟨b,o,none⟩ vs 0).run P (mk B d h)=.ok () (mk B d h')/\Blk h' b (upd cs o vs)/\h'.size=h.size/\∀j,j≠b->h'[j]?=h[j]?:=by
 obtain⟨T,e⟩:=H
 obtain⟨h',r1,r2,r3,r4⟩:=zoo (P:=P) e hl h1 B d
 exact⟨h',r1,⟨T,r2⟩,r3,r4⟩
end
section
variable {cs:Array Value} {vs:List Value}
structure RowO (h:Za) (s:Sl) (b:Nat) (cs:Array Value) (sz:Nat):Prop where
 le:s.len<=s.cap
 at_:(s.len=0/\s.cap=0)\/(s.a=some ⟨b,0,none⟩/\Blk h b cs/\s.cap*sz<=cs.size)
structure RowN (h h':Za) (s':Sl) (b b':Nat) (cs':Array Value) (sz n:Nat) (cells:List Value):Prop where
 a:s'.a=some ⟨b',0,none⟩
 len:s'.len=n
 cap:n<=s'.cap
 blk:Blk h' b' cs'
 size:s'.cap*sz<=cs'.size
 cut:cut cs' 0 (n*sz)=cells
 new:b'=b\/h.size<=b'
 grow:h.size<=h'.size
 old:∀j,j<h.size->j≠b'->h'[j]?=h[j]?
theorem z8n{n m:Nat}(hl:n+vs.length<=cs.size)(hm:m=n+vs.length):cut (upd cs n vs) 0 m=cut cs 0 n++vs:=by
 subst hm
 have Z:(cut cs 0 n).length=n:=zem (by omega)
 apply BB
 intro q
 rw[Z3]
 split
 ·rename_i hq
  rw[AX,zm3 hl]
  split
  ·rename_i h1
   rw[BE (by rw[Z];exact h1),Z3,if_pos h1,AX]
  ·rename_i h1
   rw[Bf (by rw[Z];omega),Z]
 ·rename_i hq
  rw[Ce]
  rw[AF,Z];omega
theorem znh{P:Program}{t e:TypeId}{z:Value}{sz bytes:Nat}(T:ElemT P t e z sz bytes){ty:TypeId}{h:Za}{s:Sl}{b:Nat}(H:RowO h s b cs sz){bv cv:Nat}(hv:Blk h bv vs.toArray)(aa:vs.length=sz)(h1:∀u∈vs,u.oneCell'=true)(hb:(s.len+1)*bytes<=140737488355328)(hm:s.len+1<=140737488355328){K:Value->Za->Prop}
  (hK:∀(s':Sl) (h':Za) (b':Nat) (cs':Array Value),RowN h h' s' b b' cs' sz (s.len+1) (cut cs 0 (s.len*sz)++vs)->K (.slice s'.a s'.len s'.cap) h'):
  XRun P (AU #[t,t] ty #[.slice s.a s.len s.cap,.slice (some ⟨bv,0,none⟩) 1 cv]) h K:=by
 intro B d
 have ae:Arr h.size h (some ⟨bv,0,none⟩) vs:=by
  have:=z0a hv (o:=0) (n:=vs.length)
  rw[show cut vs.toArray 0 vs.length=vs by unfold cut;simp]at this
  exact this
 have hS:∀B d,Src P sz t (.slice (some ⟨bv,0,none⟩) 1 cv) 1 vs (mk B d h):=λB d=>zon (P:=P) (s:=⟨some ⟨bv,0,none⟩,1,cv⟩) ae (by simp[aa]) T.pos h1 T.slice B d
 have m0:(s.len+1)*sz=s.len*sz+sz:=C8 _ _
 by_cases hr:s.len+1<=s.cap
 ·rcases H.at_ with⟨_,h0⟩|⟨ha,ab,hc⟩
  ·omega
  have m1:(s.len+1)*sz<=s.cap*sz:=AZ _ hr
  obtain⟨h',r1,r2,r3,r4⟩:=z0b (P:=P) ab (o:=s.len*sz) (vs:=vs) (by rw[aa];omega) h1 B d
  have af:=Xh (P:=P) (ty:=ty) T (s:=s) (h':=h') (hS B d) hr (λp hp=>by
   rw[ha]at hp
   cases hp
   rw[Zq,AX];exact r1) (λhn=>by rw[ha]at hn;cases hn)
  refine⟨_,d,h',af,hK ⟨s.a,s.len+1,s.cap⟩ h' b _ ⟨ha,rfl,hr,r2,by rw[zm2 (by rw[aa];omega)];exact hc,z8n (by rw[aa];omega) (by rw[aa];exact m0),.inl rfl,by omega,λj hj ah=>r4 j ah⟩⟩
 ·have Z:Arr h.size h s.a (cut cs 0 (s.len*sz))/\(cut cs 0 (s.len*sz)).length=s.len*sz:=by
   rcases H.at_ with⟨h0,_⟩|⟨ha,ab,hc⟩
   ·rw[h0,Ef];exact⟨.inl (by unfold cut;simp),by unfold cut;simp⟩
   ·have m1:s.len*sz<=s.cap*sz:=AZ _ H.le
    rw[ha];exact⟨z0a ab,zem (by omega)⟩
  obtain⟨c,blk,q1,q2,q3,q4,q5⟩:=za5 (P:=P) (ty:=ty) (base:=0) T Z.2 (λB d=>Xg Z.1 Z.2 T.pos B d) hS hb hm (Da _) (by omega) B d
  refine⟨_,d+1,_,q1,hK ⟨some ⟨h.size,0,none⟩,s.len+1,c⟩ _ h.size blk ⟨rfl,rfl,q2,Blk.new _ _ _,by rw[q4];exact Av _,by unfold cut;rw[Cc];exact q5,.inr (Av _),by simp,λj hj ah=>by rw[Cq,if_neg (by omega)]⟩⟩
end
end Go.X
end
