/- A part of the proof: nothing is stated here for its own sake. -/
import Derived.Test.YtjohlemfgcmaoaaGreatDoorPnC
import Derived.Test.YtjohlemfgcmaoaaGreatDoorTie
import Derived.Test.YtjohlemfgcmaoaaGreatDoorCards
import Derived.PinnedBridge
import Derived.Lay
import Derived.HandedShaped
import Derived.Lib.MapLaws
open _root_.Go.Addr renaming add->Af
open _root_.Array renaming getElem?_eq_getElem->AJ,getElem?_eq_some_iff->Ac,getElem?_setIfInBounds_ne->AO,getElem?_toList->BB,replicate->Be
open _root_.BitVec renaming ofInt->Ap,ofInt_natCast->Dv,toNat_ofNat->DT
open _root_.Bool renaming and_eq_false_iff->Bq,and_eq_true->Bm,cond_false_right->Cb,cond_true_left->Bv,eq_iff_iff->Az,false_and->Db,false_eq_true->A9,false_or->Dl,not_eq_true'->C3,or_eq_false_iff->BG,or_eq_true->Bh,true_and->Cf
open _root_.Go.Builtin renaming append_->AD
open _root_.Go.Instr renaming mapUpdate->DN,storeAt->Aj
open _root_.Int renaming toNat_natCast->Ae
open _root_.Go.IntKind renaming bits->An,signed->C9,wrap->Aa
open _root_.List renaming all_cons->DL,all_eq_true->A4,append_assoc->Bi,append_nil->A8,cons_append->Bu,dropWhile_cons->C6,drop_drop->BD,drop_eq_getElem_cons->Ay,drop_eq_nil_of_le->AU,drop_length->Dc,drop_zero->BC,eq_nil_of_length_eq_zero->AR,exists_cons_of_ne_nil->AX,ext_getElem?->Bc,getD_eq_getElem?_getD->Cp,getElem?_append_left->Bw,getElem?_append_right->A6,getElem?_drop->AE,getElem?_eq_getElem->Ak,getElem?_eq_none->BN,getElem?_eq_some_iff->Au,getElem?_map->Cc,getElem?_modify->Bn,getElem?_take->AC,getElem_mem->AM,getElem_of_mem->AY,length->Cd,length_append->Ar,length_cons->AI,length_drop->As,length_eq_zero_iff->AW,length_map->AL,length_nil->Cv,length_pos_iff->Bj,length_take->AN,map_append->CP,map_cons->BZ,map_nil->D6,mem_append->Aw,mem_cons->Ai,mem_cons_of_mem->Ag,mem_flatMap->Bo,mem_of_getElem?->Ba,mem_range->BK,mem_singleton->BJ,range->BO,take_length->A5,take_of_length_le->Bf,take_succ_cons->Cs,take_succ_eq_append_getElem->AH,take_zero->DV
open _root_.Nat renaming add_mul->Ca,le_refl->Ad,le_trans->DU,lt_of_lt_of_le->Df,lt_or_ge->AF,mod_eq_of_lt->DG,mul_comm->CJ,mul_le_mul_right->AK,mul_one->Du,or_lt_two_pow->Do,sub_zero->CU,zero_add->AB,zero_le->CK,zero_mul->DD
open _root_.Option renaming map_eq_some_iff->Co,map_some->D5
open _root_.Option.some renaming inj->Aq,injEq->Ab
open _root_.Prod.mk renaming injEq->Br
open _root_.Go.Proofs.Tryz renaming func212->DX,isAgg0->De,isAgg21->DF,isAgg3->Cy,isAgg4->CM,isAgg5->CN,isAgg9->Cz,prog->AP,sizeOf0->C4,sizeOf21->Dm,sizeOf3->Cg,sizeOf4->Cq,sizeOf5->Cr,sizeOf9->Ci,underlying0->Cm,underlying21->CO,underlying3->BL,underlying4->BP,underlying5->BV,underlying9->BH,zeroValue0->Cw,zeroValue21->CX,zeroValue3->BS,zeroValue4->BW,zeroValue5->BX,zeroValue9->BU
open _root_.UInt8 renaming ofNat->BF,toNat_inj->CB
open _root_.Go.Utf8 renaming encode->Dd
open _root_.Go.Value renaming int->D7,string->Di
open _root_.Go.Value.slice renaming injEq->Bb
set_option linter.unusedVariables false
set_option maxRecDepth 100000
namespace Go.X
end Go.X
namespace Go.Proofs
end Go.Proofs
open Go Go.X Go.Proofs
section
namespace Go.X
section
variable {n:Nat} {gl:Fr} {l:Bs} {R:Bool -> Prop}
theorem Zp{k n:Nat}(h:k<n)(hn:n<=4611686018427387904):Aa .i64 ((k:Int)+1)=((k+1:Nat):Int):=zug (by omega)
theorem Qr(hl:l.length<=4611686018427387904)(h:R (xp l)):PC Tp gl 204 [Arg.mk .str (bl l)] [.bool] R:=by
 apply Xj
 simp only[zd,zo]
 refine⟨λi=>∃k:Nat,i=k/\k<=l.length/\xp l=(xp l&&(l.drop k).all qs)/\(l.drop k).all qs=l.all qs,λi=>l.length-i.toNat,⟨0,rfl,by omega,by simp[xp];exact λh _=>h,by simp⟩,?_⟩
 rintro i ⟨k,rfl,hk,-,h2⟩
 refine⟨λhc=>?_,λhc=>?_⟩
 ·have Z:k<l.length:=by simpa using hc
  simp only[Ae,Zh Z]
  rw[Ay Z,DL]at h2
  refine⟨by omega,λ_=>by omega,λhx=>?_,λhx=>?_⟩
  ·have hd:qs l[k]=false:=by
    unfold qs
    rw[Bv]at hx
    have:=l[k].toNat_lt
    rcases Bh _ _ ▸ hx with hx|hx <;> simp at hx ⊢ <;> omega
   rw[hd]at h2
   simp only[Db]at h2
   have:xp l=false:=by simp[xp,<-h2]
   rw[this]at h;exact h
  ·have hd:qs l[k]=true:=by
    unfold qs
    rw[Bv]at hx
    have:=BG.1 hx
    simp at this ⊢;omega
   rw[hd]at h2
   simp only[Cf]at h2
   rw[Zp Z hl]
   refine⟨⟨k+1,rfl,by omega,?_,h2⟩,by simp;omega⟩
   rw[h2,xp];cases l.all qs <;> simp
 ·have Z:k=l.length:=by(have:¬(k<l.length):=by simpa using hc);omega
  subst Z
  rw[Dc]at h2
  have:xp l=decide ((l.length:Int)>0):=by
   rw[xp,<-h2]
   cases l <;> simp
  rw[this]at h;exact h
theorem z2o(h:l≠[]):(48<=(dec l).1/\(dec l).1<=57)->(dec l).2=1/\∃c t,l=c::t/\qs c=true/\(dec l).1=c.toNat:=by
 obtain⟨c,t,rfl⟩:=AX h
 intro hh
 by_cases hc:c.toNat<128
 ·rw[Yi hc]at hh ⊢
  exact⟨rfl,c,t,rfl,by simp[qs];simpa using hh,rfl⟩
 ·exfalso
  unfold dec at hh
  have b0:((c::t).getD 0 0).toNat=c.toNat:=rfl
  rw[b0]at hh
  have:=c.toNat_lt
  have b1:=((c::t).getD 1 0).toNat_lt;have b2:=((c::t).getD 2 0).toNat_lt;have b3:=((c::t).getD 3 0).toNat_lt
  generalize ((c::t).getD 1 0).toNat=x1 at *
  generalize ((c::t).getD 2 0).toNat=x2 at *
  generalize ((c::t).getD 3 0).toNat=x3 at *
  generalize c.toNat=x0 at *
  unfold Lib.decodeN at hh
  rw[if_neg hc]at hh
  split at hh
  ·split at hh <;> simp only at hh <;> omega
  ·split at hh
   ·split at hh <;> simp only at hh <;> omega
   ·split at hh
    ·split at hh <;> simp only at hh <;> omega
    ·simp only at hh;omega
theorem zcd(h:R (xp l)):PC Tp gl 141 [Arg.mk .str (bl l)] [.bool] R:=by
 apply zeg
 refine⟨λp=>p.1=bl l/\p.2<=l.length/\(l.drop p.2).all qs=l.all qs,λp=>l.length-p.2,⟨rfl,by omega,by simp⟩,?_⟩
 rintro⟨_,p⟩ ⟨rfl,hp,h2⟩
 simp only at hp h2 ⊢
 rw[zmh,zqq]
 refine⟨λhc=>⟨hc,λhx=>?_,λhx=>?_⟩,λhc=>?_⟩
 all_goals first
  |have ab:p<l.length:=by simpa using hc
  |have ab:¬p<l.length:=by simpa using hc
 ·have aa:l.drop p≠[]:=λe=>by have:=congrArg Cd e;simp at this;omega
  have hd:¬(48<=(dec (l.drop p)).1/\(dec (l.drop p)).1<=57):=by
   rw[Bv]at hx
   rcases Bh _ _ ▸ hx with hx|hx <;> simp at hx <;> omega
  have hf:l.all qs=false:=by
   rw[<-h2]
   obtain⟨c,t,e⟩:=AX aa
   rw[e]
   cases Z:qs c with
   |false=>simp[Z]
   |true=>
    exfalso;apply hd
    have:c.toNat<128:=by simp[qs]at Z;omega
    rw[e,Yi this]
    simpa[qs]using Z
  have:xp l=false:=by simp[xp,hf]
  rw[this]at h;exact h
 ·have aa:l.drop p≠[]:=λe=>by have:=congrArg Cd e;simp at this;omega
  have hd:48<=(dec (l.drop p)).1/\(dec (l.drop p)).1<=57:=by
   rw[Bv]at hx
   have:=BG.1 hx
   simp at this;omega
  obtain⟨h1,c,t,e,Z,_⟩:=z2o aa hd
  rw[zig l p ab,h1]
  refine⟨⟨trivial,by omega,?_⟩,by omega⟩
  have e2:l.drop (p+1)=t:=by rw[<-BD,e];rfl
  rw[e2,<-h2,e];simp[Z]
 ·have:l.drop p=[]:=AU (by omega)
  rw[this]at h2
  have e:xp l=!(decide (l=[])):=by
   rw[xp,<-h2];cases l <;> simp
  have:=zcb l []
  rw[show(⟨#[]⟩:Bt)=bl []from rfl,this,<-e];exact h
abbrev tN:Ty:=.pair .bool (.pair .str (.int .i64))
theorem zmj{n:Nm}(h:R (Xw n)):PC Tp gl 129 [Arg.mk tN (nmB n)] [.bool] R:=by
 apply Xi
 simp only[show(⟨#[]⟩:Bt)=bl []from rfl,zcb]
 have e:Xw n=((n.1==false)&&(decide (n.2.1=[])&&((n.2.2==0)&&true))):=by
  unfold Xw
  rcases n with⟨_|_,_|⟨_,_⟩,e⟩ <;> simp
 rw[e]at h;exact h
theorem zew(h:0<l.length):(((l[0]?.getD 0).toNat:Int) != 48)=(l.head? != some 48):=by
 cases l with
 |nil=>simp at h
 |cons c t=>
  rw[Az];simp
  constructor
  ·intro h1 h2;exact h1 (by rw[h2];rfl)
  ·intro h1 h2;exact h1 (CB.1 (by(have:c.toNat=48:=by omega);rw[this];rfl))
theorem zqs(h:0<l.length):(((l[l.length-1]?.getD 0).toNat:Int) != 48)=(l.getLast? != some 48):=by
 rw[List.getLast?_eq_getElem?]
 rw[Ak (by omega)]
 rw[Az];simp
 constructor
 ·intro h1 h2;exact h1 (by rw[h2];rfl)
 ·intro h1 h2;exact h1 (CB.1 (by(have:l[l.length-1].toNat=48:=by omega);rw[this];rfl))
theorem Jh(h:xp l=true):0<l.length:=by
 cases l with
 |nil=>simp[xp]at h
 |cons=>simp
theorem zs2(h:0<n)(hn:n<=4611686018427387904):Aa .i64 ((n:Int)-1)=((n-1:Nat):Int):=by
 rw[wrap64 (by omega) (by omega)];omega
theorem zos{n:Nm}(hn:n.2.1.length<=4611686018427387904)(h:R (y5 n)):PC Tp gl 128 [Arg.mk tN (nmB n)] [.bool] R:=by
 apply zar
 refine zmj (n:=n) ⟨λh1=>?_,λh1=>?_⟩
 ·have:y5 n=true:=by simp[y5,h1]
  rw[this]at h;exact h
 ·refine Qr hn ⟨λh2=>?_,λh2=>?_,?_⟩
  ·have h3:xp n.2.1=true:=by simp at h2;exact h2.1
   have:=Jh h3
   simp only[zd];omega
  ·have h3:xp n.2.1=true:=by simp at h2;exact h2.1.1
   have:=Jh h3
   simp only[zd];rw[zs2 this hn];omega
  ·have e:y5 n=(bif (bif (bif (bif (bif xp n.2.1 then(decide (((bl n.2.1).size:Int)<=1000))else false)then((za (bl n.2.1) (0:Int).toNat:Int) != 48)else false)then((za (bl n.2.1) (Aa .i64 (((bl n.2.1).size:Int)-1):Int).toNat:Int) != 48)else false)then(decide (n.2.2>=(-1000000)))else false)then(decide (n.2.2<=1000000))else false):=by
    unfold y5
    rw[h1,Dl]
    simp only[zd,zo]
    cases hd:xp n.2.1 with
    |false=>simp
    |true=>
     have hp:=Jh hd
     rw[zs2 hp hn]
     simp only[Ae,Int.toNat_zero,zqs hp,zew hp,Cb,Cf,cond_true]
     congr 3
     rw[Az];simp;omega
   rw[e]at h;exact h
theorem zqt{n:Nm}(hn:n.2.1.length<=4611686018427387904)(h:R (y5 n)):PC Tp gl 78 [Arg.mk tN (nmB n)] [.bool] R:=by
 apply zf7
 simp only[show(⟨#[]⟩:Bt)=bl []from rfl,zcb,zd,zo]
 have e:((n.1==false)&&(decide (n.2.1=[])&&((n.2.2==0)&&true)))=Xw n:=by
  unfold Xw
  rcases n with⟨_|_,_|⟨_,_⟩,e⟩ <;> simp
 rw[e]
 refine⟨λh1=>?_,λh1=>?_⟩
 ·have:y5 n=true:=by simp[y5,h1]
  rw[this]at h;exact h
 ·unfold y5 at h
  rw[h1,Dl]at h
  refine zcd ⟨λh2=>⟨λ_=>?_,λh3=>?_⟩,λh2=>⟨λh3=>⟨λ_=>?_,λh4=>?_⟩,λh3=>⟨?_,λh4=>⟨λ_=>?_,λh5=>?_⟩,λh4=>⟨?_,λh5=>?_,λh5=>?_⟩⟩⟩⟩
  ·have:xp n.2.1=false:=by simpa using h2
   rw[this]at h;simpa using h
  ·rw[h2]at h3;cases h3
  ·have:decide (n.2.1.length<=1000)=false:=by simp at h3 ⊢;omega
   rw[this]at h;simpa using h
  ·rw[h3]at h4;cases h4
  all_goals
   have hd:xp n.2.1=true:=by simpa using h2
   have hp:=Jh hd
   have Z:decide (n.2.1.length<=1000)=true:=by simp at h3 ⊢;omega
   have eh:=zew hp
   have el:=zqs hp
  ·omega
  ·have:(n.2.1.head? != some 48)=false:=by
    rw[<-eh];simp at h4 ⊢;exact h4
   rw[this]at h;simpa using h
  ·rw[h4]at h5;cases h5
  ·rw[zs2 hp hn];omega
  ·have:(n.2.1.getLast? != some 48)=false:=by
    rw[<-el];rw[zs2 hp hn]at h5;simp at h5 ⊢;exact h5
   rw[this]at h;simpa using h
  ·have e1:(n.2.1.head? != some 48)=true:=by
    rw[<-eh];simp at h4 ⊢;exact h4
   have e2:(n.2.1.getLast? != some 48)=true:=by
    rw[<-el];rw[zs2 hp hn]at h5;simp at h5 ⊢;exact h5
   rw[hd,Z,e1,e2]at h
   simp only[Cf]at h
   rw[Cb]
   exact h
end
end Go.X
end
section
namespace Go.X
open Go Go.Lib
section
variable {n k:Nat} {l s:Bs}
theorem u8n{c:UInt8}(hn:n<256):c=BF n↔c.toNat=n:=by
 constructor
 ·rintro rfl;simp;omega
 ·intro h;rw[<-h];simp
theorem qbi{c d:UInt8}:c=d↔c.toNat=d.toNat:=⟨λh=>by rw[h],λh=>CB.1 h⟩
theorem Zq(c:UInt8):∀l:Bs,-1<=indexByte l c/\(0<=indexByte l c↔c∈l)
 |[]=>by simp[indexByte]
 |b::l=>by
  have ih:=Zq c l
  unfold indexByte
  by_cases h:b=c
  ·simp[h]
  ·have h':¬c=b:=λe=>h e.symm
   simp only[beq_iff_eq,h,if_false,Ai,h',false_or]
   obtain⟨i1,i2⟩:=ih
   split
   ·rename_i e
    rw[e]at i2
    exact⟨by omega,by rw[<-i2]⟩
   ·rename_i e
    refine⟨by omega,?_⟩
    rw[<-i2];omega
theorem Ji(u:Nat):(decDigits u).length<=u+1:=by
 rw[decDigits]
 split
 ·simp
 ·rename_i h
  have:=Ji (u / 10)
  simp;omega
theorem itoa_len(n:Int):(itoa n).length<=n.natAbs+2:=by
 unfold itoa
 split
 ·have:=Ji n.natAbs;simp;omega
 ·have:=Ji n.toNat;omega
theorem dig_ext:∀k:Nat,k<10->(([48,49,50,51,52,53,54,55,56,57]:Bs).drop k).take (k+1-k)=[BF (48+k)]:=by decide
theorem zce(l:Bs)(c:UInt8):hasPrefix l [c]=(l.head?==some c):=by
 cases l with
 |nil=>rfl
 |cons b t=>simp[hasPrefix,List.isPrefixOf];rw[Az];simp;exact eq_comm
theorem Xx(l:Bs)(c:UInt8):trimPrefix l [c]=if l.head?==some c then l.tail else l:=by
 unfold trimPrefix
 rw[zce]
 split <;> simp
theorem zot(l:Bs)(c:UInt8):zq (l++[c])=10*zq l+(c.toNat-48):=by simp[zq,List.foldl_append]
theorem Jj(hk:k<l.length):zq (l.take (k+1))=10*zq (l.take k)+(l[k].toNat-48):=by
 rw[AH hk,zot]
theorem zj0{p:UInt8->Bool}(h:l.all p=true)(k:Nat):(l.take k).all p=true:=by
 rw[A4]at h ⊢
 exact λx hx=>h x (List.mem_of_mem_take hx)
theorem zzb{p:UInt8->Bool}(h:l.all p=true)(k:Nat):(l.drop k).all p=true:=by
 rw[A4]at h ⊢
 exact λx hx=>h x (List.mem_of_mem_drop hx)
theorem zv2(h:l.all qs=true)(hk:k<l.length):48<=l[k].toNat/\l[k].toNat<=57:=by
 have:=A4.1 h _ (AM hk)
 simpa[qs]using this
theorem zmk:∀(n:Nat) (l:Bs),l.length=n->l.all qs=true->zq l<10 ^ n
 |0,l,h,_=>by
  have:l=[]:=AR h
  subst this;simp[zq]
 |n+1,l,h,hd=>by
  have hl:l=l.take (n+1):=by rw[<-h,A5]
  rw[hl,Jj (by omega)]
  have h1:=zmk n (l.take n) (by simp;omega) (zj0 hd n)
  have h2:=zv2 hd (k:=n) (by omega)
  rw[Nat.pow_succ];omega
theorem Qb(hn:l.length<=n)(h:l.all qs=true):zq l<10 ^ n:=
 Df (zmk _ l rfl h) (Nat.pow_le_pow_right (by omega) hn)
theorem zex(h:xp l=true):l.all qs=true:=by
 unfold xp at h;exact(Bool.and_eq_true_iff.1 h).1
theorem Jk{p q:UInt8->Bool}(h:l.all p=true):(l.dropWhile q).all p=true:=by
 rw[A4]at h ⊢
 exact λx hx=>h x ((List.dropWhile_sublist q).mem hx)
theorem jq(l:Bs)(q:UInt8->Bool):(l.dropWhile q).length<=l.length:=(List.dropWhile_sublist q).length_le
theorem Xy{q:UInt8->Bool}:∀c,(l.dropWhile q).head?=some c->q c=false:=by
 induction l with
 |nil=>simp
 |cons b t ih=>
  intro c h
  rw[C6]at h
  split at h
  ·exact ih c h
  ·rename_i hq;simp at h;subst h;exact Bool.eq_false_iff.2 hq
theorem Zr(h:l.all qs=true)(Z:l.dropWhile (· == 48)≠[]):xp (yr l)=true/\(yr l).length<=(l.dropWhile (· == 48)).length/\((yr l).head? != some 48)=true/\((yr l).getLast? != some 48)=true:=by
 unfold yr
 obtain⟨c,t,hd⟩:=AX Z
 have hc:(c==48)=false:=by
  have:=Xy (l:=l) (q:=(· == 48)) c (by rw[hd];rfl)
  simpa using this
 have key:∀(t:Bs),∃u,((c::t).reverse.dropWhile (· == 48)).reverse=c::u:=by
  intro t
  rw[List.reverse_cons]
  have hx:∀(r:Bs),∃u,(r++[c]).dropWhile (· == 48)=u++[c]:=by
   intro r
   induction r with
   |nil=>exact⟨[],by simp[hc]⟩
   |cons b r ih=>
    rw[Bu,C6]
    split
    ·exact ih
    ·exact⟨b::r,rfl⟩
  obtain⟨u,e⟩:=hx t.reverse
  exact⟨u.reverse,by rw[e];simp⟩
 rw[hd]
 obtain⟨u,e⟩:=key t
 refine⟨?_,?_,?_,?_⟩
 ·rw[xp,Bool.and_eq_true_iff]
  refine⟨?_,by rw[e];rfl⟩
  rw[List.all_reverse]
  apply Jk
  rw[List.all_reverse,<-hd]
  exact Jk h
 ·rw[List.length_reverse]
  refine DU (jq _ _) ?_
  simp
 ·rw[e];simp;simpa using hc
 ·rw[List.getLast?_reverse]
  cases hh:((c::t).reverse.dropWhile (· == 48)).head? with
  |none=>rfl
  |some x=>
   have:=Xy (l:=(c::t).reverse) (q:=(· == 48)) x hh
   simpa using this
theorem zs3(h:l.all qs=true)(Z:l.dropWhile (· == 48)≠[])(hl:l.length<=1000)(neg:Bool)(e:Int):y5 (neg,yr l,e)=(decide (-1000000<=e)&&decide (e<=1000000)):=by
 obtain⟨h1,h2,h3,h4⟩:=Zr h Z
 have h5:=jq l (· == 48)
 have hp:(yr l).isEmpty=false:=by
  rw[xp]at h1
  have:=(Bool.and_eq_true_iff.1 h1).2
  simpa using this
 unfold y5 Xw
 simp only[h1,h3,h4,hp,Bool.and_false,Db,Dl,Cf]
 have:decide ((yr l).length<=1000)=true:=by simp;omega
 rw[this];simp
theorem zge{x:Lit}(h:Ym s=some x):xp x.whole=true/\x.rest.all qs=true/\x.exp.all qs=true:=by
 obtain⟨Z,rfl⟩:=zgd h
 unfold zcc at Z
 simp only[Bm]at Z
 obtain⟨⟨⟨h1,h2⟩,h3⟩,h4⟩:=Z
 refine⟨h2,?_,?_⟩
 ·show(je s).2.1.all qs=true
  cases hp:(je s).2.2 with
  |true=>rw[hp]at h3;exact zex (by simpa using h3)
  |false=>rw[show(je s).2.1=[]from(Xd hp).2];rfl
 ·show(if(wn s).2.2 then zgc s else []).all qs=true
  cases hm:(wn s).2.2 with
  |true=>rw[hm]at h1;simpa using zex (by simpa using h1)
  |false=>rfl
theorem zdd(p:UInt8->Bool)(l:Bs):(cutAt p l).1.length+(cutAt p l).2.1.length<=l.length:=by
 induction l with
 |nil=>simp[cutAt]
 |cons c t ih=>unfold cutAt;split <;> simp <;> omega
theorem zde{x:Lit}(h:Ym s=some x):x.whole.length+x.rest.length+x.exp.length<=s.length:=by
 obtain⟨Z,rfl⟩:=zgd h
 have h1:(zqr s).length<=s.length:=by unfold zqr;split <;> simp
 have h2:=zdd isE (zqr s)
 have h3:=zdd zmi (wn s).1
 have h4:(zgc s).length<=(wn s).2.1.length:=by
  unfold zgc
  split
  ·simp
  ·split <;> simp
 have h5:(if(wn s).2.2 then zgc s else []).length<=(wn s).2.1.length:=by
  split
  ·exact h4
  ·simp
 show(je s).1.length+(je s).2.1.length+(if(wn s).2.2 then zgc s else []).length<=s.length
 unfold je
 unfold wn at *
 omega
end
end Go.X
end
section
namespace Go.X
section
variable {gl:Fr} {l s:Bs}
theorem z6l(c:UInt8):(((c.toNat:Int)).toNat).toUInt8=c:=by simp
theorem z0q{l sep:Bs}{p:UInt8->Bool}(hp:∀c,p c=true↔c∈sep)(hl:l.length<=4611686018427387904){R:Bt×Bt×Bool->Prop}(h:R (bl (cutAt p l).1,bl (cutAt p l).2.1,(cutAt p l).2.2)):
  PC Tp gl 139 [Arg.mk .str (bl l),Arg.mk .str (bl sep)] [.str,.str,.bool] R:=by
 apply zjn
 simp only[zd,zo,zt]
 refine⟨λi=>∃k:Nat,i=k/\k<=l.length/\∀j (hj:j<l.length),j<k->p l[j]=false,λi=>l.length-i.toNat,⟨0,rfl,by omega,λj _ h=>by omega⟩,?_⟩
 rintro i ⟨k,rfl,hk,h2⟩
 refine⟨λhc=>?_,λhc=>?_⟩
 ·have Z:k<l.length:=by simpa using hc
  simp only[Ae,Zh Z]
  refine⟨by omega,Wn ?_⟩
  rw[z6l,jd]
  have hm:=(Zq l[k] sep).2
  rw[Zp Z hl]
  refine⟨λhx=>⟨by omega,by omega,?_⟩,λhx=>⟨⟨k+1,rfl,by omega,λj hj ae=>?_⟩,by simp;omega⟩⟩
  ·have aa:p l[k]=true:=(hp _).2 (hm.1 (by simpa using hx))
   rw[zev Z (λj hj=>h2 j (by omega) hj) aa]at h
   simp only[Ae,Int.toNat_zero,BC,CU]
   rw[Bf (l:=l.drop (k+1)) (by simp)]
   exact h
  ·by_cases e:j=k
   ·subst e
    cases hpj:p l[j]with
    |false=>rfl
    |true=>exact absurd (hm.2 ((hp _).1 hpj)) (by simpa using hx)
   ·exact h2 j hj (by omega)
 ·have Z:¬k<l.length:=by simpa using hc
  rw[Xc (λc ab=>by
   obtain⟨j,hj,rfl⟩:=AY ab
   exact h2 j hj (by omega))]at h
  exact h
theorem zih{c:UInt8}{R:Bt×Bool->Prop}(h:R (bl (if l.head?==some c then l.tail else l),l.head?==some c)):PC Tp gl 138 [Arg.mk .str (bl l),Arg.mk .str (bl [c])] [.str,.bool] R:=by
 refine zmd ?_
 rw[jd,jd,Xx,zce];exact h
theorem zou{c:UInt8}{R:Bt->Prop}(h:R (bl (if l.head?==some c then l.tail else l))):PC Tp gl 140 [Arg.mk .str (bl l),Arg.mk .str (bl [c])] [.str] R:=by
 refine zjz ?_
 rw[jd,jd,Xx];exact h
theorem zgf{R:Bt->Prop}(h:R (bl (l.dropWhile (· == 48)))):PC Tp gl 76 [Arg.mk .str (bl l),Arg.mk .str (bl [48])] [.str] R:=by
 refine zoo (c:=48) (by decide) ?_
 rw[jd];exact h
theorem zs4(hl:l.length<=4611686018427387904){R:Bt->Prop}(h:R (bl (l.reverse.dropWhile (· == 48)).reverse)):PC Tp gl 77 [Arg.mk .str (bl l),Arg.mk .str (bl [48])] [.str] R:=by
 refine zme (c:=48) (by decide) (by rw[zd];omega) ?_
 rw[jd];exact h
theorem z2p(hs:s.length<=4611686018427387904){R:(Bool×Bool×Bt×Bt×Bt)×Bool->Prop}
  (h1:zcc s=true->R (((Qz s).neg,(Qz s).low,bl (Qz s).whole,bl (Qz s).rest,bl (Qz s).exp),true)) (h2:zcc s=false->∀a b c d e,R ((a,b,bl c,bl d,bl e),false)):
  PC Tp gl 75 [Arg.mk .str (bl s)] [.pair .bool (.pair .bool (.pair .str (.pair .str .str))),.bool] R:=by
 apply zg1
 refine zih (c:=45) ?_
 dsimp only
 have hS:(zqr s).length<=s.length:=by unfold zqr;split <;> simp
 have hM:=zdd isE (zqr s)
 refine z0q (l:=zqr s) (sep:=[101,69]) (p:=isE) (λc=>by simp[isE]) (by omega) ?_
 dsimp only
 have ax:(wn s).1.length+(wn s).2.1.length<=(zqr s).length:=hM
 have ai:∀(e:Bs) (low:Bool),((wn s).2.2=true->xp (zgc s)=true/\low=Qa s/\e=zgc s)->((wn s).2.2=false->low=false/\e=[]) ->
   PC Tp gl 139 [Arg.mk .str (bl (wn s).1),Arg.mk .str (bl [46])] [.str,.str,.bool] (λZ:Bt×Bt×Bool=>PC Tp gl 141 [Arg.mk .str Z.1] [.bool] (λab:Bool=>∃ak:Bool->Prop,(((!(!ab))&&Z.2.2)=true->PC Tp gl 141 [Arg.mk .str Z.2.1] [.bool] ak) /\
      ∀ah:Bool,(((!(!ab))&&Z.2.2)=true->ak ah)->((bif (!ab)then true else(bif Z.2.2 then(!ah)else false))=true->R ((s.head?==some 45,(low,(Z.1,(Z.2.1,bl e)))),false)) /\
      ((bif (!ab)then true else(bif Z.2.2 then(!ah)else false))=false->((!((Z.1:Bt).toList==((⟨#[48]⟩:Bt):Bt).toList))=true->(0<=(0:Int)/\(0:Int)<((Z.1).size:Int))) /\
       R ((s.head?==some 45,(low,(Z.1,(Z.2.1,bl e)))),bif ((Z.1:Bt).toList==((⟨#[48]⟩:Bt):Bt).toList)then true else((za Z.1 (0:Int).toNat:Int) != 48))))):=by
  intro e low k1 k2
  have an:(!(wn s).2.2||xp (zgc s))=true/\Qa s=low/\(if(wn s).2.2 then zgc s else [])=e:=by
   cases hm:(wn s).2.2 with
   |true=>obtain⟨a,b,c⟩:=k1 hm;exact⟨by simp[a],b.symm,by simp[c]⟩
   |false=>obtain⟨a,b⟩:=k2 hm;exact⟨rfl,by unfold Qa;rw[hm,a];rfl,by simp[b]⟩
  refine z0q (l:=(wn s).1) (sep:=[46]) (p:=zmi) (λc=>by simp[zmi]) (by omega) ?_
  refine zcd ⟨λx=>xp (je s).2.1=x,λ_=>zcd rfl,λy hy=>?_⟩
  dsimp only
  simp only[show(⟨#[48]⟩:Bt)=bl [48]from rfl,zcb,zd,zo]
  change (_->xp (je s).2.1=y)at hy
  show((bif (!xp (je s).1)then true else(bif (je s).2.2 then(!y)else false))=true->R ((s.head?==some 45,(low,(bl (je s).1,(bl (je s).2.1,bl e)))),false)) /\
      ((bif (!xp (je s).1)then true else(bif (je s).2.2 then(!y)else false))=false->((!decide ((je s).1=[48]))=true->(0<=(0:Int)/\(0:Int)<((je s).1.length:Int))) /\
       R ((s.head?==some 45,(low,(bl (je s).1,(bl (je s).2.1,bl e)))),bif decide ((je s).1=[48])then true else(((((je s).1[(0:Int).toNat]?).getD 0).toNat:Int) != 48)))
  have ap:xp (je s).1=true->(je s).2.2=true->xp (je s).2.1=y:=λa b=>hy (by
   show((!(!xp (je s).1))&&(je s).2.2)=true
   rw[a,b];rfl)
  refine⟨λhx=>h2 ?_ _ _ _ _ _,λhx=>⟨λ_=>?_,?_⟩⟩
  ·unfold zcc
   cases hd:xp (je s).1 with
   |false=>simp
   |true=>
    rw[hd]at hx
    cases hw:(je s).2.2 with
    |false=>rw[hw]at hx;simp at hx
    |true=>
     rw[hw]at hx
     have:=ap hd hw
     rw[this]
     simp at hx;simp[hx]
  all_goals
   have hd:xp (je s).1=true:=by
    cases hd:xp (je s).1 with
    |true=>rfl
    |false=>rw[hd]at hx;simp at hx
   have hp:=Jh hd
  ·omega
  ·have h3:(!(je s).2.2||xp (je s).2.1)=true:=by
    cases hw:(je s).2.2 with
    |false=>rfl
    |true=>
     rw[hd,hw]at hx
     have:=ap hd hw
     rw[this];simpa using hx
   have h4:(bif decide ((je s).1=[48])then true else(((((je s).1[(0:Int).toNat]?).getD 0).toNat:Int) != 48))=((je s).1==[48]||(je s).1.head? != some 48):=by
    rw[show(0:Int).toNat=0 from rfl,zew hp,Bv,Az];simp
   have aj:zcc s=((je s).1==[48]||(je s).1.head? != some 48):=by
    unfold zcc;rw[an.1,hd,h3];simp
   rw[h4]
   cases ho:((je s).1==[48]||(je s).1.head? != some 48)with
   |true=>
    have:=h1 (aj.trans ho)
    unfold Qz at this
    rw[an.2.1,an.2.2]at this
    exact this
   |false=>exact h2 (aj.trans ho) _ _ _ _ _
 intro K hK
 refine⟨λhm=>?_,λhm=>?_⟩
 ·have af:(wn s).2.2=true:=hm
  refine zih (c:=45) (l:=(wn s).2.1) ?_
  dsimp only
  intro K2 ar
  have step:∀low e,low=Qa s->e=zgc s->K2 (bl e) (s.head?==some 45) low (bl []) (bl []) (bl []):=by
   intro low e au am
   refine ar _ _ _ _ _ _ (zcd ⟨λhx=>?_,λhx=>?_⟩)
   ·refine h2 ?_ _ _ [] [] []
    unfold zcc;rw[af,<-am]
    have:xp e=false:=by simpa using hx
    rw[this];rfl
   ·refine hK _ _ _ _ _ _ (ai e low (λ_=>⟨by rw[<-am];simpa using hx,au,am⟩) λh=>by rw[af]at h;cases h)
  have ae:Qa s=((wn s).2.1.head?==some 45):=by unfold Qa;rw[af];rfl
  refine⟨λhx=>?_,λhx=>?_⟩
  ·have aa:((wn s).2.1.head?==some 45)=false:=by simpa using hx
   rw[aa]
   refine zou (c:=43) ?_
   simp only[A9,if_false]
   refine step false _ (by rw[ae,aa]) ?_
   unfold zgc;rw[ae,aa];simp
  ·have aa:((wn s).2.1.head?==some 45)=true:=by simpa using hx
   rw[aa]
   simp only[if_true]
   refine step true _ (by rw[ae,aa]) ?_
   unfold zgc;rw[ae,aa];simp
 ·have af:(wn s).2.2=false:=hm
  have he:(wn s).2.1=[]:=(Xd af).2
  have:=ai [] false (λh=>by rw[af]at h;cases h) λ_=>⟨rfl,rfl⟩
  show K (bl (wn s).2.1) _ _ _ _ _
  rw[he]
  exact hK _ _ _ _ _ _ this
theorem z6m{α β γ δ:Type}{B:α->β->γ->δ->Prop}{c:Bool}{a b:α}{x:β}{y:γ}{z:δ}(h:∀e,e=(bif c then a else b)->B e x y z):∀K:α->β->γ->δ->Prop,(∀e x y z,B e x y z->K e x y z)->(c=true->K a x y z)/\(c=false->K b x y z):=
 λK hK=>⟨λhc=>hK _ _ _ _ (h _ (by subst hc;rfl)),λhc=>hK _ _ _ _ (h _ (by subst hc;rfl))⟩
theorem w64{n:Int}(h:-4611686018427387904<=n/\n<=4611686018427387904):Aa .i64 n=n:=wrap64 (by omega) (by omega)
theorem zv3{n:Nat}(h:n<=4611686018427387904):js n:=by unfold js;omega
set_option maxHeartbeats 1000000 in
theorem zj1(hs:s.length<=1152921504606846976){R:(Bool×Bt×Int)×Int->Prop}(h:R (nmB (zp s).1,(zp s).2)):PC Tp gl 25 [Arg.mk .str (bl s)] [tN,.int .i64] R:=by
 apply zf8
 refine z2p (by omega) (λai=>?_) (λai a b c d e=>?_)
 rotate_left
 ·refine zgf ⟨λ_=>?_,λhx=>by cases hx⟩
  have:Ym s=none:=by unfold Ym;simp[ai]
  unfold zp at h
  rw[this]at h;exact h
 ·have aa:Ym s=some (Qz s):=by unfold Ym;simp[ai]
  have az:=zde aa
  obtain⟨d1,d2,d3⟩:=zge aa
  unfold zp at h
  rw[aa]at h
  simp only at h
  generalize Qz s=x at *
  refine zgf ⟨λhx=>(by cases hx),λ_=>?_⟩
  simp only[zd]
  rw[w64 (by omega)]
  refine⟨λhx=>?_,λhx=>?_⟩
  ·rw[if_pos (by simp at hx;omega)]at h;exact h
  ·rw[if_neg (by simp at hx;omega)]at h
   refine⟨λab=>?_,λab=>?_⟩
   ·rw[if_pos (by simp at ab;omega)]at h;exact h
   ·rw[if_neg (by simp at ab;omega)]at h
    have ay:x.whole.length+x.rest.length<=1000:=by simp at hx;omega
    have aA:x.exp.all qs=true:=d3
    generalize hE:x.exp.dropWhile (· == 48)=E at *
    have aj:E.all qs=true:=by rw[<-hE];exact Jk d3
    have ap:E.length<=9:=by simp at ab;omega
    have aC:zq E<10 ^ 9:=Qb ap aj
    refine⟨λe _ _ _ p=>p.1=bl E/\p.2<=E.length/\e=(zq (E.take p.2):Int),λ_ _ _ _ p=>E.length-p.2,⟨rfl,by omega,by simp[zq]⟩,?_⟩
    rintro e b1 b2 b3 ⟨_,p⟩ ⟨rfl,hp,rfl⟩
    simp only at hp ⊢
    rw[zmh,zqq]
    refine⟨λhc=>⟨hc,?_⟩,λhc=>?_⟩
    ·have Z:p<E.length:=by simpa using hc
     have hd:=zv2 aj Z
     have am:E.drop p=E[p]::E.drop (p+1):=Ay Z
     rw[zig E p Z,am,Yi (by omega)]
     have aE:=Qb (n:=9) (l:=E.take p) (by simp;omega) (zj0 aj p)
     rw[xj (by omega) (by omega),w64 (n:=10*_) (by omega),w64 (n:=(_:Int)-48) (by omega),w64 (by omega)]
     simp only
     refine⟨⟨trivial,by omega,?_⟩,by omega⟩
     rw[Jj Z];omega
    ·have Z:¬p<E.length:=by simpa using hc
     have ax:p=E.length:=by omega
     subst ax
     rw[A5]
     apply z6m
     intro e7 an
     refine⟨by unfold js;omega,?_⟩
     rw[y0]
     refine zgf ?_
     rw[show(⟨#[]⟩:Bt)=bl []from rfl]
     simp only[zcb]
     have hD:(x.whole++x.rest).all qs=true:=by rw[List.all_append,zex d1,d2];rfl
     refine⟨λaf=>?_,λaf=>?_⟩
     ·rw[if_pos (by simpa using af)]at h;exact h
     ·have ah:(x.whole++x.rest).dropWhile (· == 48)≠[]:=by simpa using af
      rw[if_neg ah]at h
      have au:=jq (x.whole++x.rest) (· == 48)
      rw[Ar]at au
      refine zs4 (by omega) ?_
      have aB:=(Zr hD ah).2.1
      have ar:=zs3 hD ah (by rw[Ar];exact ay)
      simp only[zd,show((List.dropWhile (λx=>x==48) (x.whole++x.rest)).reverse.dropWhile (λx=>x==48)).reverse=yr (x.whole++x.rest)from rfl]
      have ak:e7=if x.low then-(zq E:Int)else(zq E:Int):=by rw[an];cases x.low <;> simp;exact w64 (by omega)
      have hb:-1000000000<=e7/\e7<=1000000000:=by rw[ak];split <;> omega
      rw[w64 (n:=e7-_) (by omega),w64 (n:=e7-_+_) (by omega),w64 (by omega)]
      refine zqt (n:=(x.neg,yr (x.whole++x.rest),e7-(x.rest.length:Int)+(((x.whole++x.rest).dropWhile (· == 48)).length:Int)-((yr (x.whole++x.rest)).length:Int))) (by simp only;omega) ?_
      rw[ar]
      change R (nmB (if -1000000<=(if x.low=true then-(zq E:Int)else(zq E:Int))-(x.rest.length:Int)+(((x.whole++x.rest).dropWhile (· == 48)).length:Int)-((yr (x.whole++x.rest)).length:Int)/\(if x.low=true then-(zq E:Int)else(zq E:Int))-(x.rest.length:Int)+(((x.whole++x.rest).dropWhile (· == 48)).length:Int)-((yr (x.whole++x.rest)).length:Int)<=1000000 then((x.neg,yr (x.whole++x.rest),(if x.low=true then-(zq E:Int)else(zq E:Int))-(x.rest.length:Int)+(((x.whole++x.rest).dropWhile (· == 48)).length:Int)-((yr (x.whole++x.rest)).length:Int)),0)else((false,[],0),4)).1,_)at h
      rw[<-ak]at h
      refine⟨λae=>?_,λae=>?_⟩
      ·rw[if_neg (by simp at ae;omega)]at h;exact h
      ·rw[if_pos (by simp at ae;omega)]at h;exact h
end
section
variable {gl:Fr} {n:Int}
theorem zj2{a b:Bs}(h:a.length+b.length<=4611686018427387904):js ((bl a).size+(bl b).size):=by
 unfold js;rw[zd,zd];omega
theorem zv4(hg:Pow gl){n:Nm}(hn:n.2.1.length<=4611686018427387904){R:Bt->Prop}(h:R (bl (Yl n))):PC Tp gl 26 [Arg.mk tN (nmB n)] [.str] R:=by
 apply zgz
 refine zqt hn ⟨λhx=>?_,λhx=>?_⟩
 ·have:y5 n=false:=by simpa using hx
  have e:Yl n=[]:=by unfold Yl;simp[this]
  rw[e]at h;exact h
 ·have hr:y5 n=true:=by simpa using hx
  obtain⟨hl,ae,af⟩:=zgb hr
  unfold Yl at h
  rw[if_pos hr]at h
  simp only[show(⟨#[]⟩:Bt)=bl []from rfl,zcb]
  refine⟨λaa=>?_,λaa=>?_⟩
  ·rw[if_pos (by simpa using aa)]at h;exact h
  ·rw[if_neg (by simpa using aa)]at h
   intro K hK
   have key:∀t:Bs,t=(if n.1 then [45]else [])++n.2.1->K (bl t):=by
    intro t ht
    have ah:t.length<=1001:=by rw[ht];split <;> simp <;> omega
    rw[<-ht]at h
    refine hK _ ⟨λZ=>?_,λZ=>?_⟩
    ·rw[if_neg (by simpa using Z)]at h
     have ab:=Go.X.itoa_len n.2.2
     refine zv1 hg (by omega) (by omega) ?_
     refine⟨zj2 (a:=[101]) (by simp;omega),?_⟩
     rw[show(⟨#[101]⟩:Bt)=bl [101]from rfl,y0,y0]
     exact⟨zj2 (by simp;omega),h⟩
    ·rw[if_pos (by simpa using Z),A8]at h;exact h
   refine⟨λZ=>⟨zj2 (a:=[45]) (by simp;omega),?_⟩,λZ=>?_⟩
   ·rw[show(⟨#[45]⟩:Bt)=bl [45]from rfl,y0]
    exact key _ (by rw[if_pos (by simpa using Z)])
   ·exact key _ (by rw[if_neg (by simpa using Z)];rfl)
theorem z8r{k:Nat}(h:k<10):(bl [48,49,50,51,52,53,54,55,56,57]).extract k (k+1)=bl [BF (48+k)]:=by
 rw[zt,Go.X.dig_ext k h]
theorem zzc(h:10<=n):Lib.itoa n=Lib.itoa (n / 10)++[BF (48+(n % 10).toNat)]:=by
 unfold Lib.itoa
 rw[if_neg (by omega),if_neg (by omega),Lib.decDigits,dif_neg (by omega)]
 congr 3
 ·omega
 ·omega
theorem itoa_neg(h:n<=-10):Lib.itoa n=Lib.itoa (n.tdiv 10)++[BF (48+(-(n.tmod 10)).toNat)]:=by
 obtain⟨m,rfl⟩:∃m:Nat,n=-(m:Int):=⟨n.natAbs,by omega⟩
 have e1:(-(m:Int)).tdiv 10=-((m / 10:Nat):Int):=by rw[Int.neg_tdiv];rfl
 have e2:(-(m:Int)).tmod 10=-((m % 10:Nat):Int):=by rw[Int.neg_tmod];rfl
 rw[e1,e2]
 unfold Lib.itoa
 rw[if_pos (by omega),if_pos (by omega)]
 have a1:(-(m:Int)).natAbs=m:=by omega
 have a2:(-((m / 10:Nat):Int)).natAbs=m / 10:=by omega
 rw[a1,a2]
 conv=>lhs;rw[Lib.decDigits,dif_neg (by omega)]
 rw[Bu]
 congr 4
 omega
theorem zdf{gl:Fr}{n:Int}(h1:-9223372036854775808<=n)(h2:n<=9223372036854775807){R:Bt->Prop}(h:R (bl (Lib.itoa n))):PC Tp gl 130 [Arg.mk (.int .i64) n] [.str] R:=by
 apply Wk
 have hD:(⟨#[48,49,50,51,52,53,54,55,56,57]⟩:Bt)=bl [48,49,50,51,52,53,54,55,56,57]:=rfl
 simp only[hD]
 have aa:(bl [48,49,50,51,52,53,54,55,56,57]).size=10:=by rw[zd];rfl
 refine⟨λhx=>?_,λhx=>⟨λZ=>?_,λZ=>⟨λab=>?_,λab=>?_⟩⟩⟩
 ·have hn:0<=n/\n<10:=by simpa[Cb]using hx
  rw[w64 (by omega),aa]
  refine⟨by omega,?_⟩
  have e:(n+1).toNat=n.toNat+1:=by omega
  rw[e,z8r (by omega)]
  have:Lib.itoa n=[BF (48+n.toNat)]:=by unfold Lib.itoa;rw[if_neg (by omega),Lib.decDigits,dif_pos (by omega)]
  rw[<-this];exact h
 ·have hn:10<=n:=by
   have:¬(0<=n/\n<10):=by simpa[Cb]using hx
   have:n>0:=by simpa using Z
   omega
  have e1:n.tdiv 10=n / 10:=Int.tdiv_eq_ediv_of_nonneg (by omega)
  have e2:n.tmod 10=n % 10:=Int.tmod_eq_emod_of_nonneg (by omega)
  rw[e1,e2,w64 (n:=n % 10+1) (by omega),w64 (n:=n / 10) (by omega),aa]
  refine⟨trivial,by omega,trivial,by omega,trivial,by omega,by omega,zdf (n:=n / 10) (by omega) (by omega) ?_⟩
  have e:(n % 10+1).toNat=(n % 10).toNat+1:=by omega
  rw[e,z8r (by omega)]
  refine⟨zj2 ?_,?_⟩
  ·have:=Go.X.itoa_len (n / 10);simp;omega
  ·rw[y0,<-zzc hn];exact h
 ·have hn:-10<n/\n<0:=by
   have:¬(0<=n/\n<10):=by simpa[Cb]using hx
   have:¬n>0:=by simpa using Z
   have:n > -10:=by simpa using ab
   omega
  have hz:(0:Int)-n=-n:=by omega
  rw[hz,w64 (n:=-n) (by omega),w64 (n:=-n+1) (by omega),aa]
  have e:(-n+1).toNat=(-n).toNat+1:=by omega
  rw[e,z8r (by omega)]
  refine⟨by omega,zj2 (a:=[45]) (by simp),?_⟩
  rw[show(⟨#[45]⟩:Bt)=bl [45]from rfl,y0]
  have:Lib.itoa n=[45]++[BF (48+(-n).toNat)]:=by
   unfold Lib.itoa;rw[if_pos (by omega),Lib.decDigits,dif_pos (by omega)]
   have:n.natAbs=(-n).toNat:=by omega
   rw[this];rfl
  rw[<-this];exact h
 ·have hn:n<=-10:=by
   have:¬(0<=n/\n<10):=by simpa[Cb]using hx
   have:¬n>0:=by simpa using Z
   have:¬n > -10:=by simpa using ab
   omega
  have hd:n.tdiv 10=-((-n) / 10):=by
   have:=Int.neg_tdiv (-n) 10
   rw[Int.neg_neg]at this
   rw[this,Int.tdiv_eq_ediv_of_nonneg (by omega)]
  have hm:n.tmod 10=-((-n) % 10):=by
   have:=Int.neg_tmod (-n) 10
   rw[Int.neg_neg]at this
   rw[this,Int.tmod_eq_emod_of_nonneg (by omega)]
  have hz:(0:Int)-n.tmod 10=-(n.tmod 10):=by omega
  rw[hz,w64 (n:=-(n.tmod 10)) (by omega),w64 (n:=-(n.tmod 10)+1) (by omega),w64 (n:=n.tdiv 10) (by omega),aa]
  have e:(-(n.tmod 10)+1).toNat=(-(n.tmod 10)).toNat+1:=by omega
  rw[e,z8r (by omega)]
  refine⟨trivial,by omega,trivial,by omega,trivial,by omega,by omega,zdf (n:=n.tdiv 10) (by omega) (by omega) ?_⟩
  refine⟨zj2 ?_,?_⟩
  ·have:=Go.X.itoa_len (n.tdiv 10);simp;omega
  ·rw[y0,<-itoa_neg hn];exact h
termination_by n.natAbs
decreasing_by all_goals omega
theorem zs5{n:Nm}(hn:n.2.1.length<=4611686018427387904){R:Bt->Prop}(h:R (bl (Yl n))):PC Tp gl 68 [Arg.mk tN (nmB n)] [.str] R:=by
 apply zb9
 refine zos hn ⟨λhx=>?_,λhx=>?_⟩
 ·have:y5 n=false:=by simpa using hx
  have e:Yl n=[]:=by unfold Yl;simp[this]
  rw[e]at h;exact h
 ·have hr:y5 n=true:=by simpa using hx
  obtain⟨hl,ae,af⟩:=zgb hr
  unfold Yl at h
  rw[if_pos hr]at h
  refine zmj (n:=n) ⟨λaa=>?_,λaa=>?_⟩
  ·have:n.2.1=[]:=by
    unfold Xw at aa
    simp at aa;exact aa.2.1
   rw[if_pos this]at h;exact h
  ·have:¬n.2.1=[]:=λe=>by have:=zor hr e;rw[this]at aa;cases aa
   rw[if_neg this]at h
   intro K hK
   have key:∀t:Bs,t=(if n.1 then [45]else [])++n.2.1->K (bl t):=by
    intro t ht
    have ah:t.length<=1001:=by rw[ht];split <;> simp <;> omega
    rw[<-ht]at h
    refine hK _ ⟨λZ=>?_,λZ=>?_⟩
    ·rw[if_neg (by simpa using Z)]at h
     have ab:=Go.X.itoa_len n.2.2
     refine⟨zj2 (b:=[101]) (by simp;omega),zdf (n:=n.2.2) (by omega) (by omega) ?_⟩
     rw[show(⟨#[101]⟩:Bt)=bl [101]from rfl,y0,y0]
     exact⟨zj2 (by simp;omega),by rw[Bi];exact h⟩
    ·rw[if_pos (by simpa using Z),A8]at h;exact h
   refine⟨λZ=>⟨zj2 (a:=[45]) (by simp;omega),?_⟩,λZ=>?_⟩
   ·rw[show(⟨#[45]⟩:Bt)=bl [45]from rfl,y0]
    exact key _ (by rw[if_pos (by simpa using Z)])
   ·exact key _ (by rw[if_neg (by simpa using Z)];rfl)
theorem z9w(hg:Pow gl)(h1:-9223372036854775808<=n)(h2:n<=9223372036854775807){R:Bool×Bt×Int->Prop}(h:R (nmB (zp (Lib.itoa n)).1)):PC Tp gl 110 [Arg.mk (.int .i64) n] [tN] R:=by
 apply zma
 refine zv1 hg h1 h2 (zj1 ?_ h)
 have:=Go.X.itoa_len n
 have Z:∀u:Nat,u<10 ^ 20->(Lib.decDigits u).length<=20:=by
  have:∀(k u:Nat),u<10 ^ (k+1)->(Lib.decDigits u).length<=k+1:=by
   intro k
   induction k with
   |zero=>intro u hu;rw[Lib.decDigits,dif_pos (by simpa using hu)];simp
   |succ k ih=>
    intro u hu
    rw[Lib.decDigits]
    split
    ·simp
    ·have:=ih (u / 10) (by rw[Nat.pow_succ]at hu;omega)
     simp;omega
  exact this 19
 have:(Lib.itoa n).length<=21:=by
  unfold Lib.itoa
  split
  ·have:=Z n.natAbs (by omega);simp;omega
  ·have:=Z n.toNat (by omega);omega
 omega
end
section
variable {l:Bs} {n:Int}
theorem zv5{c:UInt8}(hn:n=(c.toNat:Int)):(bif decide ((l.length:Int)>0)then(((l[0]?.getD 0).toNat:Int)==n)else false)=(l.head?==some c):=by
 subst hn
 cases l with
 |nil=>rfl
 |cons b t=>
  have:decide (((b::t).length:Int)>0)=true:=by simp
  rw[this,cond_true]
  show((b.toNat:Int)==(c.toNat:Int))=(some b==some c)
  rw[Az]
  simp only[beq_iff_eq,Int.natCast_inj,Ab]
  exact⟨λh=>CB.1 h,λh=>by rw[h]⟩
theorem zzd:bl ((l.drop (1:Int).toNat).take (((l.length:Int)).toNat-(1:Int).toNat))=bl l.tail:=by
 rw[Ae,show(1:Int).toNat=1 from rfl,List.drop_one,Bf (by simp)]
theorem Xe{c:UInt8}(d:UInt8)(hn:n=(d.toNat:Int)):((c.toNat:Int) != n)=!(c==d):=by
 subst hn
 rw[Az]
 simp only[bne_iff_ne,ne_eq,Int.natCast_inj,C3,beq_eq_false_iff_ne]
 exact⟨λh e=>h (by rw[e]),λh e=>h (CB.1 e)⟩
set_option maxHeartbeats 1000000 in
theorem zze{gl:Fr}{s:Bs}(hs:s.length<=1152921504606846976){R:Bool×Bt×Bt×Bool×Bt×Bool->Prop}
  (h1:zcc s=true->R ((Qz s).neg,bl (Qz s).whole,bl (Qz s).rest,(Qz s).low,bl (if(wn s).2.2 then(Qz s).exp else [48]),true)) (h2:zcc s=false->∀a b c d e,R (a,bl b,bl c,d,bl e,false)):
  PC Tp gl 127 [Arg.mk .str (bl s)] [.bool,.str,.str,.bool,.str,.bool] R:=by
 apply zas
 simp only[zd,zo,show(0:Int).toNat=0 from rfl,zv5 (l:=s) (c:=45) (n:=45) rfl]
 refine⟨λhx=>by simp at hx;omega,?_⟩
 have hS:(zqr s).length<=s.length:=by unfold zqr;split <;> simp
 have first:∀K:Bt->Prop,K (bl (zqr s))->(((s.head?==some 45)=true->(0<=(1:Int)/\(1:Int)<=(s.length:Int)/\((s.length:Int))<=(s.length:Int))/\K ((bl s).extract (1:Int).toNat ((s.length:Int)).toNat))/\((s.head?==some 45)=false->K (bl s))):=by
  intro K hK
  unfold zqr at hK
  refine⟨λhx=>⟨?_,?_⟩,λhx=>?_⟩
  ·cases s with
   |nil=>simp at hx
   |cons=>simp;omega
  ·rw[hx,if_pos rfl]at hK
   rw[zt,zzd];exact hK
  ·rw[hx,if_neg (by simp)]at hK;exact hK
 intro K hK
 refine first K (hK _ ?_)
 clear hK first K
 generalize aP:zqr s=s1 at *
 simp only[zd,zo]
 have hM:cutAt isE s1=wn s:=by rw[wn,aP]
 refine⟨λi=>∃k:Nat,i=k/\k<=s1.length/\∀j (hj:j<s1.length),j<k->isE s1[j]=false,λi=>s1.length-i.toNat,⟨0,rfl,by omega,λj _ h=>by omega⟩,?_⟩
 rintro i ⟨k,rfl,hk,hb⟩
 have au:∀hk:k<s1.length,(bif (bif decide ((k:Int)<(s1.length:Int))then((((s1[((k:Int)).toNat]?).getD 0).toNat:Int) != 101)else false)then((((s1[((k:Int)).toNat]?).getD 0).toNat:Int) != 69)else false)=!isE s1[k]:=by
  intro hk
  rw[Ae,Zh hk]
  have:decide ((k:Int)<(s1.length:Int))=true:=by simpa using hk
  rw[this,cond_true,Xe (n:=101) 101 rfl,Xe (n:=69) 69 rfl,isE]
  cases s1[k]==101 <;> simp
 refine⟨λhc=>?_,λhc=>?_,λhc=>?_,λhc=>?_⟩
 ·have:k<s1.length:=by simpa using hc
  omega
 ·have:k<s1.length:=by simp at hc;omega
  omega
 ·have ab:k<s1.length:=by simp at hc;omega
  rw[au ab]at hc
  rw[Zp ab (by omega)]
  refine⟨⟨k+1,rfl,by omega,λj hj aM=>?_⟩,by simp only[Ae];omega⟩
  by_cases e:j=k
  ·subst e;simpa using hc
  ·exact hb j hj (by omega)
 ·-- the whole and the point
  have hm:wn s=if hk:k<s1.length then(s1.take k,s1.drop (k+1),true)else(s1,[],false):=by
   rw[<-hM]
   split
   ·rename_i ab
    rw[au ab]at hc
    exact zev ab (λj hj=>hb j (by omega) hj) (by simpa using hc)
   ·exact Xc λc az=>by
     obtain⟨j,hj,rfl⟩:=AY az
     exact hb j hj (by omega)
  have ai:s1.take k=(wn s).1:=by
   rw[hm];split
   ·rfl
   ·rw[Bf (by omega)]
  have rest:∀(e:Bs) (low:Bool),low=Qa s->e=(if(wn s).2.2 then zgc s else [48]) ->
    ∀an:Bt->Bool->Prop,(∀af:Bt,∀aa:Bool,af=bl e->aa=low->an af aa)->an (bl e) low:=λe low _ _ an h=>h _ _ rfl rfl
  intro an aJ
  have aB:∀(e:Bs) (low:Bool),low=Qa s->e=(if(wn s).2.2 then zgc s else [48])->an (bl e) low:=by
   intro e low aN aE
   refine aJ _ _ ⟨by omega,?_⟩
   have aO:(bl s1).extract 0 ((k:Int)).toNat=bl (wn s).1:=by rw[Ae,zt,BC,CU,ai]
   rw[aO]
   generalize aT:(wn s).1=m1 at *
   have a1:m1.length<=s1.length:=by rw[<-ai];simp;omega
   have hw:cutAt zmi m1=je s:=by rw[je,aT]
   simp only[zd,zo]
   refine⟨λi=>∃k:Nat,i=k/\k<=m1.length/\∀j (hj:j<m1.length),j<k->zmi m1[j]=false,λi=>m1.length-i.toNat,⟨0,rfl,by omega,λj _ h=>by omega⟩,?_⟩
   rintro i ⟨q,rfl,hq,aC⟩
   have am:∀hq:q<m1.length,(bif decide ((q:Int)<(m1.length:Int))then((((m1[((q:Int)).toNat]?).getD 0).toNat:Int) != 46)else false)=!zmi m1[q]:=by
    intro hq
    rw[Ae,Zh hq]
    have:decide ((q:Int)<(m1.length:Int))=true:=by simpa using hq
    rw[this,cond_true,Xe (n:=46) 46 rfl,zmi]
   refine⟨λhc=>?_,λhc=>?_,λhc=>⟨?_,?_⟩⟩
   ·have:q<m1.length:=by simpa using hc
    omega
   ·have ae:q<m1.length:=by simp at hc;omega
    rw[am ae]at hc
    rw[Zp ae (by omega)]
    refine⟨⟨q+1,rfl,by omega,λj hj aM=>?_⟩,by simp only[Ae];omega⟩
    by_cases e:j=q
    ·subst e;simpa using hc
    ·exact aC j hj (by omega)
   ·omega
   ·have aj:je s=if hq:q<m1.length then(m1.take q,m1.drop (q+1),true)else(m1,[],false):=by
     rw[<-hw]
     split
     ·rename_i ae
      rw[am ae]at hc
      exact zev ae (λj hj=>aC j (by omega) hj) (by simpa using hc)
     ·exact Xc λc az=>by
       obtain⟨j,hj,rfl⟩:=AY az
       exact aC j hj (by omega)
    have aY:(bl m1).extract 0 ((q:Int)).toNat=bl (je s).1:=by
     rw[Ae,zt,BC,CU,aj]
     split
     ·rfl
     ·rw[Bf (by omega)]
    rw[aY]
    have a6:(je s).1.length<=s.length:=by rw[aj];split <;> simp <;> omega
    have a7:(je s).2.1.length<=s.length:=by rw[aj];split <;> simp <;> omega
    have ba:e.length<=s.length+1:=by
     rw[aE]
     split
     ·rename_i a8
      have:(zgc s).length<=(wn s).2.1.length:=by
       unfold zgc;split
       ·simp
       ·split <;> simp
      have:(wn s).2.1.length<=s1.length:=by rw[hm];split <;> simp
      omega
     ·simp
    have ap:∀(ak:Bt->Prop),(∀r:Bt,r=bl (if(je s).2.2 then(je s).2.1 else [48])->ak r)->((decide ((q:Int)<(m1.length:Int)))=true->(0<=(Aa .i64 ((q:Int)+1))/\(Aa .i64 ((q:Int)+1))<=(m1.length:Int)/\((m1.length:Int))<=(m1.length:Int))/\ak ((bl m1).extract (Aa .i64 ((q:Int)+1)).toNat ((m1.length:Int)).toNat))/\((decide ((q:Int)<(m1.length:Int)))=false->ak (bl [48])):=by
     intro ak ah
     refine⟨λhx=>?_,λhx=>?_⟩
     ·have ae:q<m1.length:=by simpa using hx
      rw[Zp ae (by omega)]
      refine⟨by omega,ah _ ?_⟩
      rw[aj,dif_pos ae,Ae,Ae,zt,Bf (by simp)];rfl
     ·have ae:¬q<m1.length:=by simpa using hx
      refine ah _ ?_
      rw[aj,dif_neg ae];rfl
    intro ak ah
    refine ap ak λr hr=>ah r ?_
    subst hr
    clear ah ap
    have ax:((q:Int)==(m1.length:Int))=!(je s).2.2:=by
     rw[aj,Az]
     split
     ·simp;omega
     ·simp;omega
    refine Qr (l:=(je s).1) (by omega) ⟨λx=>xp (if(je s).2.2 then(je s).2.1 else [48])=x,λ_=>Qr (by split <;> first|omega|simp) rfl,λy hy=>?_⟩
    refine⟨λx=>xp e=x,λ_=>Qr (by omega) rfl,λz hz=>?_⟩
    rw[show(⟨#[48]⟩:Bt)=bl [48]from rfl]
    simp only[zcb,zd,zo]
    generalize ay:xp (je s).1=d1 at *
    have aI:xp (if(je s).2.2 then(je s).2.1 else [48])=(!(je s).2.2||xp (je s).2.1):=by
     cases(je s).2.2 <;> simp;decide
    have aF:xp e=(!(wn s).2.2||xp (zgc s)):=by
     rw[aE];cases(wn s).2.2 <;> simp;decide
    have Z:zcc s=((bif (bif d1 then y else false)then z else false)&&((je s).1==[48]||(je s).1.head? != some 48)):=by
     unfold zcc
     rw[ay,<-aI,<-aF]
     cases hd:d1 with
     |false=>simp
     |true=>
      have aV:=hy hd
      rw[aV]
      cases hyv:y with
      |false=>simp
      |true=>
       have aZ:=hz (by rw[hd,hyv];rfl)
       rw[aZ];cases z <;> simp
    refine⟨λhx=>?_,?_⟩
    ·have:d1=true:=by simp at hx;exact hx.1.1.1
     have:=Jh (ay.trans this)
     omega
    ·intro aU aG
     have zxd:aU (bl (je s).2.1):=by
      refine aG _ ?_
      have h4:∀hd:d1=true,(bif decide ((je s).1=[48])then true else(((((je s).1[0]?).getD 0).toNat:Int) != 48))=((je s).1==[48]||(je s).1.head? != some 48):=by
       intro hd
       rw[zew (Jh (ay.trans hd)),Bv,Az];simp
      cases ho:zcc s with
      |true=>
       rw[ho]at Z
       have hd:d1=true:=by cases d1 <;> simp at Z;rfl
       rw[h4 hd]
       have aL:(bif (bif d1 then y else false)then z else false)=true:=by
        cases hb:(bif (bif d1 then y else false)then z else false)with
        |true=>rfl
        |false=>rw[hb]at Z;simp at Z
       rw[aL]at Z ⊢
       rw[cond_true]
       rw[Cf]at Z
       rw[<-Z]
       have:=h1 ho
       unfold Qz at this
       simp only at this
       rw[aN,aE]
       have e5:(if(wn s).2.2 then(if(wn s).2.2 then zgc s else [])else [48])=(if(wn s).2.2 then zgc s else [48]):=by cases(wn s).2.2 <;> rfl
       rw[e5]at this
       exact this
      |false=>
       rw[ho]at Z
       have hv:(bif (bif (bif d1 then y else false)then z else false)then(bif decide ((je s).1=[48])then true else(((((je s).1[0]?).getD 0).toNat:Int) != 48))else false)=false:=by
        cases hd:d1 with
        |false=>rfl
        |true=>
         rw[h4 hd]
         rw[hd]at Z
         rw[Cb];exact Z.symm
       rw[hv]
       exact h2 ho _ _ _ _ _
     refine⟨λhx=>?_,λhx=>?_⟩
     ·rw[ax]at hx
      have aS:(je s).2.2=false:=by simpa using hx
      have:(je s).2.1=[]:=(Xd aS).2
      rw[this]at zxd;exact zxd
     ·rw[ax]at hx
      have aQ:(je s).2.2=true:=by simpa using hx
      rw[aQ] ;exact zxd
  refine⟨λhx=>?_,λhx=>?_⟩
  ·have ab:k<s1.length:=by simpa using hx
   rw[Zp ab (by omega)]
   have hE:(wn s).2.1=s1.drop (k+1):=by rw[hm,dif_pos ab]
   have aA:(wn s).2.2=true:=by rw[hm,dif_pos ab]
   have aH:(bl s1).extract ((k+1:Nat):Int).toNat ((s1.length:Int)).toNat=bl (wn s).2.1:=by
    rw[Ae,Ae,zt,Bf (by simp),hE]
   rw[aH]
   simp only[zd,zo]
   rw[zv5 (l:=(wn s).2.1) (c:=45) (n:=45) rfl,zv5 (l:=(wn s).2.1) (c:=43) (n:=43) rfl]
   have ar:((wn s).2.1.head?==some 45)=Qa s:=by unfold Qa;rw[aA];rfl
   rw[ar]
   refine⟨by omega,λhy=>by simp at hy;omega,λhy=>by simp at hy;omega,λhy=>⟨?_,?_⟩,λhy=>?_⟩
   ·have:0<(wn s).2.1.length:=by
     cases hl:(wn s).2.1 with
     |nil=>rw[<-ar,hl]at hy;simp at hy
     |cons=>simp
    omega
   ·rw[zt,zzd]
    refine aB _ _ rfl ?_
    rw[aA,if_pos rfl,zgc]
    cases hl:Qa s with
    |true=>simp
    |false=>rw[hl]at hy;simp at hy;simp[hy]
   ·refine aB _ _ rfl ?_
    rw[aA,if_pos rfl,zgc]
    cases hl:Qa s with
    |true=>rw[hl]at hy;simp at hy
    |false=>rw[hl]at hy;simp at hy;simp[hy]
  ·have ab:¬k<s1.length:=by simpa using hx
   refine aB [48] false ?_ ?_
   ·unfold Qa;rw[hm,dif_neg ab];rfl
   ·rw[hm,dif_neg ab];rfl
end
section
variable {l:Bs}
theorem zd6(h:(l.head?==some 48)=false):l.dropWhile (· == 48)=l:=by
 cases l with
 |nil=>rfl
 |cons b t=>
  rw[C6,if_neg]
  simpa using h
theorem Xz(h:(l.head?==some 48)=true):l.tail.dropWhile (· == 48)=l.dropWhile (· == 48):=by
 cases l with
 |nil=>rfl
 |cons b t=>
  have:b=48:=by simpa using h
  subst this;rfl
theorem zml(l:Bs):zq (48::l)=zq l:=rfl
theorem zov(l:Bs):zq (l.dropWhile (· == 48))=zq l:=by
 induction l with
 |nil=>rfl
 |cons b t ih=>
  rw[C6]
  split
  ·rename_i h
   have:b=48:=by simpa using h
   subst this;rw[ih,zml]
  ·rfl
theorem zv6{n:Int}(h1:0<=n)(h2:n<256):Aa .u8 n=n:=by
 unfold Aa
 have e:(2:Int) ^ An .u8=256:=by decide
 simp only[e]
 have hs:C9 .u8=false:=rfl
 simp only[hs,Db,A9,if_false]
 omega
theorem z6n{m:Int}(hm:0<=m):(bif decide ((l.length:Int)>m)then(((l[0]?.getD 0).toNat:Int)==48)else false)=(decide ((l.length:Int)>m)&&l.head?==some 48):=by
 cases hd:decide ((l.length:Int)>m)with
 |false=>rfl
 |true=>
  have hl:0<l.length:=by simp at hd;omega
  rw[cond_true,Cf]
  have:=zv5 (l:=l) (c:=48) (n:=48) rfl
  rw[show decide ((l.length:Int)>0)=true by simp;omega,cond_true]at this
  exact this
def stripR(l:Bs):Bs:=(l.reverse.dropWhile (· == 48)).reverse
theorem zow{c:UInt8}(h:c=48):stripR (l++[c])=stripR l:=by
 subst h;unfold stripR;rw[List.reverse_append];rfl
theorem zv7{c:UInt8}(h:¬c=48):stripR (l++[c])=l++[c]:=by
 unfold stripR;rw[List.reverse_append,List.reverse_singleton,List.singleton_append,C6,if_neg (by simpa using h)];simp
theorem z2q{α β γ δ:Type}{B:α->β->γ->δ->Prop}{c:Bool}{a b:α}{x:β}{y:γ}{z:δ}(h:∀e,e=(bif c then a else b)->B e x y z):∀K:α->β->γ->δ->Prop,(∀e x y z,B e x y z->K e x y z)->(c=true->K a x y z)/\(c=false->K b x y z):=
 λK hK=>⟨λhc=>hK _ _ _ _ (h _ (by subst hc;rfl)),λhc=>hK _ _ _ _ (h _ (by subst hc;rfl))⟩
set_option maxHeartbeats 1000000 in
theorem zgg{gl : Fr}{s : Bs}(hs : s.length <= 1152921504606846976){R : (Bool × Bt × Int) × Int -> Prop}(h : R (nmB (zp s).1, (zp s).2)): PC Tp gl 67 [Arg.mk .str (bl s)] [tN, .int .i64] R := by
  apply zaq
  refine zze hs (λhok => ?_) (λhok a b c d e => ?_)
  rotate_left
  · refine ⟨λ_ => ?_, λhx => by cases hx⟩
    have : Ym s = none := by unfold Ym; simp [hok]
    unfold zp at h
    rw [this] at h; exact h
  · have hlit : Ym s = some (Qz s) := by unfold Ym; simp [hok]
    have hlen := zde hlit
    obtain ⟨d1, d2, d3⟩ := zge hlit
    unfold zp at h
    rw [hlit] at h
    simp only at h
    obtain ⟨E1, hE1, hE1d, hE1v⟩ : ∃ E1, (if (wn s).2.2 then (Qz s).exp else [48]) = E1 /\ E1.all qs = true /\ E1.dropWhile (· == 48) = (Qz s).exp.dropWhile (· == 48) := by
      refine ⟨_, rfl, ?_, ?_⟩
      · split
        · exact d3
        · rfl
      · cases hm : (wn s).2.2 with
        | true => rfl
        | false => simp [Qz, hm]
    have hE1l : E1.length <= s.length + 1 := by
      rw [<- hE1]; split
      · omega
      · simp only [List.length_singleton]; omega
    rw [hE1]
    generalize Qz s = x at *
    refine ⟨λhx => (by cases hx), λ_ => ?_⟩
    simp only [zd]
    rw [w64 (by omega)]
    refine ⟨λhx => ?_, λhx => ?_⟩
    · rw [if_pos (by simp at hx; omega)] at h; exact h
    · rw [if_neg (by simp at hx; omega)] at h
      have hx' : x.whole.length + x.rest.length <= 1000 := by simp at hx; omega
      refine ⟨λe8 _ _ _ => ∃ E : Bs, e8 = bl E /\ E.all qs = true /\ E.dropWhile (· == 48) = x.exp.dropWhile (· == 48), λe8 _ _ _ => e8.size, ⟨E1, rfl, hE1d, hE1v⟩, ?_⟩
      rintro e8 b1 b2 b3 ⟨E, rfl, hEd, hEv⟩
      simp only [zd, zo, show (0 : Int).toNat = 0 from rfl, z6n (l := E) (m := 1) (by omega)]
      refine ⟨λhy => by simp at hy; omega, λhy => ?_, λhy => ?_⟩
      · have hy1 : 1 < E.length /\ (E.head? == some 48) = true := by
          have : (1 : Int) < (E.length : Int) /\ E.head? = some 48 := by simpa using hy
          exact ⟨by omega, by simp [this.2]⟩
        rw [zt, zzd]
        refine ⟨by omega, ⟨E.tail, rfl, ?_, ?_⟩, by rw [zd, List.length_tail]; omega⟩
        · rw [<- List.drop_one]; exact zzb hEd 1
        · rw [Xz hy1.2, hEv]
      · have hEx : (E.length <= 1 \/ E.dropWhile (· == 48) = E) := by
          cases hh : (E.head? == some 48) with
          | false => exact .inr (zd6 hh)
          | true => rw [hh] at hy; simp at hy; exact .inl (by omega)
        have hdl := jq E (· == 48)
        have hlen9 : E.length > 9 ↔ (x.exp.dropWhile (· == 48)).length > 9 := by
          rw [<- hEv]
          rcases hEx with hx | hx
          · omega
          · rw [hx]
        refine ⟨λhz => ?_, λhz => ?_⟩
        · rw [if_pos (hlen9.1 (by simp at hz; omega))] at h; exact h
        · have hE9 : E.length <= 9 := by simp at hz; omega
          rw [if_neg (λhh => by have := hlen9.2 hh; omega)] at h
          have hval : zq (x.exp.dropWhile (· == 48)) = zq E := by rw [<- hEv, zov]
          rw [hval] at h
          have hvb : zq E < 10 ^ 9 := Qb hE9 hEd
          refine ⟨λe i _ _ _ => ∃ k : Nat, i = k /\ k <= E.length /\ e = (zq (E.take k) : Int), λ_ i _ _ _ => E.length - i.toNat, ⟨0, rfl, by omega, by simp [zq]⟩, ?_⟩
          rintro e i b1 b2 b3 ⟨k, rfl, hk, rfl⟩
          refine ⟨λhc => ?_, λhc => ?_⟩
          · have hc' : k < E.length := by simpa using hc
            have hd := zv2 hEd hc'
            simp only [Ae, Zh hc']
            have hle := Qb (n := 9) (l := E.take k) (by simp; omega) (zj0 hEd k)
            rw [zv6 (by omega) (by omega), Zp hc' (by omega), w64 (n := 10 * _) (by omega), w64 (n := (_ : Int) - 48) (by omega), w64 (n := _ + _) (by omega)]
            refine ⟨by omega, ⟨k + 1, rfl, by omega, ?_⟩, by simp only [Ae]; omega⟩
            rw [Jj hc']; omega
          · have hc' : ¬ k < E.length := by simpa using hc
            rw [Bf (by omega)]
            apply z2q
            intro e7 he7
            refine ⟨by unfold js; omega, ?_⟩
            rw [y0]
            have hD : (x.whole ++ x.rest).all qs = true := by rw [List.all_append, zex d1, d2]; rfl
            have hev : e7 = if x.low then - (zq E : Int) else (zq E : Int) := by rw [he7]; cases x.low <;> simp; exact w64 (by omega)
            rw [<- hev] at h
            have hb : -1000000000 <= e7 /\ e7 <= 1000000000 := by rw [hev]; split <;> omega
            refine ⟨λd _ _ _ => ∃ D : Bs, d = bl D /\ D.dropWhile (· == 48) = (x.whole ++ x.rest).dropWhile (· == 48) /\ D.length <= 1000, λd _ _ _ => d.size, ⟨_, rfl, rfl, by rw [Ar]; exact hx'⟩, ?_⟩
            rintro d b1 b2 b3 ⟨D, rfl, hDv, hDl⟩
            simp only [zd, zo, zv5 (l := D) (c := 48) (n := 48) rfl]
            refine ⟨λhy => by simp at hy; omega, λhy => ?_, λhy => ?_⟩
            · have hp : 0 < D.length := by
                cases D with
                | nil => simp at hy
                | cons => simp
              rw [zt, zzd]
              exact ⟨by omega, ⟨D.tail, rfl, by rw [Xz hy, hDv], by rw [List.length_tail]; omega⟩, by rw [zd, List.length_tail]; omega⟩
            · have hDe := zd6 hy
              rw [hDv] at hDe
              rw [show (⟨#[]⟩ : Bt) = bl [] from rfl]
              simp only [zcb]
              rw [hDe] at h
              refine ⟨λhz => ?_, λhz => ?_⟩
              · rw [if_pos (by simpa using hz)] at h; exact h
              · have hne : D ≠ [] := by simpa using hz
                rw [if_neg hne] at h
                have hsh : yr (x.whole ++ x.rest) = stripR D := by unfold yr stripR; rw [hDe]
                have hsl : (stripR D).length <= D.length := by
                  have := (Zr hD (by rw [hDe]; exact hne)).2.1
                  rw [hsh, hDe] at this; exact this
                have hsne : stripR D ≠ [] := by
                  have := (Zr hD (by rw [hDe]; exact hne)).1
                  rw [hsh] at this
                  intro e; rw [e] at this; cases this
                rw [hsh] at h
                rw [w64 (n := e7 - _) (by omega)]
                refine ⟨λe d _ _ _ => ∃ D' : Bs, d = bl D' /\ D'.length <= 1000 /\ stripR D' = stripR D /\ e + D'.length = e7 - (x.rest.length : Int) + D.length, λ_ d _ _ _ => d.size, ⟨D, rfl, hDl, rfl, rfl⟩, ?_⟩
                rintro e d b1 b2 b3 ⟨D', rfl, hl', hs', he'⟩
                have hne' : D' ≠ [] := by
                  rintro rfl
                  rw [<- hs'] at hsne; exact hsne rfl
                have hp : 0 < D'.length := Bj.2 hne'
                simp only [zd, zo]
                rw [zs2 hp (by omega)]
                have hlast : D' = D'.take (D'.length - 1) ++ [D'[D'.length - 1]] := by
                  rw [<- AH (by omega), show D'.length - 1 + 1 = D'.length by omega, A5]
                simp only [Ae, Zh (show D'.length - 1 < D'.length by omega)]
                refine ⟨by omega, λhq => ?_, λhq => ?_⟩
                · have hc48 : D'[D'.length - 1] = 48 := CB.1 (by (have : (D'[D'.length - 1].toNat : Int) = 48 := by simpa using hq); (have : D'[D'.length - 1].toNat = 48 := by omega); rw [this]; rfl)
                  rw [w64 (n := e + 1) (by omega), zt]
                  refine ⟨by omega, ⟨D'.take (D'.length - 1), by simp, by simp; omega, ?_, by simp; omega⟩, by rw [zd]; simp; omega⟩
                  rw [<- hs']
                  conv => rhs; rw [hlast]
                  rw [zow hc48]
                · have hc48 : ¬ D'[D'.length - 1] = 48 := λe => by rw [e] at hq; simp at hq
                  have hfin : D' = stripR D := by
                    rw [<- hs']
                    conv => rhs; rw [hlast]
                    rw [zv7 hc48, <- hlast]
                  have hee : e = e7 - (x.rest.length : Int) + (D.length : Int) - ((stripR D).length : Int) := by rw [<- hfin]; omega
                  rw [hee, hfin]
                  refine ⟨λhw => ?_, λhw => ?_⟩
                  · rw [if_neg (by rw [Bv] at hw; simp at hw; omega)] at h; exact h
                  · rw [if_pos (by rw [Bv] at hw; simp at hw; omega)] at h; exact h
end
end Go.X
end
section
namespace Go.X
open Go Go.Lib
section
variable {a b b0 b1 b2 b3 b4 b5 b6 b7:Nat}
theorem zv8(l:Bs)(a:Nat):l.foldl (λn c=>10*n+(c.toNat-48)) a=a*10 ^ l.length+zq l:=by
 induction l generalizing a with
 |nil=>simp[zq]
 |cons c t ih=>
  simp only[List.foldl_cons,AI,zq]
  rw[ih,ih (10*0+(c.toNat-48)),Nat.pow_succ]
  have:(10*a+(c.toNat-48))*10 ^ t.length=a*(10 ^ t.length*10)+(c.toNat-48)*10 ^ t.length:=by
   rw[Ca,CJ 10 a,Nat.mul_assoc,CJ 10 (10 ^ t.length)]
  rw[this];simp;omega
theorem zj3(a b:Bs):zq (a++b)=zq a*10 ^ b.length+zq b:=by
 rw[zq,List.foldl_append,zv8];rfl
theorem zv9(ha:a<18446744073709551616)(hb:b<18446744073709551616):Aa .u64 (((Ap (An .u64) (a:Int)) ||| (Ap (An .u64) (b:Int))).toNat:Int)=((a ||| b:Nat):Int):=by
 have Z:An .u64=64:=rfl
 have e:((Ap (An .u64) (a:Int)) ||| (Ap (An .u64) (b:Int))).toNat=a ||| b:=by
  rw[BitVec.toNat_or,Dv,Dv,DT,DT,Z,DG (by omega),DG (by omega)]
 rw[e]
 have aa:a ||| b<2 ^ 64:=Do (by omega) (by omega)
 unfold Aa
 have e1:(2:Int) ^ An .u64=18446744073709551616:=by decide
 simp only[e1]
 have hs:C9 .u64=false:=rfl
 simp only[hs,Db,A9,if_false]
 omega
theorem z2r(ha:a<18446744073709551616)(hb:b<18446744073709551616):Aa .u64 (((Ap (An .u64) (a:Int)) &&& (Ap (An .u64) (b:Int))).toNat:Int)=((a &&& b:Nat):Int):=by
 have Z:An .u64=64:=rfl
 have e:((Ap (An .u64) (a:Int)) &&& (Ap (An .u64) (b:Int))).toNat=a &&& b:=by
  rw[BitVec.toNat_and,Dv,Dv,DT,DT,Z,DG (by omega),DG (by omega)]
 rw[e]
 have aa:a &&& b<2 ^ 64:=Nat.and_lt_two_pow _ (by omega)
 unfold Aa
 have e1:(2:Int) ^ An .u64=18446744073709551616:=by decide
 simp only[e1]
 have hs:C9 .u64=false:=rfl
 simp only[hs,Db,A9,if_false]
 omega
theorem z2s{n:Int}(h1:0<=n)(h2:n<18446744073709551616):Aa .u64 n=n:=by
 unfold Aa
 have e1:(2:Int) ^ An .u64=18446744073709551616:=by decide
 simp only[e1]
 have hs:C9 .u64=false:=rfl
 simp only[hs,Db,A9,if_false]
 omega
theorem Wo{n:Nat}(h:n<256):n.testBit 7=false↔n<128:=by
 rw[Nat.testBit_eq_decide_div_mod_eq]
 simp;omega
def MASK:Nat:=9259542123273814144
theorem zzf:∀i,i<8->MASK.testBit (8*i+7)=true:=by decide
theorem zzg{w:Nat}(h:w &&& MASK=0):∀i,i<8->w.testBit (8*i+7)=false:=by
 intro i hi
 have:=congrArg (λx=>x.testBit (8*i+7)) h
 simp only[Nat.testBit_and,zzf i hi,Bool.and_true,Nat.zero_testBit]at this
 exact this
def zwa(b0 b1 b2 b3 b4 b5 b6 b7:Nat):Nat:=((((((b0 ||| b1*2 ^ 8) ||| b2*2 ^ 16) ||| b3*2 ^ 24) ||| b4*2 ^ 32) ||| b5*2 ^ 40) ||| b6*2 ^ 48) ||| b7*2 ^ 56
theorem z6o(b k j:Nat):(b*2 ^ k).testBit j=(decide (k<=j)&&b.testBit (j-k)):=by
 rw[Nat.testBit_mul_two_pow]
theorem zs6{j:Nat}:(zwa b0 b1 b2 b3 b4 b5 b6 b7).testBit j=(b0.testBit j||(decide (8<=j)&&b1.testBit (j-8))||(decide (16<=j)&&b2.testBit (j-16))||(decide (24<=j)&&b3.testBit (j-24))||(decide (32<=j)&&b4.testBit (j-32))||(decide (40<=j)&&b5.testBit (j-40))||(decide (48<=j)&&b6.testBit (j-48))||(decide (56<=j)&&b7.testBit (j-56))):=by
 unfold zwa
 simp only[Nat.testBit_or,z6o]
theorem zox(h:∀i,i<8->(zwa b0 b1 b2 b3 b4 b5 b6 b7).testBit (8*i+7)=false)(r0:b0<256)(r1:b1<256)(r2:b2<256)(r3:b3<256)(r4:b4<256)(r5:b5<256)(r6:b6<256)(r7:b7<256):
  b0<128/\b1<128/\b2<128/\b3<128/\b4<128/\b5<128/\b6<128/\b7<128:=by
 have h0:=h 0 (by decide);have h1:=h 1 (by decide);have h2:=h 2 (by decide);have h3:=h 3 (by decide)
 have h4:=h 4 (by decide);have h5:=h 5 (by decide);have h6:=h 6 (by decide);have h7:=h 7 (by decide)
 rw[zs6]at h0 h1 h2 h3 h4 h5 h6 h7
 simp only[BG,Bq]at h0 h1 h2 h3 h4 h5 h6 h7
 refine⟨(Wo r0).1 ?_,(Wo r1).1 ?_,(Wo r2).1 ?_,(Wo r3).1 ?_,(Wo r4).1 ?_,(Wo r5).1 ?_,(Wo r6).1 ?_,(Wo r7).1 ?_⟩
 ·exact h0.1.1.1.1.1.1.1
 ·rcases h1.1.1.1.1.1.1.2 with h|h
  ·simp at h
  ·simpa using h
 ·rcases h2.1.1.1.1.1.2 with h|h
  ·simp at h
  ·simpa using h
 ·rcases h3.1.1.1.1.2 with h|h
  ·simp at h
  ·simpa using h
 ·rcases h4.1.1.1.2 with h|h
  ·simp at h
  ·simpa using h
 ·rcases h5.1.1.2 with h|h
  ·simp at h
  ·simpa using h
 ·rcases h6.1.2 with h|h
  ·simp at h
  ·simpa using h
 ·rcases h7.2 with h|h
  ·simp at h
  ·simpa using h
theorem zd7{l:Bs}:∀{n:Nat},n<=l.length->(∀i (hi:i<l.length),i<n->l[i].toNat<128)->xy l=xy (l.drop n)
 |0,_,_=>by simp
 |n+1,hn,h=>by
  rw[zd7 (n:=n) (by omega) (λi hi Z=>h i hi (by omega))]
  rw[Ay (show n<l.length by omega),zif (h n (by omega) (by omega))]
end
end Go.X
end
section
namespace Go.X
section
variable {gl:Fr} {l:Bs}
def bN(l:Bs)(i:Nat):Nat:=(l[i]?.getD 0).toNat
theorem Yn(l:Bs)(i:Nat):bN l i<256:=(l[i]?.getD 0).toNat_lt
theorem zqu(l:Bs)(i:Nat):za (bl l) i=((bN l i:Nat):Int):=zo l i
def Ze(l:Bs):Nat:=zwa (bN l 0) (bN l 1) (bN l 2) (bN l 3) (bN l 4) (bN l 5) (bN l 6) (bN l 7)
theorem yp(l:Bs):Ze l<18446744073709551616:=by
 have h:=Yn l
 have o:∀a b:Nat,a<2 ^ 64->b<2 ^ 64->a ||| b<2 ^ 64:=λa b ha hb=>Do ha hb
 show _<2 ^ 64
 unfold Ze zwa
 refine o _ _ (o _ _ (o _ _ (o _ _ (o _ _ (o _ _ (o _ _ ?_ ?_) ?_) ?_) ?_) ?_) ?_) ?_
 ·have:=h 0;omega
 ·have:=h 1;omega
 ·have:=h 2;omega
 ·have:=h 3;omega
 ·have:=h 4;omega
 ·have:=h 5;omega
 ·have:=h 6;omega
 ·have:=h 7;omega
theorem zav(a k:Nat)(c:Int)(hc:c=((2 ^ k:Nat):Int)):(a:Int)*c=((a*2 ^ k:Nat):Int):=by rw[hc];omega
theorem zaw(hl:8<=l.length){R:Int->Prop}(h:R (Ze l:Int)):PC Tp gl 217 [Arg.mk .str (bl l)] [.int .u64] R:=by
 apply Z9
 refine⟨λhx=>(by cases hx),λ_=>?_⟩
 simp only[zd,zqu,show(0:Int).toNat=0 from rfl,show(1:Int).toNat=1 from rfl,show(2:Int).toNat=2 from rfl,show(3:Int).toNat=3 from rfl,show(4:Int).toNat=4 from rfl,show(5:Int).toNat=5 from rfl,show(6:Int).toNat=6 from rfl,show(7:Int).toNat=7 from rfl]
 refine⟨by omega,by omega,by omega,by omega,by omega,by omega,by omega,by omega,?_⟩
 have r:=Yn l
 have r0:=r 0;have r1:=r 1;have r2:=r 2;have r3:=r 3;have r4:=r 4;have r5:=r 5;have r6:=r 6;have r7:=r 7
 have m1:=zav (bN l 1) 8 (2 ^ 8) (by decide);have m2:=zav (bN l 2) 16 (2 ^ 16) (by decide);have m3:=zav (bN l 3) 24 (2 ^ 24) (by decide);have m4:=zav (bN l 4) 32 (2 ^ 32) (by decide)
 have m5:=zav (bN l 5) 40 (2 ^ 40) (by decide);have m6:=zav (bN l 6) 48 (2 ^ 48) (by decide);have m7:=zav (bN l 7) 56 (2 ^ 56) (by decide)
 have o:∀a b:Nat,a<18446744073709551616->b<18446744073709551616->a ||| b<18446744073709551616:=λa b ha hb=>Do (n:=64) ha hb
 have w:∀n:Nat,n<18446744073709551616->Aa .u64 (n:Int)=(n:Int):=λn hn=>z2s (by omega) (by omega)
 rw[w (bN l 0) (by omega),w (bN l 1) (by omega),w (bN l 2) (by omega),w (bN l 3) (by omega),w (bN l 4) (by omega),w (bN l 5) (by omega),w (bN l 6) (by omega),w (bN l 7) (by omega),m1,m2,m3,m4,m5,m6,m7]
 rw[w (bN l 1*2 ^ 8) (by omega),w (bN l 2*2 ^ 16) (by omega),w (bN l 3*2 ^ 24) (by omega),w (bN l 4*2 ^ 32) (by omega),w (bN l 5*2 ^ 40) (by omega),w (bN l 6*2 ^ 48) (by omega),w (bN l 7*2 ^ 56) (by omega)]
 have q1:bN l 0 ||| bN l 1*2 ^ 8<18446744073709551616:=o _ _ (by omega) (by omega)
 have q2:=o _ (bN l 2*2 ^ 16) q1 (by omega)
 have q3:=o _ (bN l 3*2 ^ 24) q2 (by omega)
 have q4:=o _ (bN l 4*2 ^ 32) q3 (by omega)
 have q5:=o _ (bN l 5*2 ^ 40) q4 (by omega)
 have q6:=o _ (bN l 6*2 ^ 48) q5 (by omega)
 rw[zv9 (by omega) (by omega),zv9 q1 (by omega),zv9 q2 (by omega),zv9 q3 (by omega),zv9 q4 (by omega),zv9 q5 (by omega),zv9 q6 (by omega)]
 exact h
theorem xm(hl:8<=l.length)(h:Ze l &&& MASK=0):xy l=xy (l.drop 8):=by
 have hs:=zox (zzg h) (Yn l 0) (Yn l 1) (Yn l 2) (Yn l 3) (Yn l 4) (Yn l 5) (Yn l 6) (Yn l 7)
 refine zd7 hl λi hi aa=>?_
 have e:∀j (hj:j<l.length),bN l j=l[j].toNat:=λj hj=>by unfold bN;rw[Zh hj]
 obtain⟨s0,s1,s2,s3,s4,s5,s6,s7⟩:=hs
 have Z:i=0\/i=1\/i=2\/i=3\/i=4\/i=5\/i=6\/i=7:=by omega
 rw[<-e i hi]
 rcases Z with rfl|rfl|rfl|rfl|rfl|rfl|rfl|rfl <;> assumption
theorem zj4{a b:Nat}(h:(a ||| b) &&& MASK=0):a &&& MASK=0/\b &&& MASK=0:=by
 have key:∀x y:Nat,x ||| y=0->x=0:=by
  intro x y Z
  apply Nat.eq_of_testBit_eq
  intro i
  have:=congrArg (λz=>z.testBit i) Z
  simp only[Nat.testBit_or,Nat.zero_testBit,BG]at this
  rw[this.1,Nat.zero_testBit]
 have e:(a ||| b) &&& MASK=(a &&& MASK) ||| (b &&& MASK):=by
  apply Nat.eq_of_testBit_eq
  intro i
  simp only[Nat.testBit_and,Nat.testBit_or,Bool.and_or_distrib_right]
 rw[e]at h
 exact⟨key _ _ h,key _ _ (by rw[Nat.or_comm];exact h)⟩
theorem zmm{n:Int}{k:Nat}(hn:n=(k:Int)):(bl l).extract n.toNat ((l.length:Int)).toNat=bl (l.drop k):=by
 subst hn
 rw[Ae,Ae,zt,Bf (by simp)]
theorem Tabs.first(h:Tabs gl){c:Nat}(hc:c<256):zfs gl 0 (0+c*1) (.int .u8 (Lib.firstT c)):=by
 obtain⟨⟨cs,a,b⟩,_⟩:=h
 exact⟨cs,a,by rw[AB,Du];exact b c hc⟩
theorem Tabs.acc(h:Tabs gl){i:Nat}(hi:i<16):zfs gl 1 (0+i*2) (.int .u8 (Lib.accLo i))/\zfs gl 1 (0+i*2+1) (.int .u8 (Lib.accHi i)):=by
 obtain⟨_,cs,a,b⟩:=h
 exact⟨⟨cs,a,by rw[AB,CJ];exact(b i hi).1⟩,⟨cs,a,by rw[AB,CJ];exact(b i hi).2⟩⟩
end
section
variable {m:Bs} {n b0 b1 b2 b3 lo hi:Nat}
theorem zqv(h:m≠[]):dec m=Lib.decodeN m.length (bN m 0) (bN m 1) (bN m 2) (bN m 3):=by
 simp only[dec,bN,Cp]
theorem ok0(h:m≠[])(hb:128<=bN m 0/\bN m 0<194\/245<=bN m 0/\bN m 0<256):xy m=false:=by
 rw[xz h,zqv h,qbg hb];rfl
theorem ok2(h:m≠[])(hb:194<=bN m 0/\bN m 0<224):xy m=(decide (2<=m.length/\128<=bN m 1/\bN m 1<=191)&&xy (m.drop 2)):=by
 rw[xz h,zqv h,z9t hb (Yn m 1)]
 by_cases hc:2<=m.length/\128<=bN m 1/\bN m 1<=191
 ·rw[if_pos hc];simp[zca,hc]
 ·rw[if_neg hc];simp[zca,hc]
theorem z0r{α:Type}{p q:Prop}[Decidable p][Decidable q]{a b:α}(h:p↔q):(if p then a else b)=if q then a else b:=by
 by_cases hp:p
 ·rw[if_pos hp,if_pos (h.1 hp)]
 ·rw[if_neg hp,if_neg (λhq=>hp (h.2 hq))]
theorem z9x(h:224<=b0/\b0<240)(h1:b1<256)(h2:b2<256)(Z:lo=if b0=224 then 160 else 128)(aa:hi=if b0=237 then 159 else 191):Lib.decodeN n b0 b1 b2 b3=
  if 3<=n/\(lo<=b1/\b1<=hi)/\128<=b2/\b2<=191 then(((b0-224)*64+(b1-128))*64+(b2-128),3)else(65533,1):=by
 rw[z9u h h1 h2]
 refine z0r ?_
 split at Z <;> split at aa <;> omega
theorem z9y(h:240<=b0/\b0<245)(h1:b1<256)(h2:b2<256)(h3:b3<256)(Z:lo=if b0=240 then 144 else 128)(aa:hi=if b0=244 then 143 else 191):Lib.decodeN n b0 b1 b2 b3=
  if 4<=n/\(lo<=b1/\b1<=hi)/\(128<=b2/\b2<=191)/\128<=b3/\b3<=191 then((((b0-240)*64+(b1-128))*64+(b2-128))*64+(b3-128),4)else(65533,1):=by
 rw[z9v h h1 h2 h3]
 refine z0r ?_
 split at Z <;> split at aa <;> omega
theorem ok3(h:m≠[])(hb:224<=bN m 0/\bN m 0<240)(Z:lo=if bN m 0=224 then 160 else 128)(aa:hi=if bN m 0=237 then 159 else 191):
  xy m=(decide (3<=m.length/\(lo<=bN m 1/\bN m 1<=hi)/\128<=bN m 2/\bN m 2<=191)&&xy (m.drop 3)):=by
 rw[xz h,zqv h,z9x hb (Yn m 1) (Yn m 2) Z aa]
 by_cases hc:3<=m.length/\(lo<=bN m 1/\bN m 1<=hi)/\128<=bN m 2/\bN m 2<=191
 ·rw[if_pos hc];simp[zca,hc]
 ·rw[if_neg hc];simp[zca,hc]
theorem ok4(h:m≠[])(hb:240<=bN m 0/\bN m 0<245)(Z:lo=if bN m 0=240 then 144 else 128)(aa:hi=if bN m 0=244 then 143 else 191):
  xy m=(decide (4<=m.length/\(lo<=bN m 1/\bN m 1<=hi)/\(128<=bN m 2/\bN m 2<=191)/\128<=bN m 3/\bN m 3<=191)&&xy (m.drop 4)):=by
 rw[xz h,zqv h,z9y hb (Yn m 1) (Yn m 2) (Yn m 3) Z aa]
 by_cases hc:4<=m.length/\(lo<=bN m 1/\bN m 1<=hi)/\(128<=bN m 2/\bN m 2<=191)/\128<=bN m 3/\bN m 3<=191
 ·rw[if_pos hc];simp[zca,hc]
 ·rw[if_neg hc];simp[zca,hc]
set_option maxHeartbeats 2000000 in
theorem zg7{gl:Fr}(hg:Tabs gl){l:Bs}(hl:l.length<=4611686018427387904){R:Bool->Prop}(h:R (xy l)):PC Tp gl 150 [Arg.mk .str (bl l)] [.bool] R:=by
 apply Z8
 refine⟨λs=>∃m:Bs,s=bl m/\xy m=xy l/\m.length<=l.length,λs=>s.size,⟨l,rfl,rfl,Ad _⟩,?_⟩
 rintro s ⟨m,rfl,hm,aE⟩
 simp only[zd,zqu,show(0:Int).toNat=0 from rfl,zmm (l:=m) (n:=1) (k:=1) rfl,zmm (l:=m) (n:=2) (k:=2) rfl,zmm (l:=m) (n:=3) (k:=3) rfl,zmm (l:=m) (n:=4) (k:=4) rfl]
 refine⟨λhc=>?_,λhc=>?_⟩
 rotate_left
 ·have:m=[]:=by
   have:¬(m.length:Int)>0:=by simpa using hc
   exact AR (by omega)
  subst this
  rw[zjp]at hm
  rw[<-hm]at h;exact h
 have hp:0<m.length:=by simp at hc;omega
 have aa:m≠[]:=Bj.1 hp
 refine⟨by omega,λha=>⟨by omega,?_⟩,λha=>?_⟩
 ·have hb:bN m 0<128:=by simp at ha;omega
  obtain⟨c,t,rfl⟩:=AX aa
  simp only[List.drop_one,List.tail_cons]
  have an:xy t=xy l:=by rw[<-hm];exact(zif hb).symm
  simp only[AI]at aE ⊢
  simp only[zmm (l:=t) (n:=8) (k:=8) rfl,zd]
  refine⟨λr=>r=(Ze t:Int),λhq=>zaw (by simp at hq;omega) rfl,λr hr=>⟨λhx=>?_,λhx=>⟨⟨t,rfl,an,by omega⟩,by omega⟩⟩⟩
  have h8:8<t.length:=by
   cases hd:decide ((t.length:Int)>8)with
   |true=>simp at hd;omega
   |false=>rw[hd]at hx;cases hx
  have aj:decide ((t.length:Int)>8)=true:=by simp;omega
  have aC:=hr aj
  rw[aj,cond_true,aC,show(9259542123273814144:Int)=((MASK:Nat):Int)from rfl,z2r (yp t) (by decide)]at hx
  have hz:Ze t &&& MASK=0:=by
   have:((Ze t &&& MASK:Nat):Int)=0:=by simpa using hx
   omega
  have au:xy (t.drop 8)=xy l:=by rw[<-an,xm (by omega) hz]
  have aO:(t.drop 8).length+8=t.length:=by simp;omega
  generalize t.drop 8=u at *
  simp only[zmm (l:=u) (n:=8) (k:=8) rfl,zmm (l:=u) (n:=16) (k:=16) rfl]
  refine⟨by omega,λhq=>by simp at hq;omega,λr=>r=(Ze u:Int),λhq=>zaw (by simp at hq;omega) rfl,λaS ak=>⟨λr=>r=(Ze (u.drop 8):Int),λhq=>zaw (by simp at hq ⊢;omega) rfl,λaY ar=>⟨λae=>?_,λae=>⟨⟨u,rfl,au,by omega⟩,by omega⟩⟩⟩⟩
  have aT:16<u.length:=by
   cases hd:decide ((u.length:Int)>16)with
   |true=>simp at hd;omega
   |false=>rw[hd]at ae;cases ae
  have af:decide ((u.length:Int)>16)=true:=by simp;omega
  rw[af,cond_true,ak af,ar af,zv9 (yp _) (yp _),show(9259542123273814144:Int)=((MASK:Nat):Int)from rfl,z2r (Do (n:=64) (yp _) (yp _)) (by decide)]at ae
  have az:(Ze u ||| Ze (u.drop 8)) &&& MASK=0:=by
   have:(((Ze u ||| Ze (u.drop 8)) &&& MASK:Nat):Int)=0:=by simpa using ae
   omega
  obtain⟨z1,z2⟩:=zj4 az
  have aJ:xy (u.drop 16)=xy l:=by
   rw[<-au,xm (by omega) z1,xm (l:=u.drop 8) (by simp;omega) z2,BD]
  refine⟨by omega,λs=>∃m':Bs,s=bl m'/\xy m'=xy l/\m'.length<(c::t).length,λs=>s.size,⟨u.drop 16,rfl,aJ,by simp;omega⟩,?_⟩
  rintro s ⟨v,rfl,hv,aH⟩
  simp only[AI]at aH
  simp only[zd,zmm (l:=v) (n:=8) (k:=8) rfl,zmm (l:=v) (n:=16) (k:=16) rfl,zmm (l:=v) (n:=24) (k:=24) rfl,zmm (l:=v) (n:=32) (k:=32) rfl]
  refine⟨λhq=>by simp at hq;omega,λhq=>by simp at hq;omega,λhq=>by simp at hq;omega,λr=>r=(Ze v:Int),λhq=>zaw (by simp at hq;omega) rfl,λaV am=>⟨λr=>r=(Ze (v.drop 8):Int),λhq=>zaw (by simp at hq ⊢;omega) rfl,λaQ ay=>
   ⟨λr=>r=(Ze (v.drop 16):Int),λhq=>zaw (by simp at hq ⊢;omega) rfl,λaZ ax=>⟨λr=>r=(Ze (v.drop 24):Int),λhq=>zaw (by simp at hq ⊢;omega) rfl,λaP ap=>⟨λZ=>?_,λZ=>⟨⟨v,rfl,hv,by omega⟩,by omega⟩⟩⟩⟩⟩⟩
  have a1:32<v.length:=by
   cases hd:decide ((v.length:Int)>32)with
   |true=>simp at hd;omega
   |false=>rw[hd]at Z;cases Z
  have ab:decide ((v.length:Int)>32)=true:=by simp;omega
  have o2:∀a b:Nat,a<18446744073709551616->b<18446744073709551616->a ||| b<18446744073709551616:=λa b ha hb=>Do (n:=64) ha hb
  rw[ab,cond_true,am ab,ay ab,ax ab,ap ab,zv9 (yp _) (yp _),zv9 (yp _) (yp _),zv9 (o2 _ _ (yp _) (yp _)) (o2 _ _ (yp _) (yp _)),show(9259542123273814144:Int)=((MASK:Nat):Int)from rfl,
   z2r (o2 _ _ (o2 _ _ (yp _) (yp _)) (o2 _ _ (yp _) (yp _))) (by decide)]at Z
  have aF:((Ze v ||| Ze (v.drop 8)) ||| (Ze (v.drop 16) ||| Ze (v.drop 24))) &&& MASK=0:=by
   have:((((Ze v ||| Ze (v.drop 8)) ||| (Ze (v.drop 16) ||| Ze (v.drop 24))) &&& MASK:Nat):Int)=0:=by simpa using Z
   omega
  obtain⟨y1,y2⟩:=zj4 aF
  obtain⟨x1,x2⟩:=zj4 y1
  obtain⟨x3,x4⟩:=zj4 y2
  refine⟨by omega,⟨v.drop 32,rfl,?_,by simp;omega⟩,by simp;omega⟩
  rw[<-hv,xm (by omega) x1,xm (l:=v.drop 8) (by simp;omega) x2,BD,xm (l:=v.drop (8+8)) (by simp;omega) x3,BD,xm (l:=v.drop (8+8+8)) (by simp;omega) x4,BD]
 ·have hb:128<=bN m 0:=by simp at ha;omega
  have aB:=Yn m 0
  have hX:=Lib.firstT_cases (bN m 0)
  have aN:=Yn m 1;have aM:=Yn m 2;have aU:=Yn m 3
  refine⟨by omega,(Lib.firstT (bN m 0):Int),by simpa using hg.first aB,?_⟩
  obtain⟨i,lo,hi,k,e2,e3,e4,e5,e6,k1,k2,k3,k4,hk⟩:∃i lo hi k:Nat,((Lib.firstT (bN m 0):Int).fdiv (2 ^ 4))=(i:Int)/\i<16/\Lib.accLo i=lo/\Lib.accHi i=hi /\
    (Aa .i64 (Aa .u8 (((Ap (An .u8) (Lib.firstT (bN m 0):Int)) &&& (Ap (An .u8) 7)).toNat:Int)):Int)=(k:Int) /\
    (k=1->xy m=false)/\(k=2->xy m=(decide (2<=m.length/\lo<=bN m 1/\bN m 1<=hi)&&xy (m.drop 2))) /\
    (k=3->xy m=(decide (3<=m.length/\(lo<=bN m 1/\bN m 1<=hi)/\128<=bN m 2/\bN m 2<=191)&&xy (m.drop 3))) /\
    (k=4->xy m=(decide (4<=m.length/\(lo<=bN m 1/\bN m 1<=hi)/\(128<=bN m 2/\bN m 2<=191)/\128<=bN m 3/\bN m 3<=191)&&xy (m.drop 4)))/\(k=1\/k=2\/k=3\/k=4):=by
   have aA:∀v,Lib.firstT (bN m 0)=v->(v=241->(128<=bN m 0/\bN m 0<194)\/(245<=bN m 0/\bN m 0<256))/\(v=2->194<=bN m 0/\bN m 0<224)/\(v=19->bN m 0=224)/\(v=3->(225<=bN m 0/\bN m 0<240/\bN m 0≠237))/\(v=35->bN m 0=237)/\(v=52->bN m 0=240)/\(v=4->241<=bN m 0/\bN m 0<244)/\(v=68->bN m 0=244)/\v≠240:=by
    intro v hv
    unfold Lib.firstT at hv
    repeat' split at hv
    all_goals omega
   have cl:=aA _ rfl
   rcases hX with hX|hX|hX|hX|hX|hX|hX|hX|hX
   ·exact absurd hX cl.2.2.2.2.2.2.2.2
   ·exact⟨15,0,0,1,by rw[hX];decide,(by decide),rfl,rfl,by rw[hX];decide,(λ_=>ok0 aa (cl.1 hX)),(λe=>by omega),(λe=>by omega),(λe=>by omega),(by omega)⟩
   ·exact⟨0,128,191,2,by rw[hX];decide,(by decide),rfl,rfl,by rw[hX];decide,(λe=>by omega),(λ_=>ok2 aa (cl.2.1 hX)),(λe=>by omega),(λe=>by omega),(by omega)⟩
   ·have c:=cl.2.2.1 hX
    exact⟨1,160,191,3,by rw[hX];decide,(by decide),rfl,rfl,by rw[hX];decide,(λe=>by omega),(λe=>by omega),(λ_=>ok3 aa (by omega) (by rw[if_pos c]) (by rw[if_neg (by omega)])),(λe=>by omega),(by omega)⟩
   ·have c:=cl.2.2.2.1 hX
    exact⟨0,128,191,3,by rw[hX];decide,(by decide),rfl,rfl,by rw[hX];decide,(λe=>by omega),(λe=>by omega),(λ_=>ok3 aa (by omega) (by rw[if_neg (by omega)]) (by rw[if_neg (by omega)])),(λe=>by omega),(by omega)⟩
   ·have c:=cl.2.2.2.2.1 hX
    exact⟨2,128,159,3,by rw[hX];decide,(by decide),rfl,rfl,by rw[hX];decide,(λe=>by omega),(λe=>by omega),(λ_=>ok3 aa (by omega) (by rw[if_neg (by omega)]) (by rw[if_pos c])),(λe=>by omega),(by omega)⟩
   ·have c:=cl.2.2.2.2.2.1 hX
    exact⟨3,144,191,4,by rw[hX];decide,(by decide),rfl,rfl,by rw[hX];decide,(λe=>by omega),(λe=>by omega),(λe=>by omega),(λ_=>ok4 aa (by omega) (by rw[if_pos c]) (by rw[if_neg (by omega)])),(by omega)⟩
   ·have c:=cl.2.2.2.2.2.2.1 hX
    exact⟨0,128,191,4,by rw[hX];decide,(by decide),rfl,rfl,by rw[hX];decide,(λe=>by omega),(λe=>by omega),(λe=>by omega),(λ_=>ok4 aa (by omega) (by rw[if_neg (by omega)]) (by rw[if_neg (by omega)])),(by omega)⟩
   ·have c:=cl.2.2.2.2.2.2.2.1 hX
    exact⟨4,128,143,4,by rw[hX];decide,(by decide),rfl,rfl,by rw[hX];decide,(λe=>by omega),(λe=>by omega),(λe=>by omega),(λ_=>ok4 aa (by omega) (by rw[if_neg (by omega)]) (by rw[if_pos c])),(by omega)⟩
  generalize Lib.firstT (bN m 0)=x at *
  rw[e2,e6]
  have ac:=hg.acc e3
  rw[e4,e5]at ac
  simp only[show(1:Int).toNat=1 from rfl,show(2:Int).toNat=2 from rfl,show(3:Int).toNat=3 from rfl]
  have ah:xy m=false->R false:=λe=>by rw[<-hm,e]at h;exact h
  refine⟨by omega,(lo:Int),by simpa using ac.1,(hi:Int),by simpa using ac.2,?_,?_⟩
  ·intro hx
   have aG:k=2:=by simp at hx;omega
   have q:=k2 aG
   refine⟨λhy=>by simp at hy;omega,λhy=>by simp at hy;omega,λhy=>ah ?_,λhy=>?_⟩
   ·simp only[Bv,Bh,decide_eq_true_eq]at hy
    rw[q,decide_eq_false (by omega)];rfl
   ·simp only[Bv,BG,decide_eq_false_iff_not]at hy
    refine⟨by omega,⟨m.drop 2,rfl,?_,by simp;omega⟩,by simp;omega⟩
    rw[<-hm,q,decide_eq_true (by omega)];simp
  ·intro hx
   refine⟨λZ=>?_,λZ=>⟨λai=>?_,λai=>?_⟩⟩
   ·have aL:k=3:=by simp at Z;omega
    have q:=k3 aL
    refine⟨λhy=>by simp at hy;omega,λhy=>by simp at hy;omega,λhy=>by simp at hy;omega,λhy=>by simp at hy;omega,λhy=>ah ?_,λhy=>?_⟩
    ·simp only[Bv,Bh,decide_eq_true_eq]at hy
     rw[q,decide_eq_false (by omega)];rfl
    ·simp only[Bv,BG,decide_eq_false_iff_not]at hy
     refine⟨by omega,⟨m.drop 3,rfl,?_,by simp;omega⟩,by simp;omega⟩
     rw[<-hm,q,decide_eq_true (by omega)];simp
   ·have aI:k=4:=by simp at ai;omega
    have q:=k4 aI
    refine⟨λhy=>by simp at hy;omega,λhy=>by simp at hy;omega,λhy=>by simp at hy;omega,λhy=>by simp at hy;omega,λhy=>by simp at hy;omega,λhy=>by simp at hy;omega,λhy=>ah ?_,λhy=>?_⟩
    ·simp only[Bv,Bh,decide_eq_true_eq]at hy
     rw[q,decide_eq_false (by omega)];rfl
    ·simp only[Bv,BG,decide_eq_false_iff_not]at hy
     refine⟨by omega,⟨m.drop 4,rfl,?_,by simp;omega⟩,by simp;omega⟩
     rw[<-hm,q,decide_eq_true (by omega)];simp
   ·refine ah (k1 ?_)
    simp at hx Z ai;omega
end
end Go.X
end
section
namespace Go.X
open Go Go.Lib
section
variable {v x:Tr}
mutual
def tsz:Tr->Nat | .mk _ _ _ xs=>1+z0s xs
def z0s:List Tr->Nat | []=>0|x::l=>tsz x+z0s l
end
mutual
def txB(m:Nat):Tr->Prop | .mk _ s ks xs=>(s.size<=m/\ks.length<=m/\∀k∈ks,k.size<=m)/\z4w m xs
def z4w(m:Nat):List Tr->Prop | []=>True|x::l=>txB m x/\z4w m l
end
theorem zwb(v:Tr):tsz v=1+z0s v.items:=by cases v;rw[tsz]
theorem zqw(m:Nat)(v:Tr):txB m v↔(v.text.size<=m/\v.keys.length<=m/\∀k∈v.keys,k.size<=m)/\z4w m v.items:=by cases v;rw[txB]
theorem zqx{m:Nat}:∀{l:List Tr},z4w m l↔∀x∈l,txB m x
 |[]=>by simp[z4w]
 |x::l=>by rw[z4w,zqx];simp
theorem zzh{m:Nat}(h:txB m v)(hx:x∈v.items):txB m x:=zqx.1 ((zqw m v).1 h).2 x hx
theorem zqy{x:Tr}:∀{l:List Tr},x∈l->tsz x<=z0s l
 |y::l,h=>by
  rw[z0s]
  rcases Ai.1 h with rfl|h
  ·omega
  ·have:=zqy h;omega
theorem zqz(h:x∈v.items):tsz x<tsz v:=by
 have:=zqy h
 rw[zwb v];omega
theorem zq0:∀l:List Tr,l.length<=z0s l
 |[]=>by simp[z0s]
 |x::l=>by
  have:=zq0 l
  rw[z0s,AI,zwb];omega
structure Sm (v:Tr):Prop where
 sz:tsz v<=1000000000000
 tx:txB 1048576 v
theorem Sm.item(h:Sm v)(hx:x∈v.items):Sm x:=⟨by have:=zqz hx;have:=h.sz;omega,zzh h.tx hx⟩
theorem Sm.text(h:Sm v):(lb v.text).length<=1048576:=by rw[Wl];exact((zqw _ v).1 h.tx).1.1
theorem Sm.key(h:Sm v){k:Bt}(hk:k∈v.keys):(lb k).length<=1048576:=by rw[Wl];exact((zqw _ v).1 h.tx).1.2.2 k hk
theorem Sm.keys(h:Sm v):v.keys.length<=1048576:=((zqw _ v).1 h.tx).1.2.1
theorem Sm.items(h:Sm v):v.items.length<=1000000000000:=by have:=zq0 v.items;have:=h.sz;rw[zwb]at this;omega
end
end Go.X
end
section
namespace Go.X
section
variable {gl:Fr} {l:Bs}
theorem zzi(hg:Tabs gl)(hl:l.length<=4611686018427387904){R:Int×Bool->Prop}(h:∀k,R (k,xy l)):PC Tp gl 80 [Arg.mk .str (bl l)] [.int .i64,.bool] R:=by
 apply zg0
 refine zg7 hg hl ⟨λhx=>?_,λhx=>?_⟩
 ·have:=h ((bl l).size:Int);rw[hx]at this;exact this
 ·refine⟨λp=>p.1=bl l/\p.2<=l.length/\xy (l.drop p.2)=false,λp=>l.length-p.2,⟨rfl,by omega,by simpa using hx⟩,?_⟩
  rintro⟨_,p⟩ ⟨rfl,hp,h2⟩
  simp only at hp h2 ⊢
  rw[zmh,zqq]
  refine⟨λhc=>⟨hc,hc,λhq=>?_,λhq=>⟨?_,?_⟩⟩,λhc=>?_⟩
  ·have aa:p<l.length:=by simpa using hc
   have Z:l.drop p≠[]:=λe=>by have:=congrArg Cd e;simp at this;omega
   have hb:zca (dec (l.drop p))=false:=by
    unfold zca
    have:¬(dec (l.drop p)).1=65533:=λe=>by rw[e]at hq;simp at hq
    simp[this]
   rw[xz Z,hb]at h2
   simp only[A9,if_false,BD]at h2
   rw[zig l p aa]
   have hw:=ww (l.drop p);have ab:=zmb Z
   simp only[As]at ab
   exact⟨⟨trivial,by omega,h2⟩,by omega⟩
  ·have aa:p<l.length:=by simpa using hc
   rw[zd];omega
  ·have aa:p<l.length:=by simpa using hc
   have Z:l.drop p≠[]:=λe=>by have:=congrArg Cd e;simp at this;omega
   rw[zd,zmm (k:=p) rfl]
   refine zmf hg ?_
   have af:(bl (l.drop p)).size≠0:=by rw[zd];simp;omega
   have hd:Lib.decodeGo (bl (l.drop p))=dec (l.drop p):=by
    unfold Lib.decodeGo
    rw[if_neg af,zqp,jd,BC]
   rw[hd]
   refine⟨λae=>?_,λae=>?_⟩
   ·have:=h (p:Int)
    have hu:xy l=false:=hx
    rw[hu]at this;exact this
   ·have hb:zca (dec (l.drop p))=false:=by
     unfold zca
     have:¬(dec (l.drop p)).2=1:=λe=>by rw[e]at ae;simp at ae
     simp[this]
    rw[xz Z,hb]at h2
    simp only[A9,if_false,BD]at h2
    rw[zig l p aa]
    have hw:=ww (l.drop p);have ab:=zmb Z
    simp only[As]at ab
    exact⟨⟨trivial,by omega,h2⟩,by omega⟩
  ·have:l.drop p=[]:=AU (by(have:¬p<l.length:=by simpa using hc);omega)
   rw[this,zjp]at h2;cases h2
theorem zzj(hg:Tabs gl)(hl:l.length<=4611686018427387904){R:Bool->Prop}(h:R (xy l)):PC Tp gl 134 [Arg.mk .str (bl l)] [.bool] R:=by
 apply zef
 exact zzi hg hl λk=>h
theorem zwc(hl:l.length<=4611686018427387904){R:Int×Bool->Prop}(h:∀k,R (k,xy l)):PC Tp gl 136 [Arg.mk .str (bl l)] [.int .i64,.bool] R:=
 zon (by rw[zd];omega) λk=>by rw[jd];exact h k
structure GL (gl:Fr):Prop where
 tabs:Tabs gl
 pow:Pow gl
 max:z0p gl
 err:zop gl
theorem Wp(s:Bs)(hs:s.length<=1152921504606846976):(zp s).1.2.1.length<=4611686018427387904:=by
 unfold zp
 split
 ·simp
 ·rename_i x hx
  have h1:=zde hx
  split
  ·simp
  ·split
   ·simp
   ·simp only
    generalize (if x.low=true then-(zq (x.exp.dropWhile (· == 48)):Int)else zq (x.exp.dropWhile (· == 48)))=e
    split
    ·simp
    ·rename_i Z
     have h2:(yr (x.whole++x.rest)).length<=(x.whole++x.rest).length:=by
      unfold yr
      rw[List.length_reverse]
      refine DU (jq _ _) ?_
      rw[List.length_reverse]
      exact jq _ _
     rw[Ar]at h2
     split
     ·show(yr (x.whole++x.rest)).length<=_;omega
     ·simp
end
end Go.X
end
section
namespace Go.Proofs.YtjohlemfgcmaoaaGreatDoor
open Go Go.X Go.ChangeShapes Go.WideShapes Go.ChangeAt Go.RowKit Go.Lib
open Go.ChangeMaps (open_string shut_string)
set_option linter.unusedVariables false
section
variable {H:Type} {g:Nat} {t:TypeId}
theorem Tryz.own:ownKnob AP.godebug=none:=by kernel_rfl
theorem Tryz.laidOut:laidOutB AP=true:=by kernel_rfl
theorem zj5{enc:TypeId×Value->H}{a:Assume}{C:Checked}{os:Os}{f:FuncId}{fn:Func}{s:ChangeSpec}{aj:List PathCond}{apart af ab ah:Bool}{X:World->Array Value->Prop}
  (hX:∀(w w':World) (args:Array Value),w.heap=w'.heap->X w args->X w' args)
  (own:ownKnob C.prog.godebug=none) (ai:os.Started) (am:C.prog.inits.idxOf? f=none) (aB:C.prog.funcs[f]?=some fn)
  (ak:∃(w:World) (Z:Tape) (i:Input),w.os=os/\(w.forCall Z i).Shaped C.prog/\i.vars=[]/\Input.okWide C.prog (w.forCall Z i) .any w.heap.size f i /\
   ((s.pre enc C.prog fn aj apart (w.forCall Z i).memory i.args/\X (w.forCall Z i).memory i.args)/\sizedMet enc C.prog fn (OpenSpec.ofChange s) apart (w.forCall Z i).memory i.args)/\a.holds C.prog (lone (Frame.enter C.prog f i.args .normal) [] (w.forCall Z i)))
  (ae:∀(W:World) (base:Nat) (args:Array Value) (ds gs:List (DataW H)) (aa:List MemPlace),
   (∀(j:Nat) t v,fn.params[j]?=some t->args[j]?=some v->Value.okWide C.prog W .any base t v) ->
   DataW.Whole enc C.prog fn.params.toList s.vars apart W args.toList ds gs aa ->
   (DataW.weightsEach C.prog (fn.params.toList++s.plain.varTypes C.prog) (ds++gs)).all (·<=reachBytes)=true ->
   X W args->W.ShapedOpen C.prog ->
   Calls C.prog f args W λe W'=>∃v,e=.returned v/\s.post enc C.prog fn apart af ab ah W args v W'):
  ReturnsInHanded a C os f .any (λw args=>(s.pre enc C.prog fn aj apart w args/\X w args)/\sizedMet enc C.prog fn (OpenSpec.ofChange s) apart w args) (s.post enc C.prog fn apart af ab ah):=by
 refine returnsInHanded_of_calls own ai am ak ?_
 intro w Z i _ ay _ ax ap au
 obtain⟨_,_,_,az,ar,_,_,_,_,an⟩:=ax
 have e:az=fn:=Aq (ar.symm.trans aB)
 subst e
 obtain⟨⟨⟨ds,gs,aa,hw,hc⟩,hx⟩,hz⟩:=ap
 have aA:=DataW.Whole.of_heap (w':=w.forCall Z i) (by rfl) hw
 refine(ae (w.forCall Z i) w.heap.size i.args ds gs aa an aA (hz.weights hw) (hX _ _ _ (by rfl) hx) ay).mono λe W' ⟨v,he,hp⟩=>?_
 subst he
 exact ChangeSpec.post_blind hp
theorem z0t{P:Program}{W:World}{n:String}{k:IntKind}{zs:List Int}{t e:TypeId}{m:Nat}(hg:P.globalNamed n=some g)(ht:(P.globals[g]?).map (·.type)=some t)(hu:P.underlying t=some (.array m e))(he:P.underlying e=some (.int k))
  (af:P.cellsOf e=1) (ae:P.cellsOf t=m) (h:VarReads P W n (tabData k zs)):∃cs:Array Value,Fz W g=some cs/\cs.toList=zs.map λz=>D7 k z:=by
 obtain⟨g',t',cs,fuel,p,ab,aa,Z,hd⟩:=h
 obtain rfl:=Aq (hg.symm.trans ab)
 obtain rfl:=Aq (ht.symm.trans aa)
 exact⟨cs,Fz.var hg Z,cells_of_tab hu he af ae hd⟩
theorem zzk{W : World}(h : VarReads Tryz.prog W "unicode/utf8.first" Pinned.utf8First): ∃ cs : Array Value, Fz W 0 = some cs ∧ ∀ c, c < 256 → cs[c]? = some (.int .u8 (Lib.firstT c)) := by
 rw[Pinned.utf8First_eq]at h
 obtain⟨cs,h1,h2⟩:=z0t (g:=0) (t:=230) (e:=5) (m:=256) (by kernel_rfl) (by kernel_rfl) (by kernel_rfl) (by kernel_rfl) (by kernel_rfl) (by kernel_rfl) h
 refine⟨cs,h1,λc hc=>?_⟩
 rw[<-BB,h2]
 simp[firstTab,hc]
theorem zwd{W : World}(h : VarReads Tryz.prog W "unicode/utf8.acceptRanges" acceptData): ∃ cs : Array Value, Fz W 1 = some cs ∧ ∀ i, i < 16 → cs[2 * i]? = some (.int .u8 (Lib.accLo i)) ∧ cs[2 * i + 1]? = some (.int .u8 (Lib.accHi i)) := by
 obtain⟨g,t,cs,fuel,p,hg,hty,hvar,hd⟩:=h
 obtain rfl := Option.some.inj ((show Tryz.prog.globalNamed "unicode/utf8.acceptRanges" = some 1 by kernel_rfl).symm.trans hg)
 obtain rfl:=Aq ((show(AP.globals[1]?).map (·.type)=some 233 by kernel_rfl).symm.trans hty)
 refine⟨cs,Fz.var hg hvar,λi hi=>?_⟩
 obtain⟨fuel',d,q,hdi,he⟩:=array_elem (show AP.underlying 233=some (.array 16 232)by kernel_rfl) hd i hi
 simp only[Cc,List.getElem?_range hi,D5,Ab]at hdi
 subst hdi
 have hc:AP.cellsOf 232=2:=by kernel_rfl
 have c5:AP.cellsOf 5=1:=by kernel_rfl
 have u5:AP.underlying 5=some (.int .u8):=by kernel_rfl
 rw[hc]at he
 have hcs:=ints_of_struct Tryz.underlying232 (λj f hj=>by
  match j,hj with
  |0,hj=>simp at hj;subst hj;exact⟨u5,rfl,c5⟩
  |1,hj=>simp at hj;subst hj;exact⟨u5,rfl,c5⟩
  |j+2,hj=>simp at hj) (by rw[hc];rfl) he
 have e0:=congrArg (·[0]?) hcs
 have e1:=congrArg (·[1]?) hcs
 simp only[AC,AE]at e0 e1
 constructor
 ·rw[<-BB]
  simpa[CJ]using e0
 ·rw[<-BB]
  simpa[CJ]using e1
theorem z6p{W : World}{d : DataW Unit}(hd : d = tabData .u64 Lib.pow10Tab)(h : VarReads Tryz.prog W "internal/strconv.uint64pow10" d): Pow (Fz W) := by
 subst hd
 obtain⟨cs,h1,h2⟩:=z0t (g:=2) (t:=273) (e:=238) (m:=20) (by kernel_rfl) (by kernel_rfl) (by kernel_rfl) (by kernel_rfl) (by kernel_rfl) (by kernel_rfl) h
 exact⟨_,cs,by kernel_rfl,h1,by rw[<-h2]⟩
theorem z0u{W:World}{n:String}{ms:Array (String×TypeId)}{nm:String}{d:DataW Unit}(hg:AP.globalNamed n=some g)(ht:(AP.globals[g]?).map (·.type)=some t)(hu:AP.underlying t=some (.interface ms))(h:VarReads AP W n (.iface nm d)):
  ∃(cs:Array Value) (e:Value),Fz W g=some cs/\cs[0]?=some e/\(e=.nilIface\/∃te pe,e=.iface te pe):=by
 obtain⟨g',t',cs,fuel,p,ab,aa,Z,hd⟩:=h
 obtain rfl:=Aq (hg.symm.trans ab)
 obtain rfl:=Aq (ht.symm.trans aa)
 obtain⟨f1,u,v,ae,_,_⟩:=iface_of_trod hu hd
 exact⟨cs,.iface u v,Fz.var hg Z,by rw[<-BB,ae];rfl,.inr ⟨u,v,rfl⟩⟩
theorem z6q{W:World}(h:W.ShapedOpen AP):z0p (Fz W):=by
 obtain⟨m,hm⟩:=cell_of_shapedOpen_int (P:=AP) (g:=3) (t:=3) (zero:=#[.int .i64 0]) (k:=.i64) h (by decide +kernel) (by kernel_rfl) rfl (by kernel_rfl) (by kernel_rfl) (by kernel_rfl)
 obtain⟨b,o,c,e,h1,h2⟩:=Fz.cell hm
 cases e
 exact⟨c,m,h1,h2⟩
def zmn:List (String×DataW Unit):=Rows.readReadsRow.laid
theorem z9z{W:World}(h:laidMetH AP zmn W)(hs:W.ShapedOpen AP):GL (Fz W):=by
 have hl:laidMet AP zmn W:=by
  rw[MakeChecks.laidMetH_plain _ _ _ (by kernel_rfl)]at h;exact h
 have hr:∀(i:Nat) (n:String) (d:DataW Unit),zmn[i]?=some (n,d)->VarReads AP W n d:=λi n d e=>Go.Lib.laidMet.reads hl (Ba e)
 exact {
  tabs:=⟨zzk (hr 6 _ _ rfl),zwd (by
   have e:(Rows.laid_unicode_utf8_acceptRanges:DataW Unit)=acceptData:=by kernel_rfl
   rw[<-e];exact hr 3 _ _ rfl)⟩
  pow:=z6p (by kernel_rfl) (hr 2 _ _ rfl)
  max:=z6q hs
  err:=⟨z0u (g:=4) (t:=114) (by kernel_rfl) (by kernel_rfl) Tryz.underlying114 (hr 5 _ _ rfl),z0u (g:=5) (t:=114) (by kernel_rfl) (by kernel_rfl) Tryz.underlying114 (hr 4 _ _ rfl)⟩ }
noncomputable def z94(os:Os):World:=World.laidAll AP os zmn
theorem zoy(os:Os)(args:Array Value):((z94 os).forCall (λ_ _=>0) ⟨#[],args,[]⟩).Shaped AP:=World.shaped_of_ZipB (by kernel_rfl) (by kernel_rfl)
theorem zzl(os:Os)(args:Array Value):laidMetH AP zmn ((z94 os).forCall (λ_ _=>0) ⟨#[],args,[]⟩).memory:=by
 rw[MakeChecks.laidMetH_plain _ _ _ (by kernel_rfl)];exact laidMet_laidAll _ (by kernel_rfl) (by kernel_rfl)
theorem z2t{enc:TypeId×Value->H}{W:World}{sp:Nat->Bool}{held:Bool}{fuel:Nat}{cs:List Value}{x:DataW H×List MemPlace}(h:DataW.trod enc AP W 0 sp held fuel 23 cs=some x)(hw:zvo AP 23 x.1):∃xs:List ByteArray,Rd (Fz W) (.row .str) xs cs:=
 z2h Tryz.underlying23 BH (by kernel_rfl) (by decide +kernel) h hw
theorem zzm{ts:List TypeId}{ds:List (DataW H)}(h:(DataW.weightsEach AP ts ds).all (·<=reachBytes)=true){j:Nat}{d:DataW H}(ht:ts[j]?=some t)(hd:ds[j]?=some d):zvo AP t d:=λn hn=>by
 have:=A4.1 h n (DataW.weights_mem_each ht hd n hn)
 simpa using this
end
end Go.Proofs.YtjohlemfgcmaoaaGreatDoor
end
section
namespace Go.X
open Go Go.Lib
section
variable {l:Bs} {n r:Nat}
theorem qbj(l:Bs):decodeL l=dec l:=by rw[decodeL_N,dec]
theorem z2u(h:l≠[])(hg:zca (dec l)=false):encodeRune ((dec l).1:Int)=l.take (dec l).2:=by
 rw[<-qbj]at hg ⊢
 refine encode_decode l h λ⟨h1,h2⟩=>?_
 unfold zca at hg
 rw[h1,h2]at hg
 cases hg
def zcf(c:UInt8):Option Nat:=
 if 48<=c.toNat/\c.toNat<=57 then some (c.toNat-48)
 else if 97<=c.toNat/\c.toNat<=102 then some (c.toNat-87)
 else if 65<=c.toNat/\c.toNat<=70 then some (c.toNat-55)
 else none
theorem z2v{c:UInt8}(h:zcf c=some n):n<16:=by
 unfold zcf at h
 split at h
 ·cases h;omega
 ·split at h
  ·cases h;omega
  ·split at h
   ·cases h;omega
   ·cases h
def zeh:Nat->Bs->Option Nat
 |n,[]=>some n
 |n,c::l=>match zcf c with
  |some d=>zeh (16*n+d) l
  |none=>none
def zei(l:Bs):Option Nat:=if 4<=l.length then zeh 0 (l.take 4)else none
theorem zj6:∀{l:Bs} {n m:Nat},zeh n l=some m->m<(n+1)*16 ^ l.length
 |[],n,m,h=>by cases h;simp
 |c::l,n,m,h=>by
  unfold zeh at h
  cases e:zcf c with
  |none=>rw[e]at h;cases h
  |some d=>
   rw[e]at h
   have h1:=zj6 h
   have h2:=z2v e
   have h3:(16*n+d+1)*16 ^ l.length<=(16*(n+1))*16 ^ l.length:=AK _ (by omega)
   have h4:(16*(n+1))*16 ^ l.length=(n+1)*16 ^ (l.length+1):=by rw[Nat.pow_succ,CJ 16,Nat.mul_assoc,CJ 16]
   simp only[AI]
   omega
theorem zdg(h:zei l=some n):n<65536:=by
 unfold zei at h
 split at h
 ·have:=zj6 h
  simp only[AN]at this
  rename_i h4
  rw[Nat.min_eq_left h4]at this
  omega
 ·cases h
def zx8(c:UInt8):Option Nat:=
 if c=34\/c=92\/c=47 then some c.toNat else if c=98 then some 8 else if c=102 then some 12 else if c=110 then some 10 else if c=114 then some 13 else if c=116 then some 9 else none
def z4x(t:Bs):Option (Nat×Nat):=match zei t with
 |none=>none
 |some n=>if 56320<=n/\n<57344 then none else if n<55296\/57344<=n then some (n,6)else
  if(t.drop 4).take 2=[92,117]then match zei (t.drop 6)with
   |some m=>if 56320<=m/\m<57344 then some (65536+(n-55296)*1024+(m-56320),12)else none
   |none=>none
  else none
def zzn(l:Bs):Option (Nat×Nat):=match l with
 |_::c::t=>match zx8 c with
  |some r=>some (r,2)
  |none=>if c=117 then z4x t else none
 |_=>none
def zax(l:Bs):Option (Nat×Nat):=if l.head?=some 92 then zzn l else if(dec l).1<32\/zca (dec l)=true then none else some (dec l)
def zmo:Nat->Bs->Bs×Nat×Bool
 |0,_=>([],0,false)
 |f+1,l=>if l=[]then([],0,false)else if l.head?=some 34 then([],1,true)else match zax l with
  |none=>([],0,false)
  |some (r,n)=>let q:=zmo f (l.drop n);(encodeRune (r:Int)++q.1,n+q.2.1,q.2.2)
def zcg(l:Bs):Bs×Nat×Bool:=zmo l.length l
theorem zs7{t:Bs}(h:z4x t=some (r,n)):(n=6\/n=12)/\n<=t.length+2/\r<=1114111:=by
 unfold z4x at h
 cases e:zei t with
 |none=>rw[e]at h;cases h
 |some m=>
  have hm:=zdg e
  have hl:4<=t.length:=by
   unfold zei at e
   split at e
   ·assumption
   ·cases e
  rw[e]at h
  dsimp only at h
  split at h
  ·cases h
  ·split at h
   ·simp only[Ab,Br]at h
    obtain⟨rfl,rfl⟩:=h
    exact⟨.inl rfl,by omega,by omega⟩
   ·split at h
    ·cases e2:zei (t.drop 6)with
     |none=>rw[e2]at h;cases h
     |some k=>
      have Z:4<=(t.drop 6).length:=by
       unfold zei at e2
       split at e2
       ·assumption
       ·cases e2
      rw[As]at Z
      rw[e2]at h
      dsimp only at h
      split at h
      ·simp only[Ab,Br]at h
       obtain⟨rfl,rfl⟩:=h
       exact⟨.inr rfl,by omega,by omega⟩
      ·cases h
    ·cases h
theorem z2w{c:UInt8}(h:zx8 c=some r):r<=255:=by
 have:=c.toNat_lt
 unfold zx8 at h
 repeat' split at h
 all_goals first|(cases h;omega)|cases h
theorem zii(h:zzn l=some (r,n)):2<=n/\n<=12/\n<=l.length/\r<=1114111:=by
 match l,h with
 |a::c::t,h=>
  unfold zzn at h
  dsimp only at h
  cases e:zx8 c with
  |some k=>
   rw[e]at h;cases h
   have:=z2w e
   exact⟨by omega,by omega,by simp,by omega⟩
  |none=>
   rw[e]at h
   dsimp only at h
   split at h
   ·obtain⟨h1,h2,h3⟩:=zs7 h
    refine⟨by omega,by omega,?_,h3⟩
    simp only[AI];omega
   ·cases h
theorem z2x(l:Bs):(dec l).1<=1114111:=by
 have h0:=(l.getD 0 0).toNat_lt
 have h1:=(l.getD 1 0).toNat_lt
 have h2:=(l.getD 2 0).toNat_lt
 have h3:=(l.getD 3 0).toNat_lt
 unfold dec decodeN
 repeat' split
 all_goals (simp only;omega)
theorem Jl(hl:l≠[])(h:zax l=some (r,n)):1<=n/\n<=12/\n<=l.length/\r<=1114111:=by
 unfold zax at h
 split at h
 ·obtain⟨h1,h2,h3,h4⟩:=zii h
  exact⟨by omega,h2,h3,h4⟩
 ·split at h
  ·cases h
  ·have h:=Aq h
   obtain⟨rfl,rfl⟩:r=(dec l).1/\n=(dec l).2:=by rw[h];exact⟨rfl,rfl⟩
   have h1:=ww l
   have h2:=zmb hl
   exact⟨h1.1,by omega,h2,z2x l⟩
theorem zij:∀(f:Nat) (l:Bs),l.length<=f->∀g,l.length<=g->zmo f l=zmo g l
 |0,l,h,g,_=>by
  have:l=[]:=AW.1 (by omega)
  subst this
  cases g <;> simp[zmo]
 |f+1,l,h,0,hg=>by
  have:l=[]:=AW.1 (by omega)
  subst this
  simp[zmo]
 |f+1,l,h,g+1,hg=>by
  unfold zmo
  by_cases h1:l=[]
  ·rw[if_pos h1,if_pos h1]
  ·rw[if_neg h1,if_neg h1]
   by_cases h2:l.head?=some 34
   ·rw[if_pos h2,if_pos h2]
   ·rw[if_neg h2,if_neg h2]
    cases e:zax l with
    |none=>rfl
    |some x=>
     obtain⟨r,n⟩:=x
     obtain⟨n1,_,n2,_⟩:=Jl h1 e
     have:=zij f (l.drop n) (by rw[As];omega) g (by rw[As];omega)
     dsimp only
     rw[this]
theorem zmp:zcg []=([],0,false):=rfl
theorem zdh(h:l≠[]):zcg l=if l.head?=some 34 then([],1,true)else match zax l with
  |none=>([],0,false)
  |some (r,n)=>(encodeRune (r:Int)++(zcg (l.drop n)).1,n+(zcg (l.drop n)).2.1,(zcg (l.drop n)).2.2):=by
 have hp:=Bj.2 h
 obtain⟨f,hf⟩:∃f,l.length=f+1:=⟨l.length-1,by omega⟩
 rw[zcg,hf,zmo,if_neg h]
 by_cases h2:l.head?=some 34
 ·rw[if_pos h2,if_pos h2]
 ·rw[if_neg h2,if_neg h2]
  cases e:zax l with
  |none=>rfl
  |some x=>
   obtain⟨r,n⟩:=x
   obtain⟨n1,_,n2,_⟩:=Jl h e
   dsimp only
   rw[zcg,zij f (l.drop n) (by rw[As];omega) (l.drop n).length (Ad _)]
theorem zwe:∀(k:Nat) (l:Bs),l.length=k->(zcg l).2.1<=l.length/\(zcg l).1.length<=4*l.length:=by
 intro k
 induction k using Nat.strongRecOn with
 |_ k ih=>
  intro l hl
  by_cases h:l=[]
  ·subst h;exact⟨Ad _,Ad _⟩
  ·have hp:=Bj.2 h
   rw[zdh h]
   split
   ·exact⟨hp,by simp⟩
   ·cases e:zax l with
    |none=>exact⟨by simp,by simp⟩
    |some x=>
     obtain⟨r,n⟩:=x
     obtain⟨n1,_,n2,_⟩:=Jl h e
     have hd:(l.drop n).length=l.length-n:=As
     have:=ih (l.drop n).length (by omega) _ rfl
     have h4:(encodeRune (r:Int)).length<=4:=by
      have:=(encodeRuneZ_length (r:Int)).2
      rw[encodeRune,AL];exact this
     dsimp only
     rw[Ar]
     omega
def ya(t:Bs)(a:Nat):Bs×Nat×Int:=
 if(t.drop a).head?=some 34 then(let q:=zcg (t.drop (a+1));if q.2.2 then(q.1,a+1+q.2.1,0)else([],a+1+q.2.1,2))else([],a,2)
def Qs(t:Bs):Bs×Nat×Int:=let r:=ya t 0;if r.2.2=0/\r.2.1<t.length then([],r.2.1,2)else r
end
section
variable {a:Nat}
abbrev Tk:=Int×Int×Int
def Wq:Bs:=[32,9,10,13]
def signB:Bs:=[123,125,91,93,44,58]
def zd8:Bs:=[45,43,46,48,49,50,51,52,53,54,55,56,57,101,69]
def zmq:Bs:=[45,48,49,50,51,52,53,54,55,56,57]
def y7:Bs:=[97,98,99,100,101,102,103,104,105,106,107,108,109,110,111,112,113,114,115,116,117,118,119,120,121,122]
def Zi(p:UInt8->Bool)(l:Bs):Nat:=(l.takeWhile p).length
theorem zoz(p:UInt8->Bool)(l:Bs):Zi p l<=l.length:=(List.takeWhile_sublist p).length_le
theorem zq1{p:UInt8->Bool}{c:UInt8}{l:Bs}(h:p c=true):0<Zi p (c::l):=by
 unfold Zi;rw[List.takeWhile_cons,if_pos h];simp
theorem zgh{p:UInt8->Bool}:∀{l:Bs} {k:Nat} (hk:k<=l.length),(∀j (hj:j<k),p (l[j]'(by omega))=true)->(∀h:k<l.length,p l[k]=false)->Zi p l=k
 |[],k,hk,h1,h2=>by simp at hk;subst hk;rfl
 |c::l,0,hk,h1,h2=>by
  have:=h2 (by simp)
  unfold Zi;rw[List.takeWhile_cons,if_neg (by simp at this;simp[this])];rfl
 |c::l,k+1,hk,h1,h2=>by
  have hc:=h1 0 (by omega)
  simp only[List.getElem_cons_zero]at hc
  unfold Zi
  rw[List.takeWhile_cons,if_pos hc,AI]
  have:=zgh (p:=p) (l:=l) (k:=k) (by simp at hk;omega) (λj hj=>by have:=h1 (j+1) (by omega);simpa using this) (λhh=>by have:=h2 (by simp;omega);simpa using this)
  unfold Zi at this
  omega
def Yo(s:Bs):Int:=if s=[116,114,117,101]then 10 else if s=[102,97,108,115,101]then 11 else if s=[110,117,108,108]then 12 else 0
def jk(l:Bs)(c:UInt8):Bool:=decide (c∈l)
def Jv(s:Bs)(a:Nat):Int×Nat×Int:=match s.drop a with
 |[]=>(0,a,2)
 |c::t=>
  if c∈signB then(2+indexByte signB c,a+1,0)
  else if c∈Wq then(1,a+Zi (jk Wq) (c::t),0)
  else if c=34 then(if(ya s a).2.2=0 then(8,(ya s a).2.1,0)else(0,(ya s a).2.1,(ya s a).2.2))
  else if c∈zmq then(if(zp ((c::t).take (Zi (jk zd8) (c::t)))).2=0 then(9,a+Zi (jk zd8) (c::t),0)else(0,a,(zp ((c::t).take (Zi (jk zd8) (c::t)))).2))
  else if Yo ((c::t).take (Zi (jk y7) (c::t)))=0 then(0,a,2)else(Yo ((c::t).take (Zi (jk y7) (c::t))),a+Zi (jk y7) (c::t),0)
theorem zs8{t:Bs}(h:(ya t a).2.2=0):a<(ya t a).2.1/\(ya t a).2.1<=t.length:=by
 unfold ya at h ⊢
 split at h
 ·rename_i hh
  rw[if_pos hh]
  have:=(zwe _ (t.drop (a+1)) rfl).1
  have Z:a<t.length:=by
   rcases AF a t.length with h1|h1
   ·exact h1
   ·rw[AU h1]at hh;cases hh
  rw[As]at this
  dsimp only at h ⊢
  split at h
  ·rename_i h2;rw[if_pos h2];dsimp only;omega
  ·cases h
 ·cases h
theorem zgi{s:Bs}(ha:a<s.length)(h:(Jv s a).2.2=0):a<(Jv s a).2.1/\(Jv s a).2.1<=s.length:=by
 have hd:s.drop a=s[a]::s.drop (a+1):=Ay ha
 have hl:(s[a]::s.drop (a+1)).length=s.length-a:=by rw[<-hd,As]
 have rb:=λp=>zoz p (s[a]::s.drop (a+1))
 rw[hl]at rb
 unfold Jv at h ⊢
 rw[hd]at h ⊢
 dsimp only at h ⊢
 split
 ·dsimp only;omega
 ·rename_i h1
  rw[if_neg h1]at h
  split
  ·rename_i h2
   have:=zq1 (p:=jk Wq) (l:=s.drop (a+1)) (c:=s[a]) (by unfold jk;exact decide_eq_true h2)
   have:=rb (jk Wq)
   dsimp only;omega
  ·rename_i h2
   rw[if_neg h2]at h
   split
   ·rename_i h3
    rw[if_pos h3]at h
    split at h
    ·rename_i h4
     rw[if_pos h4]
     exact zs8 h4
    ·rename_i h4;exact absurd h h4
   ·rename_i h3
    rw[if_neg h3]at h
    split
    ·rename_i h4
     rw[if_pos h4]at h
     split at h
     ·rename_i h5
      rw[if_pos h5]
      have hn:s[a]∈zd8:=by
       have:∀c∈zmq,c∈zd8:=by decide
       exact this _ h4
      have:=zq1 (p:=jk zd8) (l:=s.drop (a+1)) (c:=s[a]) (by unfold jk;exact decide_eq_true hn)
      have:=rb (jk zd8)
      dsimp only;omega
     ·rename_i h5;exact absurd h h5
    ·rename_i h4
     rw[if_neg h4]at h
     split at h
     ·cases h
     ·rename_i h5
      rw[if_neg h5]
      have:0<Zi (jk y7) (s[a]::s.drop (a+1)):=by
       refine Nat.pos_of_ne_zero λe=>h5 ?_
       rw[e];rfl
      have:=rb (jk y7)
      dsimp only;omega
def Q0:Nat->Bs->Nat->List Tk->List Tk×Nat×Int
 |0,_,a,o=>(o,a,0)
 |f+1,s,a,o=>if a<s.length then(if(Jv s a).2.2=0 then Q0 f s (Jv s a).2.1 (o++[((Jv s a).1,((a:Int),((Jv s a).2.1:Int)))])else([],(Jv s a).2.1,(Jv s a).2.2))else(o,a,0)
def yk(s:Bs):List Tk×Nat×Int:=if 65536<s.length then([],0,3)else Q0 s.length s 0 []
end
section
variable {s:Bs}
abbrev Sp:=Int×Int
abbrev Nd:=Int×Sp×Sp×List Int×List Sp
structure PSt where
 rest:List Tk
 last:Int
 nodes:List Nd
abbrev PR(α:Type):=α ⊕ (Int×Int)
def PSt.kind(st:PSt):Int:=match st.rest with | []=>0|t::_=>t.1
def PSt.here(st:PSt)(n:Nat):Int:=match st.rest with | []=>(n:Int)|t::_=>t.2.1
def PSt.skip(st:PSt):PSt:=match st.rest with | []=>st|t::r=>⟨r,t.2.2,st.nodes⟩
def yb(k:Int):Int:=if k=12 then 1 else if k=10\/k=11 then 2 else if k=9 then 3 else if k=8 then 4 else if k=4 then 5 else if k=2 then 6 else 0
def zs9(k:Int)(p:Sp)(x:Nd):Nd:=(x.1,x.2.1,x.2.2.1,x.2.2.2.1++[k],x.2.2.2.2++[p])
def z4y(t:Int)(x:Nd):Nd:=(x.1,(x.2.1.1,t),x.2.2)
def PSt.addKid(st:PSt)(n:Nat)(k:Int)(p:Sp):PSt:=⟨st.rest,st.last,st.nodes.modify n (zs9 k p)⟩
def PSt.setTo(st:PSt)(n:Nat):PSt:=⟨st.rest,st.last,st.nodes.modify n (z4y st.last)⟩
def PSt.err{α:Type}(st:PSt)(s:Bs)(e:Int):PR α:=.inr (st.here s.length,e)
abbrev zmr:=List Bs->PSt->PR (List Bs×PSt)
def Jw(s:Bs)(n:Nat)(closing:Int)(kid:zmr):Nat->List Bs->PSt->PR PSt
 |0,_,st=>st.err s 2
 |f+1,had,st=>match kid had st with
  |.inr e=>.inr e
  |.inl (had',st')=>
   if st'.kind=closing then .inl (st'.addKid n st.nodes.length (st.last,st'.here s.length)).skip
   else if st'.kind=6 then Jw s n closing kid f had' (st'.addKid n st.nodes.length (st.last,st'.here s.length)).skip
   else st'.err s 2
def Xm(s:Bs)(n:Nat)(closing:Int)(kid:zmr)(st:PSt):PR PSt:=
 if st.kind=closing then .inl st.skip else Jw s n closing kid (st.rest.length+1) [] st
abbrev zkw:=Sp->PSt->PR PSt
def zch(val:zkw):zmr:=λZ st=>match val (0,0) st with
 |.inl st'=>.inl (Z,st')
 |.inr e=>.inr e
def Wr(s:Bs)(p:Sp):Bs:=(s.drop p.1.toNat).take (p.2.toNat-p.1.toNat)
def znm(s:Bs)(val:zkw):zmr:=λZ st=>match st.rest with
 |[]=>st.err s 2
 |t::_=>
  if t.1=8 then
   if(Qs (Wr s t.2)).1∈Z then st.err s 7
   else if st.skip.kind=7 then match val t.2 st.skip.skip with
    |.inl st'=>.inl (Z++[(Qs (Wr s t.2)).1],st')
    |.inr e=>.inr e
   else st.skip.err s 2
  else st.err s 2
def PSt.open(st:PSt)(key:Sp):PSt:=match st.rest with
 |[]=>st
 |t::r=>⟨r,t.2.2,st.nodes++[(yb t.1,t.2,key,[],[])]⟩
def zj7(s:Bs)(val:zkw)(n:Nat)(k:Int)(st:PSt):PR PSt:=
 if k=5 then Xm s n 5 (zch val) st else if k=6 then Xm s n 3 (znm s val) st else .inl st
def Qc(s:Bs):Nat->zkw
 |0,key,st=>if yb st.kind=0 then st.err s 2 else st.err s 5
 |d+1,key,st=>if yb st.kind=0 then st.err s 2 else if st.nodes.length=4096 then st.err s 6 else
  match zj7 s (Qc s d) st.nodes.length (yb st.kind) (st.open key)with
  |.inl st'=>.inl (st'.setTo st.nodes.length)
  |.inr e=>.inr e
def qc(l:List Tk):List Tk:=l.filter λt=>decide (t.1≠1)
def Za(s:Bs):(Bs×List Nd)×Int×Int:=
 if(yk s).2.2=0 then
  match Qc s 32 (0,0) ⟨qc (yk s).1,0,[]⟩with
  |.inl st=>if st.rest=[]then((s,st.nodes),(s.length:Int),0)else(([],[]),st.here s.length,2)
  |.inr e=>(([],[]),e.1,e.2)
 else(([],[]),((yk s).2.1:Int),(yk s).2.2)
def TkW(s:Bs)(t:Tk):Prop:=0<=t.2.1/\t.2.1<t.2.2/\t.2.2<=(s.length:Int)/\(2<=t.1/\t.1<=7->t.2.2=t.2.1+1)
theorem zwf{a:Nat}(ha:a<s.length)(h:2<=(Jv s a).1/\(Jv s a).1<=7):(Jv s a).2.1=a+1:=by
 have hd:s.drop a=s[a]::s.drop (a+1):=Ay ha
 unfold Jv at h ⊢
 rw[hd]at h ⊢
 dsimp only at h ⊢
 have hw:∀l:Bs,Yo l=0\/Yo l=10\/Yo l=11\/Yo l=12:=λl=>by
  unfold Yo
  split
  ·exact .inr (.inl rfl)
  ·split
   ·exact .inr (.inr (.inl rfl))
   ·split
    ·exact .inr (.inr (.inr rfl))
    ·exact .inl rfl
 split
 ·rfl
 ·rename_i h1
  rw[if_neg h1]at h
  split at h
  ·omega
  ·rename_i h2
   split at h
   ·split at h <;> (dsimp only at h;omega)
   ·split at h
    ·split at h <;> (dsimp only at h;omega)
    ·split at h
     ·dsimp only at h;omega
     ·dsimp only at h
      rcases hw ((s[a]::s.drop (a+1)).take (Zi (jk y7) (s[a]::s.drop (a+1))))with e|e|e|e <;> rw[e]at h <;> omega
theorem zq2:∀(f:Nat) (s:Bs) (a:Nat) (o:List Tk),(∀t∈o,TkW s t)->∀t∈(Q0 f s a o).1,TkW s t
 |0,s,a,o,h=>h
 |f+1,s,a,o,h=>by
  rw[Q0]
  split
  ·rename_i ha
   split
   ·rename_i h0
    refine zq2 f s _ _ λt ht=>?_
    rcases Aw.1 ht with ht|ht
    ·exact h t ht
    ·rw[BJ.1 ht]
     have hp:=zgi ha h0
     refine⟨by dsimp only;omega,by dsimp only;omega,by dsimp only;omega,λhk=>?_⟩
     have:=zwf ha hk
     dsimp only;omega
   ·intro t ht;cases ht
  ·exact h
theorem zq3(s:Bs):∀t∈(yk s).1,TkW s t:=by
 unfold yk
 split
 ·intro t ht;cases ht
 ·exact zq2 _ _ _ _ λt ht=>by cases ht
theorem zik{l:List Tk}(h:∀t∈l,TkW s t):∀t∈qc l,TkW s t:=λt ht=>h t (List.mem_filter.1 ht).1
end
section
variable {k:Int} {s:Bs}
def ndW(x:Nd):Nat:=x.2.2.2.1.length+x.2.2.2.2.length
def PSt.T(st:PSt):Nat:=2*st.rest.length+(st.nodes.map ndW).sum
theorem zo0{f:Nd->Nd}{k:Nat}(h:∀x,ndW (f x)<=ndW x+k):∀(l:List Nd) (n:Nat),((l.modify n f).map ndW).sum<=(l.map ndW).sum+k
 |[],n=>by simp
 |x::l,0=>by
  have:=h x
  simp only[List.modify_zero_cons,BZ,List.sum_cons];omega
 |x::l,n+1=>by
  have:=zo0 h l n
  simp only[List.modify_succ_cons,BZ,List.sum_cons];omega
theorem zwg{st:PSt}{x:Nd}(h:x∈st.nodes):ndW x<=st.T:=by
 have:∀(l:List Nd),x∈l->ndW x<=(l.map ndW).sum:=by
  intro l
  induction l with
  |nil=>intro h;cases h
  |cons y l ih=>
   intro h
   rw[BZ,List.sum_cons]
   rcases Ai.1 h with rfl|h
   ·omega
   ·have:=ih h;omega
 have:=this _ h
 unfold PSt.T;omega
theorem zzo(st:PSt)(n:Nat)(k:Int)(p:Sp):(st.addKid n k p).T<=st.T+2:=by
 have:=zo0 (f:=zs9 k p) (k:=2) (λx=>by unfold ndW zs9;simp;omega) st.nodes n
 unfold PSt.T PSt.addKid;dsimp only;omega
theorem z2y(st:PSt)(n:Nat):(st.setTo n).T<=st.T:=by
 have:=zo0 (f:=z4y st.last) (k:=0) (λx=>by unfold ndW z4y;simp) st.nodes n
 unfold PSt.T PSt.setTo;dsimp only;omega
theorem z6r{st:PSt}(h:st.rest≠[]):st.skip.T+2=st.T:=by
 unfold PSt.skip PSt.T
 cases hr:st.rest with
 |nil=>exact absurd hr h
 |cons t r=>simp only[AI];omega
theorem z6s{st:PSt}{key:Sp}(h:st.rest≠[]):(st.open key).T+2=st.T:=by
 unfold PSt.open PSt.T
 cases hr:st.rest with
 |nil=>exact absurd hr h
 |cons t r=>
  simp only[AI,CP,List.sum_append,BZ,D6,List.sum_cons,List.sum_nil,ndW,Cv];omega
theorem qw(st:PSt):st.skip.nodes=st.nodes:=by unfold PSt.skip;split <;> rfl
theorem PSt.ne_kind{st:PSt}(h:st.kind=k)(hk:k≠0):st.rest≠[]:=λe=>by
 unfold PSt.kind at h;rw[e]at h;exact hk h.symm
theorem zey{st:PSt}(h:¬yb st.kind=0):st.rest≠[]:=λe=>by
 refine h ?_
 unfold PSt.kind;rw[e];rfl
theorem zdi(st:PSt)(n:Nat)(k:Int)(p:Sp):(st.addKid n k p).nodes.length=st.nodes.length:=by unfold PSt.addKid;simp
theorem zci(st:PSt)(n:Nat):(st.setTo n).nodes.length=st.nodes.length:=by unfold PSt.setTo;simp
theorem zez{st:PSt}{key:Sp}(h:st.rest≠[]):(st.open key).nodes.length=st.nodes.length+1:=by
 unfold PSt.open
 cases hr:st.rest with
 |nil=>exact absurd hr h
 |cons t r=>simp
structure Okk (st st':PSt) (k:Nat):Prop where
 t:st'.T+k<=st.T
 r:2*st'.rest.length+k<=2*st.rest.length
 w:∀t∈st'.rest,t∈st.rest
 n:st.nodes.length<=st'.nodes.length
 m:st.nodes.length<=4096->st'.nodes.length<=4096
theorem Okk.trans{a b c:PSt}{j k:Nat}(x:Okk a b j)(y:Okk b c k):Okk a c (j+k):=⟨by have:=x.t;have:=y.t;omega,by have:=x.r;have:=y.r;omega,λt h=>x.w t (y.w t h),by have:=x.n;have:=y.n;omega,λh=>y.m (x.m h)⟩
theorem Okk.le{a b:PSt}{j k:Nat}(x:Okk a b j)(h:k<=j):Okk a b k:=⟨by have:=x.t;omega,by have:=x.r;omega,x.w,x.n,x.m⟩
theorem Okk.refl(a:PSt):Okk a a 0:=⟨Ad _,Ad _,λt h=>h,Ad _,id⟩
theorem z0v{st:PSt}(h:st.rest≠[]):st.skip.rest.length+1=st.rest.length:=by
 unfold PSt.skip
 cases hr:st.rest with
 |nil=>exact absurd hr h
 |cons t r=>simp
theorem z6t{st:PSt}{key:Sp}(h:st.rest≠[]):(st.open key).rest.length+1=st.rest.length:=by
 unfold PSt.open
 cases hr:st.rest with
 |nil=>exact absurd hr h
 |cons t r=>simp
theorem z6u(st:PSt):∀t∈st.skip.rest,t∈st.rest:=by
 unfold PSt.skip
 cases hr:st.rest with
 |nil=>simp[hr]
 |cons t r=>intro x hx;exact Ag _ hx
theorem z6v(st:PSt)(key:Sp):∀t∈(st.open key).rest,t∈st.rest:=by
 unfold PSt.open
 cases hr:st.rest with
 |nil=>simp[hr]
 |cons t r=>intro x hx;exact Ag _ hx
theorem Ws{st:PSt}(h:st.rest≠[]):Okk st st.skip 2:=⟨by have:=z6r h;omega,by have:=z0v h;omega,z6u st,by rw[qw];omega,by rw[qw];exact id⟩
def zo1(kid:zmr):Prop:=∀aa st Z st',kid aa st=.inl (Z,st')->Okk st st' 2
theorem Xf{kid:zmr}(hk:zo1 kid){aa Z:List Bs}{st st':PSt}{n:Nat}{p:Sp}(e:kid aa st=.inl (Z,st'))(h:st'.rest≠[]):Okk st (st'.addKid n k p).skip 2:=by
 have a:=hk _ _ _ _ e
 have h2:(st'.addKid n k p).rest≠[]:=h
 have b:=Ws h2
 have c:=zzo st' n k p
 have d:=zdi st' n k p
 have hr:(st'.addKid n k p).rest=st'.rest:=rfl
 exact⟨by have:=a.t;have:=b.t;omega,by have:=a.r;have:=b.r;rw[hr]at this;omega,λt h=>a.w t (b.w t h),by have:=a.n;have:=b.n;omega,λh=>b.m (by have:=a.m h;omega)⟩
theorem zq4{s:Bs}{n:Nat}{closing:Int}(hc:closing≠0){kid:zmr}(hk:zo1 kid):∀(f:Nat) (Z:List Bs) (st st':PSt),Jw s n closing kid f Z st=.inl st'->Okk st st' 2
 |0,Z,st,st',h=>by unfold Jw PSt.err at h;cases h
 |f+1,Z,st,st',h=>by
  rw[Jw]at h
  split at h
  ·cases h
  ·rename_i aa ae e
   split at h
   ·rename_i ab
    cases h
    exact Xf hk e (PSt.ne_kind ab hc)
   ·split at h
    ·rename_i h6
     have a:=Xf hk e (n:=n) (k:=(st.nodes.length:Int)) (p:=(st.last,ae.here s.length)) (PSt.ne_kind h6 (by omega))
     exact(a.trans (zq4 hc hk f aa _ st' h)).le (by omega)
    ·unfold PSt.err at h;cases h
theorem ze0{n:Nat}{closing:Int}(hc:closing≠0){kid:zmr}(hk:zo1 kid){st st':PSt}(h:Xm s n closing kid st=.inl st'):Okk st st' 0:=by
 unfold Xm at h
 split at h
 ·rename_i hx;cases h;exact(Ws (PSt.ne_kind hx hc)).le (by omega)
 ·exact(zq4 hc hk _ _ _ _ h).le (by omega)
def zzp(val:zkw):Prop:=∀key st st',val key st=.inl st'->Okk st st' 2
theorem zj8{val:zkw}(h:zzp val):zo1 (zch val):=by
 intro aa st Z st' e
 unfold zch at e
 split at e
 ·rename_i ab e1;cases e;exact h _ _ _ e1
 ·cases e
theorem zq5{val:zkw}(h:zzp val):zo1 (znm s val):=by
 intro aa st Z st' e
 unfold znm at e
 split at e
 ·unfold PSt.err at e;cases e
 ·rename_i t r hr
  split at e
  ·split at e
   ·unfold PSt.err at e;cases e
   ·split at e
    ·rename_i h7
     split at e
     ·rename_i ab e1
      cases e
      have a:=Ws (st:=st) (by rw[hr];simp)
      have b:=Ws (PSt.ne_kind h7 (by omega))
      exact((a.trans b).trans (h _ _ _ e1)).le (by omega)
     ·cases e
    ·unfold PSt.err at e;cases e
  ·unfold PSt.err at e;cases e
theorem zo2{st:PSt}{key:Sp}(h:st.rest≠[])(h4:¬st.nodes.length=4096):Okk st (st.open key) 2:=⟨by have:=z6s (key:=key) h;omega,by have:=z6t (key:=key) h;omega,z6v st key,by rw[zez h];omega,λh2=>by rw[zez h];omega⟩
theorem zgj(s:Bs):∀d:Nat,zzp (Qc s d)
 |0=>by
  intro key st st' e
  unfold Qc at e
  split at e <;> (unfold PSt.err at e;cases e)
 |d+1=>by
  intro key st st' e
  unfold Qc at e
  split at e
  ·unfold PSt.err at e;cases e
  ·rename_i hk
   split at e
   ·unfold PSt.err at e;cases e
   ·rename_i h4
    split at e
    ·rename_i Z e1
     cases e
     have a:=zo2 (key:=key) (zey hk) h4
     have b:Okk (st.open key) Z 0:=by
      unfold zj7 at e1
      split at e1
      ·exact ze0 (by omega) (zj8 (zgj s d)) e1
      ·split at e1
       ·exact ze0 (by omega) (zq5 (zgj s d)) e1
       ·cases e1;exact Okk.refl _
     have c:Okk Z (Z.setTo st.nodes.length) 0:=⟨z2y _ _,Ad _,λt h=>h,by rw[zci];omega,by rw[zci];exact id⟩
     exact(a.trans b).trans c
    ·cases e
def zwh(s:Bs)(Z:List Bs)(st:PSt):PR (Bs×Sp×PSt):=match st.rest with
 |[]=>st.err s 2
 |t::_=>
  if t.1=8 then
   if(Qs (Wr s t.2)).1∈Z then st.err s 7
   else if st.skip.kind=7 then .inl ((Qs (Wr s t.2)).1,t.2,st.skip.skip)
   else st.skip.err s 2
  else st.err s 2
theorem zj9(s:Bs)(val:zkw)(Z:List Bs)(st:PSt):znm s val Z st=match zwh s Z st with
  |.inl x=>(match val x.2.1 x.2.2 with
   |.inl st'=>.inl (Z++[x.1],st')
   |.inr e=>.inr e)
  |.inr e=>.inr e:=by
 unfold znm zwh PSt.err
 cases st.rest with
 |nil=>rfl
 |cons t r=>
  dsimp only
  by_cases h1:t.1=8
  ·rw[if_pos h1,if_pos h1]
   by_cases h2:(Qs (Wr s t.2)).1∈Z
   ·rw[if_pos h2,if_pos h2]
   ·rw[if_neg h2,if_neg h2]
    by_cases h3:st.skip.kind=7
    ·rw[if_pos h3,if_pos h3] <;> rfl
    ·rw[if_neg h3,if_neg h3]
  ·rw[if_neg h1,if_neg h1]
theorem z0w{Z:List Bs}{st:PSt}{x:Bs×Sp×PSt}(h:zwh s Z st=.inl x):Okk st x.2.2 4/\x.2.2.nodes=st.nodes:=by
 unfold zwh PSt.err at h
 split at h
 ·cases h
 ·rename_i t r hr
  split at h
  ·split at h
   ·cases h
   ·split at h
    ·rename_i h7
     cases h
     have a:=Ws (st:=st) (by rw[hr];simp)
     have b:=Ws (PSt.ne_kind h7 (by omega))
     exact⟨a.trans b,by dsimp only;rw[qw,qw]⟩
    ·cases h
  ·cases h
end
section
variable {lvs:List Nat} {l n lk:Nat} {s:Bs} {closing:Int}
structure GoodN (lvs:List Nat) (nodes:List Nd):Prop where
 len:lvs.length=nodes.length
 lv:∀(k l:Nat),lvs[k]?=some l->1<=l/\l<=32
 kid:∀(k l:Nat) (x:Nd),nodes[k]?=some x->lvs[k]?=some l->∀c∈x.2.2.2.1,∃j:Nat,c=(j:Int)/\k<j/\lvs[j]?=some (l+1)
theorem GoodN.nil:GoodN [] []:=⟨rfl,λk l h=>(by cases h),λk l x h=>(by cases h)⟩
theorem GoodN.push{nodes:List Nd}(G:GoodN lvs nodes)(h1:1<=l)(h2:l<=32){x:Nd}(hx:x.2.2.2.1=[]):GoodN (lvs++[l]) (nodes++[x]):=by
 refine⟨by simp[G.len],λk m h=>?_,λk m y hy hm c hc=>?_⟩
 ·rw[List.getElem?_append]at h
  split at h
  ·exact G.lv k m h
  ·have:=Ba h
   rw[BJ]at this;omega
 ·rw[List.getElem?_append]at hy hm
  have hl:=G.len
  by_cases hk:k<nodes.length
  ·rw[if_pos hk]at hy
   rw[if_pos (by omega)]at hm
   obtain⟨j,e1,e2,e3⟩:=G.kid k m y hy hm c hc
   refine⟨j,e1,e2,?_⟩
   rw[Bw (Au.1 e3).1];exact e3
  ·rw[if_neg hk]at hy
   have:=Ba hy
   rw[BJ]at this
   subst this
   rw[hx]at hc;cases hc
theorem GoodN.mod{nodes:List Nd}(G:GoodN lvs nodes){f:Nd->Nd}(h:∀x l c,lvs[n]?=some l->c∈(f x).2.2.2.1->c∈x.2.2.2.1\/∃j:Nat,c=(j:Int)/\n<j/\lvs[j]?=some (l+1)):GoodN lvs (nodes.modify n f):=by
 refine⟨by rw[List.length_modify];exact G.len,G.lv,λk l x hx hl c hc=>?_⟩
 rw[Bn]at hx
 cases hy:nodes[k]? with
 |none=>rw[hy]at hx;cases hx
 |some y=>
  rw[hy]at hx
  by_cases e:n=k
  ·subst e
   have hx:f y=x:=by simpa using hx
   subst hx
   rcases h y l c hl hc with h|h
   ·exact G.kid n l y hy hl c h
   ·exact h
  ·have hx:y=x:=by simpa[e]using hx
   subst hx
   exact G.kid k l y hy hl c hc
def z8s(kid:zmr)(lk:Nat):Prop:=∀aa st Z st' lvs,kid aa st=.inl (Z,st')->GoodN lvs st.nodes->∃new,GoodN (lvs++lk::new) st'.nodes
theorem zil{s:Bs}{n l:Nat}{closing:Int}{kid:zmr}(hk:z8s kid (l+1)):∀(f:Nat) (Z:List Bs) (st st':PSt) (lvs:List Nat),Jw s n closing kid f Z st=.inl st'->GoodN lvs st.nodes->lvs[n]?=some l->∃new,GoodN (lvs++new) st'.nodes
 |0,Z,st,st',lvs,h,G,hn=>by unfold Jw PSt.err at h;cases h
 |f+1,Z,st,st',lvs,h,G,hn=>by
  rw[Jw]at h
  split at h
  ·cases h
  ·rename_i ai ah e
   obtain⟨new,G1⟩:=hk _ _ _ _ lvs e G
   have aj:=(Au.1 hn).1
   have ae:=G.len
   have ab:(lvs++(l+1)::new)[n]?=some l:=by rw[Bw aj];exact hn
   have aa:(lvs++(l+1)::new)[st.nodes.length]?=some (l+1):=by
    rw[A6 (by omega),<-ae,Nat.sub_self];rfl
   have G2:GoodN (lvs++(l+1)::new) (ah.addKid n st.nodes.length (st.last,ah.here s.length)).skip.nodes:=by
    rw[qw]
    refine G1.mod λx m c hm hc=>?_
    unfold zs9 at hc
    rw[ab]at hm
    cases hm
    rcases Aw.1 hc with h|h
    ·exact .inl h
    ·rw[BJ]at h
     exact .inr ⟨_,h,by omega,aa⟩
   split at h
   ·cases h;exact⟨_,G2⟩
   ·split at h
    ·obtain⟨af,G3⟩:=zil hk f ai _ st' _ h G2 ab
     exact⟨(l+1)::new++af,by rw[<-Bi];exact G3⟩
    ·unfold PSt.err at h;cases h
theorem zim{kid:zmr}(hk:z8s kid (l+1)){st st':PSt}(h:Xm s n closing kid st=.inl st')(G:GoodN lvs st.nodes)(hn:lvs[n]?=some l):∃new,GoodN (lvs++new) st'.nodes:=by
 unfold Xm at h
 split at h
 ·cases h;exact⟨[],by rw[A8,qw];exact G⟩
 ·exact zil hk _ _ _ _ _ h G hn
def z96(val:zkw)(lk:Nat):Prop:=∀key st st' lvs,val key st=.inl st'->GoodN lvs st.nodes->∃new,GoodN (lvs++lk::new) st'.nodes
theorem zwi{val:zkw}(h:z96 val lk):z8s (zch val) lk:=by
 intro ab st Z st' lvs e G
 unfold zch at e
 split at e
 ·rename_i aa e1;cases e;exact h _ _ _ _ e1 G
 ·cases e
theorem zzq{val:zkw}(h:z96 val lk):z8s (znm s val) lk:=by
 intro ae st aa st' lvs e G
 rw[zj9]at e
 split at e
 ·rename_i x hx
  have Z:=(z0w hx).2
  split at e
  ·rename_i ab e1
   cases e
   exact h _ _ _ _ e1 (by rw[Z];exact G)
  ·cases e
 ·cases e
theorem zta{st:PSt}{key:Sp}(h:st.rest≠[]):∃x:Nd,x.2.2.2.1=[]/\(st.open key).nodes=st.nodes++[x]:=by
 unfold PSt.open
 cases hr:st.rest with
 |nil=>exact absurd hr h
 |cons t r=>exact⟨_,rfl,rfl⟩
theorem zq6(s:Bs):∀d:Nat,d<=32->z96 (Qc s d) (33-d)
 |0,_=>by
  intro key st st' lvs e G
  unfold Qc at e
  split at e <;> (unfold PSt.err at e;cases e)
 |d+1,hd=>by
  intro key st st' lvs e G
  have ih:=zq6 s d (by omega)
  rw[show 33-d=33-(d+1)+1 by omega]at ih
  unfold Qc at e
  split at e
  ·unfold PSt.err at e;cases e
  ·rename_i hk
   split at e
   ·unfold PSt.err at e;cases e
   ·split at e
    ·rename_i Z e1
     cases e
     obtain⟨x,ab,aa⟩:=zta (key:=key) (zey hk)
     have G1:GoodN (lvs++[33-(d+1)]) (st.open key).nodes:=by rw[aa];exact G.push (by omega) (by omega) ab
     have hn:(lvs++[33-(d+1)])[st.nodes.length]?=some (33-(d+1)):=by
      rw[<-G.len,A6 (Ad _),Nat.sub_self];rfl
     obtain⟨new,G2⟩:∃new,GoodN (lvs++[33-(d+1)]++new) Z.nodes:=by
      unfold zj7 at e1
      split at e1
      ·exact zim (zwi ih) e1 G1 hn
      ·split at e1
       ·exact zim (zzq ih) e1 G1 hn
       ·cases e1;exact⟨[],by rw[A8];exact G1⟩
     refine⟨new,?_⟩
     rw[Bi]at G2
     exact G2.mod λx l c hl hc=>.inl hc
    ·cases e
def z8t(kid:zmr):Prop:=∀Z st x,kid Z st=.inr x->x.2≠0
def z98(val:zkw):Prop:=∀key st x,val key st=.inr x->x.2≠0
theorem zcj{α:Type}{st:PSt}{e:Int}(he:e≠0){x:Int×Int}(h:(st.err s e:PR α)=.inr x):x.2≠0:=by
 unfold PSt.err at h;cases h;exact he
theorem zwj{s:Bs}{n:Nat}{closing:Int}{kid:zmr}(hk:z8t kid):∀(f:Nat) (Z:List Bs) (st:PSt) (x:Int×Int),Jw s n closing kid f Z st=.inr x->x.2≠0
 |0,Z,st,x,h=>by unfold Jw at h;exact zcj (by omega) h
 |f+1,Z,st,x,h=>by
  rw[Jw]at h
  split at h
  ·rename_i y e;cases h;exact hk _ _ _ e
  ·split at h
   ·cases h
   ·split at h
    ·exact zwj hk f _ _ x h
    ·exact zcj (by omega) h
theorem zwk{kid:zmr}(hk:z8t kid){st:PSt}{x:Int×Int}(h:Xm s n closing kid st=.inr x):x.2≠0:=by
 unfold Xm at h
 split at h
 ·cases h
 ·exact zwj hk _ _ _ _ h
theorem z6w{val:zkw}(h:z98 val):z8t (zch val):=by
 intro Z st x e
 unfold zch at e
 split at e
 ·cases e
 ·rename_i y e1;cases e;exact h _ _ _ e1
theorem z99{val:zkw}(h:z98 val):z8t (znm s val):=by
 intro Z st x e
 unfold znm at e
 split at e
 ·exact zcj (by omega) e
 ·split at e
  ·split at e
   ·exact zcj (by omega) e
   ·split at e
    ·split at e
     ·cases e
     ·rename_i y e1;cases e;exact h _ _ _ e1
    ·exact zcj (by omega) e
  ·exact zcj (by omega) e
theorem z2z(s:Bs):∀d:Nat,z98 (Qc s d)
 |0=>by
  intro key st x e
  unfold Qc at e
  split at e <;> exact zcj (by omega) e
 |d+1=>by
  intro key st x e
  unfold Qc at e
  split at e
  ·exact zcj (by omega) e
  ·split at e
   ·exact zcj (by omega) e
   ·split at e
    ·cases e
    ·rename_i y e1
     cases e
     unfold zj7 at e1
     split at e1
     ·exact zwk (z6w (z2z s d)) e1
     ·split at e1
      ·exact zwk (z99 (z2z s d)) e1
      ·cases e1
theorem zgk(h:(Za s).2.2=0):∃lvs,GoodN (1::lvs) (Za s).1.2/\(Za s).1.1=s/\(Za s).2.1=(s.length:Int)/\(Za s).1.2.length<=4096/\∀x∈(Za s).1.2,ndW x<=2*(yk s).1.length:=by
 have Z:∀{x:Int×Int},Qc s 32 (0,0) ⟨qc (yk s).1,0,[]⟩=.inr x->x.2≠0:=λh=>z2z s 32 _ _ _ h
 unfold Za at h ⊢
 split at h
 ·rename_i h0
  rw[if_pos h0]
  split at h
  ·rename_i st e
   split at h
   ·rename_i hr
    rw[if_pos hr]
    have a:=zgj s 32 _ _ _ e
    obtain⟨new,G⟩:=zq6 s 32 (by omega) _ _ _ [] e GoodN.nil
    refine⟨new,G,rfl,rfl,a.m (by simp),λx hx=>?_⟩
    have h1:=zwg hx
    have h2:=a.t
    have h3:(⟨qc (yk s).1,0,[]⟩:PSt).T=2*(qc (yk s).1).length:=by unfold PSt.T;simp
    have h4:(qc (yk s).1).length<=(yk s).1.length:=List.length_filter_le _ _
    omega
   ·simp at h
  ·rename_i e he
   exact absurd h (Z he)
 ·rename_i h0
  exact absurd h h0
end
section
def zw(t:Bs)(p:Sp):Bs:=if p.1<0\/p.2<p.1\/(t.length:Int)<p.2 then []else Wr t p
theorem Yp(t:Bs)(p:Sp):(zw t p).length<=t.length:=by
 unfold zw Wr
 split
 ·exact CK _
 ·rw[AN,As];omega
def Jx(kind:Int)(t:Bs):Bs:=if kind=2 then t else if kind=3 then Yl (zp t).1 else if kind=4 then(Qs t).1 else []
def ztb(t:Bs)(x:Nd):Bs:=(Qs (zw t x.2.2.1)).1
def zgl(t:Bs)(nodes:List Nd)(c:Int):Bs:=match nodes[c.toNat]? with
 |some x=>ztb t x
 |none=>[]
def wo(t:Bs)(nodes:List Nd):Nat->Nat->Tr
 |0,_=>.mk 0 (bl []) [] []
 |f+1,k=>match nodes[k]? with
  |none=>.mk 0 (bl []) [] []
  |some x=>.mk x.1 (bl (Jx x.1 (zw t x.2.1))) (if x.1=6 then x.2.2.2.1.map λc=>bl (zgl t nodes c)else []) (x.2.2.2.1.map λc=>wo t nodes f c.toNat)
def zej(s:Bs):Tr×Int×Int:=if(Za s).2.2=0 then(wo s (Za s).1.2 33 0,(s.length:Int),0)else(.mk 0 (bl []) [] [],(Za s).2.1,(Za s).2.2)
end
end Go.X
end
section
namespace Go.X
section
theorem zms(v:Tr):Tr.mk v.kind v.text v.keys v.items=v:=by cases v;rfl
theorem zwl{l:List Tr}{k:Nat}(h:k<l.length):l[((k:Int)).toNat]?=some l[k]:=by rw[Ae,Ak h]
end
section
theorem XF{vs:List Value}{f:FuncId}{fn:Func}{h:zb}{R:Value->zb->Prop}{F:Prop}(pl:Plan)(rs:List ResultVar)(n:Nat)(hf:AP.funcs[f]?=some fn)(H:F)(hb:Z2 fn=true:=by kernel_rfl)(hr:fn.results.toList=rs:=by kernel_rfl)(hn:fn.ntmps=n:=by kernel_rfl)(hz:Nat.ble vs.length n=true:=by kernel_rfl)(e:F=W Tp n pl (codeOf fn) (z8h Tp rs R) (zue 0 vs) h:=by kernel_rfl):XC Tp f vs.toArray h R:=zr2 Tryz.mixed pl vs hf hb hr hn hz (Eq.mp e H)
theorem jw(s0:Sl)(ab:FuncId)(aa:Array Value)(Z:Array Value)(h:zb)(R:Value->zb->Prop)
  (H:XC Tp 208 #[slV s0,.func (.func ab) aa Z] h (λb c=>∃d,b=.int .i64 d/\R (.bool (decide (d>=0))) c)):
  XC Tp 132 #[.slice s0.a s0.len s0.cap,.func (.func ab) aa Z] h R:=
 XF ⟨[],[],[]⟩ [.tmp 4] 9 Tryz.func132 H
theorem wy(s0:Sl)(Z:FuncId)(ab:Array Value)(aa:Array Value)(h:zb)(R:Value->zb->Prop)
  (H:∃(b:Int->zb->Prop) (c:Int->zb->Nat),b 0 h/\∀d:Int,∀e:zb,b d e->((decide (d<s0.len)=true->∃f,(s0.a=some f/\0<=d/\d<s0.len)/\∃g,zc e (f.add (d.toNat*1))=some (.string g)/\qa Tp Z=true/\XC Tp Z (ab++#[.string g]++aa) e (λi j=>∃k,i=.bool k/\(k=true->R (.int .i64 d) j)/\(k=false->(b (Aa .i64 (d+1)) j/\c (Aa .i64 (d+1)) j<c d e))))/\(decide (d<s0.len)=false->R (.int .i64 (-1)) e))):
  XC Tp 208 #[.slice s0.a s0.len s0.cap,.func (.func Z) ab aa] h R:=
 XF ⟨[],[(2,[(8,.one (.int .i64))])],[]⟩ [.tmp 4] 19 Tryz.func208 H
theorem zck(s0:Bt)(h:zb)(R:Value->zb->Prop)
  (H:XC Tp 134 #[.string s0] h (λa b=>∃c,a=.bool c/\R (.bool (!c)) b)):
  XC Tp 133 #[.string s0] h R:=
 XF ⟨[],[],[]⟩ [.tmp 2] 6 Tryz.func133 H
theorem zek(Z:Sl)(h:zb)(R:Value->zb->Prop)
  (H:∃b:Value->zb->Prop,(decide ((Z.len:Int)<=64)=true->XC Tp 132 #[slV Z,.func (.func 133) #[] #[]] h (λc d=>∃e,c=.bool e/\b (.bool e) d))/\(decide ((Z.len:Int)<=64)=false->∃f,b (.bool f) h)/\(decide ((Z.len:Int)<=64)=true->∀g i,b g i->∃j,g=.bool j)/\∀k:Bool,∀l,b (.bool k) l->R (.bool (bif (decide ((Z.len:Int)<=64))then(!k)else false)) l):
  XC Tp 70 #[.slice Z.a Z.len Z.cap] h R:=
 XF ⟨[],[],[]⟩ [.tmp 2] 11 Tryz.func70 H
end
section
def Beh(gl:Fr)(F:FuncId)(A C:Array Value)(h:zb)(M:Fr)(t:Ty)(x:El t)(b:Bool):Prop:=
 qa Tp F=true/\∀h' M' u,Later h M h' M'->RdV M' t x u->PX Tp F (A++#[u]++C) h' M' [.bool] (λr=>r=b)
theorem qaa{gl:Fr}{F:FuncId}{A C:Array Value}{h:zb}{M:Fr}(ag:AgM M h){xs:List Bt}{s:Sl}(hr:Rd M (.row .str) xs [slV s]){p:Bt->Bool}(hb:∀x∈xs,Beh gl F A C h M .str x (p x)):
  PX Tp 132 #[slV s,.func (.func F) A C] h M [.bool] (λr=>r=xs.any p):=by
 apply PX.of
 apply jw s F A C
 apply wy s F A C
 obtain⟨af,ah,ai⟩:=rowLen hr
 refine⟨λi h4=>∃k:Nat,i=k/\k<=xs.length/\(∃M4,Later h M h4 M4)/\(xs.take k).any p=false,λi _=>xs.length-i.toNat,⟨0,rfl,by omega,⟨M,Later.refl ag⟩,by simp⟩,?_⟩
 rintro i h4 ⟨k,rfl,hk,⟨M4,L4⟩,aa⟩
 refine⟨λhc=>?_,λhc=>?_⟩
 ·have Z:k<xs.length:=by simp at hc;omega
  refine z6h L4.ag (Rd.mono L4.le hr) Z rfl rfl ⟨(hb _ (AM Z)).1,?_⟩
  refine((hb _ (AM Z)).2 h4 M4 _ L4 (rdStr _)).go λv h5 M5 r L5 ab ae=>⟨r,z4v ab,λhx=>?_,λhx=>?_⟩
  ·refine⟨(k:Int),rfl,M5,_,L4.trans L5,zsw.2 (rdBool _),?_⟩
   have:xs.any p=true:=List.any_eq_true.2 ⟨xs[k],AM Z,by rw[<-ae];exact hx⟩
   rw[this];simp
  ·rw[Zp Z (by omega)]
   refine⟨⟨k+1,rfl,by omega,⟨M5,L4.trans L5⟩,?_⟩,by simp only[Ae];omega⟩
   rw[AH Z,List.any_append,aa]
   simp only[List.any_cons,List.any_nil,<-ae,hx];rfl
 ·have Z:k=xs.length:=by simp at hc;omega
  subst Z
  rw[A5]at aa
  refine⟨-1,rfl,M4,_,L4,zsw.2 (rdBool _),?_⟩
  rw[aa];rfl
end
section
theorem z0x(s:Bt):(s.toList==(⟨#[]⟩:Bt).toList)=(lb s==[]):=by
 have:=zcb (lb s) []
 rw[zjo]at this
 rw[show(⟨#[]⟩:Bt)=bl []from rfl,this,Az];simp
theorem qab(s:Bt)(l:Bs):(s.toList==(bl l).toList)=(lb s==l):=by
 have:=zcb (lb s) l
 rw[zjo]at this
 rw[this,Az];simp
theorem qac{k n:Int}:(k==n)=decide (k=n):=by rw[Az];simp
theorem zo3{l:List Bt}{k:Nat}(h:k<l.length):l[((k:Int)).toNat]?=some l[k]:=by rw[Ae,Ak h]
end
end Go.X
end
section
namespace Go.X
open Go Go.RowKit
section
variable {h h':zb} {bs:List Nat} {v:Tr} {M:Fr} {b o n:Nat} {cs:Array Value} {vs:List Value}
def OKeys(h:zb)(ks:List Bt)(bs:List Nat)(s:Sl):Prop:=
 s.len=ks.length/\ks.length<=140737488355328/\ks.length<=s.cap/\((ks=[]/\bs=[]/\s.cap=0)\/∃b cs,bs=[b]/\s.a=some ⟨b,0,none⟩/\Blk h b cs/\s.cap<=cs.size/\cut cs 0 ks.length=ks.map Di)
inductive OT (h:zb):Tr->List Nat->List Value->Prop where
 |mk {k:Int} {s:Bt} {ks:List Bt} {xs:List Tr} {sk si:Sl} {bk bb:List Nat} {b:Nat} {cs:Array Value} {bf:Nat->List Nat}
  (hk:OKeys h ks bk sk) (hn:si.len=xs.length/\xs.length<=140737488355328/\xs.length<=si.cap)
  (hz:(xs=[]/\bb=[]/\si.cap=0)\/(bb=[b]/\si.a=some ⟨b,0,none⟩/\Blk h b cs/\si.cap*4<=cs.size))
  (hi:∀i (hx:i<xs.length),OT h xs[i] (bf i) (cut cs (i*4) 4))
  (hd:(bk++(bb++(BO xs.length).flatMap bf)).Nodup):
  OT h (.mk k s ks xs) (bk++(bb++(BO xs.length).flatMap bf)) [.int .i64 k,.string s,slV sk,slV si]
theorem OKeys.frame{ks:List Bt}{s:Sl}(H:OKeys h ks bs s)(hf:∀b∈bs,h'[b]?=h[b]?):OKeys h' ks bs s:=by
 obtain⟨h1,h2,h3,h4⟩:=H
 refine⟨h1,h2,h3,h4.imp id ?_⟩
 rintro⟨b,cs,rfl,e1,e2,e3⟩
 exact⟨b,cs,rfl,e1,e2.keep (hf b (by simp)),e3⟩
theorem OT.frame{cells:List Value}(H:OT h v bs cells):(∀b∈bs,h'[b]?=h[b]?)->OT h' v bs cells:=by
 induction H with
 | @mk k s ks xs sk si bk bb b cs bf hk hn hz hi hd ih=>
  intro hf
  refine OT.mk (b:=b) (cs:=cs) (hk.frame λx hx=>hf x (by simp[hx])) hn (hz.imp id ?_) (λi hx=>ih i hx λx Z=>hf x ?_) hd
  ·rintro⟨rfl,e1,e2,e3⟩
   exact⟨rfl,e1,e2.keep (hf b (by simp)),e3⟩
  ·simp only[Aw,Bo,BK]
   exact .inr (.inr ⟨i,hx,Z⟩)
theorem OT.nodup{cells:List Value}(H:OT h v bs cells):bs.Nodup:=by
 cases H with|mk _ _ _ _ hd=>exact hd
theorem OT.lt{cells:List Value}(H:OT h v bs cells):∀b∈bs,b<h.size:=by
 induction H with
 | @mk k s ks xs sk si bk bb b cs bf hk hn hz hi hd ih=>
  intro x hx
  simp only[Aw,Bo,BK]at hx
  rcases hx with hx|hx|⟨i,h1,h2⟩
  ·obtain⟨_,_,_,h4⟩:=hk
   rcases h4 with⟨_,rfl,_⟩|⟨b',cs',rfl,_,e,_⟩
   ·cases hx
   ·simp at hx;subst hx;exact e.lt
  ·rcases hz with⟨_,rfl,_⟩|⟨rfl,_,e,_⟩
   ·cases hx
   ·simp at hx;subst hx;exact e.lt
  ·exact ih i h1 x h2
theorem OT.len{cells:List Value}(H:OT h v bs cells):cells.length=4:=by cases H;rfl
theorem OT.one{cells:List Value}(H:OT h v bs cells):∀c∈cells,c.oneCell'=true:=by
 cases H with
 |mk _ _ _ _ _=>
  intro c hc
  simp at hc
  rcases hc with rfl|rfl|rfl|rfl <;> simp[Value.oneCell',slV]
theorem OT.cells{h:zb}{v:Tr}{bs:List Nat}{cells:List Value}(H:OT h v bs cells):∃sk si:Sl,cells=[.int .i64 v.kind,.string v.text,slV sk,slV si]:=by
 cases H with|mk _ _ _ _ _=>exact⟨_,_,rfl⟩
theorem OT.rd{cells:List Value}(H:OT h v bs cells)(hM:∀b∈bs,∀cs,Blk h b cs->M b=some cs):TrRd M v cells:=by
 induction H with
 | @mk k s ks xs sk si bk bb b cs bf hk hn hz hi hd ih=>
  obtain⟨k1,k2,k3,k4⟩:=hk
  have aa:RowAt M (λs cs=>cs=[.string s]) 1 ks (slV sk):=by
   refine⟨sk.a,sk.cap,by rw[slV,k1],⟨k2,k3⟩,?_⟩
   rcases k4 with⟨h0,_⟩|⟨b',cs',rfl,e1,e2,_,e3⟩
   ·exact .inl h0
   ·refine .inr ⟨b',0,cs',e1,hM b' (by simp) cs' e2,λi hx=>?_⟩
    have:(cut cs' 0 ks.length)[i]?=some (Di ks[i]):=by rw[e3,Cc,Ak hx];rfl
    unfold cut at this ⊢
    rw[AC,if_pos hx,BC]at this
    have Z:=(Au.1 this).1
    rw[AB,Du,Ay Z,Cs,DV]
    rw[Ak Z]at this
    rw[Aq this]
  have ab:slV si=.slice si.a xs.length si.cap:=by rw[slV,hn.1]
  rw[ab]
  refine TrRd.mk (b:=b) (o:=0) (cs:=cs) aa hn.2 (hz.imp (·.1) ?_) λi hx=>?_
  ·rintro⟨rfl,e1,e2,_⟩
   exact⟨e1,hM b (by simp) cs e2⟩
  ·rw[AB]
   exact ih i hx λx ae cs' e=>hM x (by
    simp only[Aw,Bo,BK]
    exact .inr (.inr ⟨i,hx,ae⟩)) cs' e
def MxL(M:Fr)(h:zb)(bs:List Nat):Fr:=λi=>if i∈bs then(match h[i]? with
 |some (.cells cs _ _)=>some cs
 |_=>none)else M i
theorem MxL.ag{M:Fr}{h:zb}(ag:AgM M h)(bs:List Nat):AgM (MxL M h bs) h:=by
 intro b c e
 unfold MxL at e
 split at e
 ·split at e
  ·rename_i cs T m hb
   cases e;exact⟨T,m,hb⟩
  ·cases e
 ·exact ag b c e
theorem MxL.later{h0 h:zb}(ag:AgM M h0)(k:Keep h0.size h0 h)(hb:∀b∈bs,h0.size<=b):Later h0 M h (MxL M h bs) where
 keep:=k
 le:=λb c e=>by
  have:=ag.lt e
  unfold MxL;rw[if_neg (λhm=>by have:=hb b hm;omega)];exact e
 old:=λb hlt=>by unfold MxL;rw[if_neg (λhm=>by have:=hb b hm;omega)]
 ag:=MxL.ag (ag.keep k) bs
theorem MxL.at(hb:b∈bs)(e:Blk h b cs):MxL M h bs b=some cs:=by
 obtain⟨T,e⟩:=e
 unfold MxL;rw[if_pos hb,e]
theorem OT.rdv{cells:List Value}(H:OT h v bs cells):RdV (MxL M h bs) .tree v (.agg cells.toArray):=by
 unfold RdV
 simp only[zls,if_true]
 exact⟨cells,rfl,H.rd λb hb cs e=>MxL.at hb e⟩
def upd(cs:Array Value)(o:Nat)(vs:List Value):Array Value:=(cs.toList.take o++vs++cs.toList.drop (o+vs.length)).toArray
theorem zka(h:o+vs.length<=cs.size):(upd cs o vs).size=cs.size:=by
 unfold upd;simp;omega
theorem zkb(h:o+vs.length<=cs.size)(q:Nat):(upd cs o vs).toList[q]?=if q<o then cs.toList[q]? else if q<o+vs.length then vs[q-o]? else cs.toList[q]?:=by
 unfold upd
 exact Zw (by simpa using h) q
theorem qh{o n i:Nat}:(cut cs o n)[i]?=if i<n then cs.toList[o+i]? else none:=by
 unfold cut
 rw[AC]
 split
 ·rw[AE]
 ·rfl
theorem z3a(h:o+vs.length<=cs.size):cut (upd cs o vs) o vs.length=vs:=by
 apply Bc
 intro i
 rw[qh]
 split
 ·rw[zkb h,if_neg (by omega),if_pos (by omega)];congr 1;omega
 ·rw[BN (by omega)]
theorem ztc{o p n:Nat}(h:o+vs.length<=cs.size)(Z:p+n<=o\/o+vs.length<=p):cut (upd cs o vs) p n=cut cs p n:=by
 apply Bc
 intro i
 rw[qh,qh]
 split
 ·rw[zkb h]
  split
  ·rfl
  ·rw[if_neg (by omega)]
 ·rfl
theorem X0{P:Program}{t:TypeId}(hi:ql P t=true)(H:Blk h b cs){v:Value}(hc:v.cells.toList=vs)(hs:qy P t=vs.length)(hl:o+vs.length<=cs.size)(h1:∀u∈vs,u.oneCell'=true){K:zb->Prop}
  (hK:∀h':zb,Blk h' b (upd cs o vs)->h'.size=h.size->(∀j,j≠b->h'[j]?=h[j]?)->K h'):XRunU P (Aj t (.pointer (some ⟨b,o,none⟩)) v) h K:=by
 intro B d
 obtain⟨T,e⟩:=H
 have Z:v.cells.size=vs.length:=by rw[<-hc];simp
 obtain⟨h',r1,r2,r3,r4⟩:=Y3 (P:=P) hi hs e Z hl (by rw[hc];exact h1) B d
 refine⟨d,h',r1,hK h' ⟨T,?_⟩ r3 r4⟩
 rw[r2]
 unfold upd
 rw[hc]
theorem Blk.ofKeep(H:Blk h b cs)(k:Keep h.size h h'):Blk h' b cs:=H.keepN k H.lt
theorem zgm(ag:AgM M h)(bs:List Nat):Fr.le M (MxL M h bs):=by
 intro b c e
 unfold MxL
 split
 ·obtain⟨T,m,e'⟩:=ag b c e
  rw[e']
 ·exact e
end
end Go.X
end
section
namespace Go.X
section
theorem z3b:ElemT Tp 23 9 (.string ⟨#[]⟩) 1 16:=⟨by kernel_rfl,⟨Tryz.t9,by kernel_rfl,by kernel_rfl,by kernel_rfl,by kernel_rfl⟩,rfl,by omega⟩
theorem zzr:ElemT Tp 24 26 (.agg #[.int .i64 0,.string ⟨#[]⟩,.slice none 0 0,.slice none 0 0]) 4 72:=⟨by kernel_rfl,⟨Tryz.t26,by kernel_rfl,by kernel_rfl,by kernel_rfl,by kernel_rfl⟩,rfl,by omega⟩
theorem Owns.blk{h:zb}{base:Nat}{e:TypeId}{sz:Nat}{s:Sl}{cells:List Value}(H:Owns h base e sz s cells):(s.len=0/\cells=[]/\s.cap=0)\/∃b cs,s.a=some ⟨b,0,none⟩/\base<=b/\Blk h b cs/\s.cap*sz<=cs.size/\cut cs 0 (s.len*sz)=cells/\s.len<=s.cap:=by
 rcases H.2 with⟨hv,h0⟩|⟨g,cap,ab,hv,hb,hg,Z,hm,aa,ht⟩
 ·left
  have:=H.1
  rw[h0,DD]at this
  simp only[Bb]at hv
  exact⟨h0,AR this,hv.2.2⟩
 ·right
  simp only[Bb]at hv
  refine⟨g,ab,hv.1,hb,⟨e,hg⟩,?_,by unfold cut;rw[BC];exact ht,by rw[hv.2.2];exact Z⟩
  rw[aa,hv.2.2];exact Ad _
def zmt(k:Int)(s:Bt)(sk si:Sl):List Value:=[.int .i64 k,.string s,slV sk,slV si]
structure CI (h2 h':zb) (M:Fr) (v:Tr) (b1 b2:Nat) (s1 s2:Sl) (bk bb:List Nat) (b:Nat) (cs:Array Value) (bf:Nat->List Nat) (k:Nat):Prop where
 ag:AgM M h'
 box1:Blk h' b1 (zmt v.kind v.text s1 s2).toArray
 box2:∃c2:Array Value,Blk h' b2 c2/\c2.size=4
 keys:OKeys h' v.keys bk s1
 hz:(v.items=[]/\bb=[]/\s2.cap=0)\/(bb=[b]/\s2.a=some ⟨b,0,none⟩/\Blk h' b cs/\s2.cap*4<=cs.size)
 did:∀i (hx:i<v.items.length),i<k->OT h' v.items[i] (bf i) (cut cs (i*4) 4)
 todo:∀i (hx:i<v.items.length),k<=i->RdV M .tree v.items[i] (.agg (cut cs (i*4) 4).toArray)
 nd:(bk++(bb++(BO k).flatMap bf)).Nodup
 big:∀x∈bk++(bb++(BO k).flatMap bf),h2.size<=x
end
end Go.X
end
section
namespace Go.X
open Go Go.Lib
section
structure PS (l:List Bt):Prop where
 n:l.length<=200
 s:∀x∈l,(lb x).length<=1024
def Wt(l:List Bt):Bool:=decide (l.length<=64)&&l.all λs=>xy (lb s)
end
end Go.X
end
section
namespace Go.X
section
variable {gl:Fr} {R:Tr -> Prop}
theorem zzs{l:List Bt}{R:Bool->Prop}(h:∀b,(b=true->PS l)->R b):PC Tp gl 18 [Arg.mk (.row .str) l] [.bool] R:=by
 apply zal
 refine⟨λi=>∃k:Nat,i=k/\k<=l.length/\k<=300/\∀x∈l.take k,x.size<=1024,λi=>l.length-i.toNat,⟨0,rfl,by omega,by omega,by simp⟩,?_⟩
 rintro i ⟨k,rfl,hk,ab,h1⟩
 refine⟨λhc=>?_,λhc=>h _ λe=>?_⟩
 ·have Z:k<l.length/\k<300:=by simp at hc;omega
  refine⟨l[k],⟨by omega,zo3 Z.1⟩,λ_=>h _ (λe=>by cases e),λhq=>?_⟩
  have aa:l[k].size<=1024:=by simp at hq;omega
  rw[w64 (by omega)]
  refine⟨⟨k+1,by omega,by omega,by omega,?_⟩,by have:=Z.1;simp only[Ae];omega⟩
  rw[AH Z.1]
  intro x hx
  rcases Aw.1 hx with hx|hx
  ·exact h1 x hx
  ·simp at hx;subst hx;exact aa
 ·have e':l.length<=200:=by simp at e;omega
  have Z:k=l.length:=by simp at hc;omega
  subst Z
  rw[A5]at h1
  exact⟨e',λx hx=>by rw[Wl];exact h1 x hx⟩
theorem z6x{l:List Tr}(h:R (.mk 5 ⟨#[]⟩ [] l)):PC Tp gl 29 [Arg.mk (.row .tree) l] [.tree] R:=by
 apply zda;exact h
theorem z6y(hg:GL gl){n:Int}(h1:-1000000<=n)(h2:n<=1000000)(h:R (.mk 3 (bl (Yl (zp (Lib.itoa n)).1)) [] [])):PC Tp gl 58 [Arg.mk (.int .i64) n] [.tree] R:=by
 apply zl9
 refine z9w hg.pow (by omega) (by omega) ?_
 exact zv4 hg.pow (Wp _ (by have:=Go.X.itoa_len n;omega)) h
theorem zwm{gl:Fr}(a b:Tr){R:Bool->Prop}(h:∀r,(r=true↔a=b)->R r):PC Tp gl 16 [Arg.mk .tree a,Arg.mk .tree b] [.bool] R:=by
 refine PC.bd λah=>?_
 have hb:a.keys.length<=140737488355328/\a.items.length<=140737488355328:=ah ⟨.tree,a⟩ (by simp)
 apply zam
 have te:∀s t:Bt,(s.toList==t.toList)=decide (s=t):=λs t=>by
  rw[x6,x6,Az,beq_iff_eq,decide_eq_true_eq];exact zid
 simp only[te]
 refine⟨λhx=>h _ ⟨λe=>(by cases e),λe=>?_⟩,λhx=>?_⟩
 ·subst e;simp at hx
 ·have ai:a.kind=b.kind/\a.text=b.text/\a.keys.length=b.keys.length/\a.items.length=b.items.length:=by
   simp at hx
   obtain⟨⟨⟨h1,h2⟩,h3⟩,h4⟩:=hx
   exact⟨h1,h2,by omega,by omega⟩
  obtain⟨q1,q2,q3,q4⟩:=ai
  refine⟨λi=>∃k:Nat,i=k/\k<=a.keys.length/\a.keys.take k=b.keys.take k,λi=>a.keys.length-i.toNat,⟨0,rfl,by omega,by simp⟩,?_⟩
  rintro i ⟨k,rfl,hk,h1⟩
  refine⟨λhc=>?_,λhc=>?_⟩
  ·have aa:k<a.keys.length:=by simp at hc;omega
   have af:k<b.keys.length:=by omega
   refine⟨a.keys[k],⟨by omega,zo3 aa⟩,b.keys[k],⟨by omega,zo3 af⟩,λhq=>h _ ⟨λe=>(by cases e),λe=>?_⟩,λhq=>?_⟩
   ·subst e;simp at hq
   ·have ab:a.keys[k]=b.keys[k]:=by simpa using hq
    rw[Zp aa (by omega)]
    refine⟨⟨k+1,rfl,by omega,?_⟩,by simp only[Ae];omega⟩
    rw[AH aa,AH af,h1,ab]
  ·have aa:k=a.keys.length:=by simp at hc;omega
   subst aa
   rw[A5,q3,A5]at h1
   refine⟨λi=>∃k:Nat,i=k/\k<=a.items.length/\a.items.take k=b.items.take k,λi=>a.items.length-i.toNat,⟨0,rfl,by omega,by simp⟩,?_⟩
   rintro i ⟨k,rfl,hk,h2⟩
   refine⟨λhd=>?_,λhd=>h _ ⟨λ_=>?_,λ_=>rfl⟩⟩
   ·have Z:k<a.items.length:=by simp at hd;omega
    have ae:k<b.items.length:=by omega
    refine⟨a.items[k],⟨by omega,zwl Z⟩,b.items[k],⟨by omega,zwl ae⟩,?_⟩
    rw[zms,zms]
    have aj:=zqz (AM Z)
    refine zwm a.items[k] b.items[k] λr hr=>⟨λhq=>h _ ⟨λe=>(by cases e),λe=>?_⟩,λhq=>?_⟩
    ·subst e
     rw[hr.2 rfl]at hq;cases hq
    ·have ab:a.items[k]=b.items[k]:=hr.1 (by simpa using hq)
     rw[Zp Z (by omega)]
     refine⟨⟨k+1,rfl,by omega,?_⟩,by simp only[Ae];omega⟩
     rw[AH Z,AH ae,h2,ab]
   ·have Z:k=a.items.length:=by simp at hd;omega
    subst Z
    rw[A5,q4,A5]at h2
    have:=zms a
    rw[q1,q2,h1,h2,zms]at this
    exact this.symm
termination_by tsz a
end
end Go.X
end
section
namespace Go.X
open Go Go.Lib
section
structure IsCmp {α:Type} (c:α->α->Int):Prop where
 rng:∀a b,c a b=-1\/c a b=0\/c a b=1
 eq0:∀a b,c a b=0↔a=b
 swap:∀a b,c b a=-c a b
 tr:∀a b d,c a b<=0->c b d<=0->c a d<=0
end
end Go.X
end
section
namespace Go.X
section
variable {l:List Bt}
structure SL (l:List Bt):Prop where
 n:l.length<=1000000
 s:∀x∈l,(lb x).length<=1048576
theorem PS.sl(h:PS l):SL l:=⟨by have:=h.n;omega,λx hx=>by have:=h.s x hx;omega⟩
theorem zq7{α:Type}{p:α->Bool}{l:List α}{k:Nat}(hk:k<l.length):(l.take (k+1)).all p=((l.take k).all p&&p l[k]):=by
 rw[AH hk,List.all_append,DL,List.all_nil,Bool.and_true]
theorem zwn{gl:Fr}(hl:SL l){R:Bool->Prop}(h:R (Wt l)):PC Tp gl 73 [Arg.mk (.row .str) l] [.bool] R:=by
 have hn:=hl.n
 apply zao
 refine⟨λi=>∃k:Nat,i=k/\k<=l.length/\(l.take k).all (λs=>xy (lb s))=true,λi=>l.length-i.toNat,⟨0,rfl,by omega,by simp⟩,?_⟩
 rintro i ⟨k,rfl,hk,aa⟩
 refine⟨λhc=>?_,λhc=>?_⟩
 ·have Z:k<l.length:=by simp at hc;omega
  refine⟨l[k],⟨by omega,zo3 Z⟩,?_⟩
  have hm:=AM Z
  have hu:=zwc (gl:=gl) (l:=lb l[k]) (R:=λr=>r.2=xy (lb l[k])) (by have:=hl.s _ hm;omega) (λ_=>rfl)
  rw[zjo]at hu
  refine hu.mono λr hr=>⟨λhq=>?_,λhq=>?_⟩
  ·have:Wt l=false:=by
    unfold Wt
    have:l.all (λs=>xy (lb s))=false:=by rw[List.all_eq_false];exact⟨_,hm,by rw[<-hr];simpa using hq⟩
    rw[this,Bool.and_false]
   rw[this]at h;exact h
  ·rw[Zp Z (by omega)]
   refine⟨⟨k+1,rfl,by omega,?_⟩,by simp only[Ae];omega⟩
   rw[zq7 Z,aa,<-hr];simpa using hq
 ·have Z:k=l.length:=by simp at hc;omega
  subst Z
  rw[A5]at aa
  unfold Wt at h
  rw[aa,Bool.and_true]at h
  have:decide ((l.length:Int)<=64)=decide (l.length<=64):=by rw[Az,decide_eq_true_eq,decide_eq_true_eq];omega
  rw[this];exact h
end
end Go.X
end
section
namespace Go.X
open Go Go.Proofs Go.Shelf Go.RowKit
section
def zcl:Go.Shelf.Ren:=⟨fun|169=>87|n=>n,fun|70=>109|9=>9|0=>0|72=>112|37=>110|127=>181|3=>3|5=>5|n=>n,fun|n=>n⟩
theorem zwo:Go.Proofs.Lays.n169 Tp zcl:={
 mixed:=by kernel_rfl
 f169:=LF Tryz.func87
 t0:=Cm
 a0:=De
 z0:=C4
 v0:=Cw
 t3:=BL
 a3:=Cy
 z3:=Cg
 v3:=BS
 t9:=BH
 a9:=Cz
 z9:=Ci
 v9:=BU
 t37:=Tryz.underlying110
 a37:=Tryz.isAgg110
 z37:=Tryz.sizeOf110
 v37:=Tryz.zeroValue110
 t70:=Tryz.underlying109
 a70:=Tryz.isAgg109
 z70:=Tryz.sizeOf109
 v70:=Tryz.zeroValue109
 t72:=Tryz.underlying112
 a72:=Tryz.isAgg112
 z72:=Tryz.sizeOf112
 v72:=Tryz.zeroValue112
 t127:=Tryz.underlying181
 a127:=Tryz.isAgg181
 z127:=Tryz.sizeOf181
 v127:=Tryz.zeroValue181 }
theorem zay:Builder.Extra Tp zcl:={
 sizeBuilder:=by kernel_rfl
 liesBuilder:=by kernel_rfl
 t5:=BV
 a5:=CN
 z5:=Cr
 v5:=BX
 infoByte:=by kernel_rfl
 cellsByte:=by kernel_rfl
 sizeByte:=by kernel_rfl
 neB5:=by decide }
theorem Xn(B b:Nat)(l:List UInt8)(w:World)(h:Lib.IsBuilder 112 5 B b (Lib.byteCells l) w)(Z:B<=w.heap.size):
  Calls Tp 87 #[.pointer (some ⟨b,0,none⟩)] w λe w'=>e=.returned (.string ⟨l.toArray⟩)/\Below B w w':=Any.Builder_String_any zwo zay B b l w h Z
def zkc:Go.Shelf.Ren:=⟨fun|153=>265|152=>269|226=>293|227=>143|228=>214|137=>212|119=>300|224=>301|225=>302|217=>268|266=>299|n=>n,fun|9=>9|3=>3|4=>4|5=>5|21=>21|117=>170|116=>169|0=>0|46=>177|124=>173|n=>n,fun|n=>n⟩
theorem zwp:Go.Proofs.Lays.n153 Tp zkc:={
 mixed:=by kernel_rfl
 f119:=LF Tryz.func300
 f137:=LF DX
 f152:=LF Tryz.func269
 f153:=LF Tryz.func265
 f217:=LF Tryz.func268
 f224:=LF Tryz.func301
 f225:=LF Tryz.func302
 f226:=LF Tryz.func293
 f227:=LF Tryz.func143
 f228:=LF Tryz.func214
 f266:=LF Tryz.func299
 t0:=Cm
 a0:=De
 z0:=C4
 v0:=Cw
 t3:=BL
 a3:=Cy
 z3:=Cg
 v3:=BS
 t4:=BP
 a4:=CM
 z4:=Cq
 v4:=BW
 t5:=BV
 a5:=CN
 z5:=Cr
 v5:=BX
 t9:=BH
 a9:=Cz
 z9:=Ci
 v9:=BU
 t21:=CO
 a21:=DF
 z21:=Dm
 v21:=CX
 t46:=Tryz.underlying177
 a46:=Tryz.isAgg177
 z46:=Tryz.sizeOf177
 v46:=Tryz.zeroValue177
 t116:=Tryz.underlying169
 a116:=Tryz.isAgg169
 z116:=Tryz.sizeOf169
 t117:=Tryz.underlying170
 a117:=Tryz.isAgg170
 z117:=Tryz.sizeOf170
 v117:=Tryz.zeroValue170
 t124:=Tryz.underlying173
 a124:=Tryz.isAgg173
 z124:=Tryz.sizeOf173
 v124:=Tryz.zeroValue173 }
open Go.RowKit Go.Lib in
theorem Jm(ab:∀w,(zeroValue 169).run Tp w=.ok (.agg (Be 256 (.bool false))) w)(s Z:Bt)(w:World)(h2:2<=Z.size)(h8:8<s.size)(hs:s.size<4294967281)(ae:Z.size<4294967281)(aa:∀(j:Nat) b,Z.data.toList[j]?=some b->b.toNat<128):
  Calls Tp 265 #[.string s,.string Z] w λe w'=>e=.returned (.int .i64 (Lib.indexAny s.data.toList Z.data.toList))/\w'=((w.alloc (.cells (Lib.setCells Z.data.toList) 169)).alloc (.cells (Lib.setCells Z.data.toList) 169)):=Any.strings_IndexAny_long zwp ab (by kernel_rfl) s Z w h2 h8 hs ae aa
end
end Go.X
end
section
namespace Go.X
open Go Go.X Go.Proofs Go.RowKit
section
variable {h h':zb} {b:Nat} {l:Bs} {cs:Array Value} {s:Sl} {K:Value -> zb -> Prop}
def Bld(h:zb)(b:Nat)(l:Bs):Prop:=∃(p:Option Addr) (s:Sl),h[b]?=some (.cells #[.pointer p,slV s] 112 (0,0))/\(p=none\/p=some ⟨b,0,none⟩)/\Owns h (b+1) 5 1 s (Lib.byteCells l)
theorem Bld.lt(H:Bld h b l):b<h.size:=by
 obtain⟨p,s,e,_⟩:=H
 rcases AF b h.size with q|q
 ·exact q
 ·rw[Array.getElem?_eq_none q]at e;cases e
theorem Bld.keep(H:Bld h b l)(k:Keep h.size h h'):Bld h' b l:=by
 have Z:=H.lt
 obtain⟨p,s,e,hp,ho⟩:=H
 exact⟨p,s,by rw[k.get b Z];exact e,hp,ho.keepN k⟩
theorem Bld.new(h:zb):Bld (h.push (.cells #[.pointer none,.slice none 0 0] 112)) h.size []:=
 ⟨none,⟨none,0,0⟩,Zn _ _,.inl rfl,Owns.nil _ _ _ _⟩
theorem zwq:(AP.info? 112).map (·.size)=some 2:=by kernel_rfl
theorem z3c:liesAt Tp AP.depth 112 (2 / AP.cellsOf 112) 0 112 1=true:=by kernel_rfl
theorem zwr:AP.underlying 109=some (.pointer 112):=by kernel_rfl
theorem zws:AP.underlying 234=some .unsafePointer:=by kernel_rfl
set_option maxHeartbeats 1000000 in
set_option maxRecDepth 100000 in
theorem ztd(b:Nat)(w:World)(h0:w.cell? ⟨b,0,none⟩=some (.pointer (some ⟨b,0,none⟩))):
  Calls Tp 152 #[.pointer (some ⟨b,0,none⟩)] w λe w'=>e=.returned (.tuple #[])/\w'=w:=by
 obtain⟨j,hj,_⟩:=Co.1 zwq
 have mixed:=Tryz.mixed
 go_enter Tryz.func152,Tryz.ntmps152
 go_wp2
 rw[Lib.run_neq_ptr_same w _ zwr hj]
 go_wp2
 go_end0
 exact⟨rfl,rfl⟩
set_option maxHeartbeats 1000000 in
set_option maxRecDepth 100000 in
theorem zo4(b:Nat)(w:World)(h0:w.cell? ⟨b,0,none⟩=some (.pointer none))(Z:w.shape? b=some (112,2))(ab:w.frozen? ⟨b,0,none⟩=false):
  Calls Tp 152 #[.pointer (some ⟨b,0,none⟩)] w λe w'=>e=.returned (.tuple #[])/\w'=w.setCell ⟨b,0,none⟩ (.pointer (some ⟨b,0,none⟩)):=by
 obtain⟨j,hj,aa⟩:=Co.1 zwq
 have mixed:=Tryz.mixed
 go_enter Tryz.func152,Tryz.ntmps152
 go_wp2
 rw[Lib.run_to_unsafe w ⟨b,0,none⟩ zwr zws hj (by rw[aa];decide) Z (Nat.zero_lt_succ 1)]
 simp only[Result.andThen]
 rw[Oper.upon_value]
 go_wp2
 rw[run_callFunc_extern Tryz.func219 (by kernel_rfl) (by kernel_rfl) (by kernel_rfl) (e:=Extern.AbiNoEscape.same) (by kernel_rfl)]
 rw[Lib.run_noEscape]
 simp only[Result.andThen]
 rw[Oper.upon_value]
 go_wp2
 rw[Lib.run_from_unsafe w ⟨b,0,none⟩ zws zwr hj Z z3c]
 simp only[Result.andThen]
 rw[Oper.upon_value]
 go_wp2
 go_end0
 exact⟨rfl,rfl⟩
theorem zte{b o:Nat}{T:TypeId}(e:h[b]?=some (.cells cs T (0,0)))(v:Value)(B:World)(d:Nat):(mk B d h).setCell ⟨b,o,none⟩ v=mk B d (h.setIfInBounds b (.cells (cs.setIfInBounds o v) T (0,0))):=by
 unfold World.setCell mk
 simp only
 congr 1
 have hb:b<h.size:=(Ac.1 e).1
 apply Array.ext_getElem?
 intro i
 rw[Array.getElem?_modify]
 by_cases hi:i=b
 ·subst hi
  have e':h[i]=.cells cs T (0,0):=by
   have:=AJ hb
   rw[e]at this
   exact(Aq this).symm
  simp[hb,e']
 ·rw[if_neg (Ne.symm hi),AO (Ne.symm hi)]
theorem Keep.ne(hs:h'.size=h.size)(hf:∀i,i≠b->h'[i]?=h[i]?):Keep b h h':=⟨by omega,λi hi=>hf i (by omega)⟩
def Itk(h h':zb):Prop:=∀(i:Nat) (s:Bt) (p:Nat),h[i]?=some (.stringIter s p)->h'[i]?=some (.stringIter s p)
theorem Itk.trans{a b c:zb}(x:Itk a b)(y:Itk b c):Itk a c:=λi s p e=>y i s p (x i s p e)
theorem Itk.keep(k:Keep h.size h h'):Itk h h':=λi s p e=>by
 have hi:i<h.size:=(Ac.1 e).1
 rw[k.get i hi];exact e
theorem Itk.ne{T:TypeId}{m:Nat×Nat}(e:h[b]?=some (.cells cs T m))(f:∀i,i≠b->h'[i]?=h[i]?):Itk h h':=λi s p ei=>by
 by_cases hi:i=b
 ·subst hi;rw[e]at ei;cases ei
 ·rw[f i hi];exact ei
theorem Itk.own{base:Nat}{e:TypeId}{sz:Nat}{xs:List Value}(H:Owns h base e sz s xs)(f:∀i,i<h.size->(∀p,s.a=some p->i≠p.block)->h'[i]?=h[i]?):Itk h h':=λi t p ei=>by
 have hi:i<h.size:=(Ac.1 ei).1
 rw[f i hi λq hq Z=>?_]
 ·exact ei
 ·rcases H.2 with⟨hv,_⟩|⟨g,cap,aa,hv,_,hg,_⟩
  ·rw[hq]at hv;cases hv
  ·have hg:h[g]?=some (.cells aa e (0,0)):=hg
   rw[hq]at hv
   injection hv with e1 _ _
   injection e1 with e1
   rw[Z,e1]at ei
   rw[hg]at ei;cases ei
theorem chk(H:Bld h b l)(hK:∀h',Bld h' b l->Keep b h h'->h'.size=h.size->Itk h h'->K (.tuple #[]) h'):XC Tp 152 #[.pointer (some ⟨b,0,none⟩)] h K:=by
 have aa:=H.lt
 obtain⟨p,s,e,hp,ho⟩:=H
 have Z:∀B d,(mk B d h).cell? ⟨b,0,none⟩=some (.pointer p):=λB d=>by
  have:(mk B d h).heap[b]?=some (.cells #[.pointer p,slV s] 112 (0,0)):=e
  simp[World.cell?,this]
 rcases hp with rfl|rfl
 ·refine XC.of_calls λB d=>(zo4 b (mk B d h) (Z B d) ?_ ?_).mono ?_
  ·have:(mk B d h).heap[b]?=some (.cells #[.pointer none,slV s] 112 (0,0)):=e
   simp[World.shape?,this]
  ·exact zhr ⟨_,e⟩ B d
  ·rintro e' w' ⟨rfl,rfl⟩
   rw[zte e]
   refine⟨_,rfl,rfl,rfl,rfl,?_⟩
   show K _ (h.setIfInBounds b _)
   refine hK _ ⟨_,s,?_,.inr rfl,?_⟩ ?_ (by simp) (Itk.ne e λi hi=>AO (Ne.symm hi))
   ·rw[Array.getElem?_setIfInBounds_self_of_lt aa];rfl
   ·refine ho.keep λq hq=>?_
    have:=ho.base_le q hq
    rw[AO (by omega)]
   ·exact Keep.setBlk _ (Ad _)
 ·refine XC.of_calls λB d=>(ztd b (mk B d h) (Z B d)).mono ?_
  rintro e' w' ⟨rfl,rfl⟩
  exact⟨_,rfl,rfl,rfl,rfl,hK _ ⟨_,s,e,.inr rfl,ho⟩ (Keep.refl _ _) rfl (Itk.keep (Keep.refl _ _))⟩
theorem elemU8:ElemT Tp 110 5 (.int .u8 0) 1 1:=⟨by kernel_rfl,⟨Tryz.t5,by kernel_rfl,by kernel_rfl,by kernel_rfl,by kernel_rfl⟩,rfl,by omega⟩
theorem qbk:AP.underlying 9=some .string:=by kernel_rfl
theorem z3d:ql Tp 110=true:=by kernel_rfl
theorem z3e:qy Tp 110=1:=by kernel_rfl
theorem z6z{p:Option Addr}{s s0:Sl}(e:h[b]?=some (.cells #[.pointer p,slV s0] 112 (0,0)))(hp:p=none\/p=some ⟨b,0,none⟩)(ho:Owns h (b+1) 5 1 s (Lib.byteCells l)){K:zb->Prop}
  (hK:∀h',Bld h' b l->Keep b h h'->h'.size=h.size->Itk h h'->K h'):XRunU Tp (Aj 110 (.pointer (some ⟨b,1,none⟩)) (.slice s.a s.len s.cap)) h K:=by
 intro B d
 obtain⟨h',r1,r2,r3,r4⟩:=Y3 (P:=Tp) z3d z3e e (o:=1) (v:=slV s) rfl (by simp) (by simp[slV,Value.cells,Value.oneCell']) B d
 refine⟨d,h',r1,hK h' ⟨p,s,?_,hp,?_⟩ (Keep.ne r3 r4) r3 (Itk.ne e r4)⟩
 ·rw[r2];rfl
 ·refine ho.keep λq hq=>?_
  have:=ho.base_le q hq
  exact r4 _ (by omega)
theorem zzt(H:Bld h b l)(hK:∀h',Keep b h h'->K (.string (bl l)) h'):XC Tp 87 #[.pointer (some ⟨b,0,none⟩)] h K:=by
 have aa:=H.lt
 obtain⟨p,s,e,hp,ho⟩:=H
 refine XC.of_calls λB d=>(Xn b b l (mk B d h) ?_ (Nat.le_of_lt aa)).mono ?_
 ·have hb:Lib.BuilderAt 112 5 b b (.pointer p) (Lib.byteCells l) (mk B d h):=by
   refine⟨Ad _,slV s,e,?_,?_⟩
   ·have h1:=ho.1
    rw[Du]at h1
    rw[h1]
    exact ho.base (Nat.le_succ b)
   ·intro hq
    cases ha:s.a with
    |none=>rw[slV,ha]at hq;cases hq
    |some q=>
     have:=ho.base_le q ha
     rw[slV,ha]at hq
     have:q.block=b:=by simpa[Value.ownBlock]using hq
     omega
  rcases hp with rfl|rfl
  ·exact .inl hb
  ·exact .inr hb
 ·rintro e' w' ⟨rfl,Z⟩
  exact⟨_,rfl,Z.os,Z.tape,Z.output,hK _ ⟨Z.size,Z.block⟩⟩
end
end Go.X
end
section
namespace Go.X
section
theorem zkd(s0:Bt)(h:zb)(R:Value->zb->Prop)
  (H:let b:=h.push (.cells #[.string (⟨#[]⟩:Bt),.slice none 0 0] 36);XC Tp 60 #[.string s0] b (λc d=>∃e f g,c=.tuple #[slV e,.int .i64 f,.int .i64 g]/\((g != 0)=true->XRunU Tp (Aj 36 (.pointer (some ⟨h.size,0,none⟩)) (.agg #[.string (⟨#[]⟩:Bt),.slice none 0 0])) d (λi=>∃j k,zh i ⟨h.size,0,none⟩ 0 [.string j,slV k]/\R (.tuple #[.agg #[.string j,slV k],.int .i64 f,.int .i64 g]) i))/\((g != 0)=false->let l:=d.push (.cells #[.string s0,.slice none 0 0,.int .i64 0,.int .i64 0,.slice none 0 0,.int .i64 0,.int .i64 0] 88);∃(m:Int->zb->Prop) (n:Int->zb->Nat),m 0 l/\∀o:Int,∀p:zb,m o p->((decide (o<e.len)=true->∃q,(e.a=some q/\0<=o/\o<e.len)/\∃r s t,zh p (q.add (o.toNat*3)) 0 [.int .i64 r,.int .i64 s,.int .i64 t]/\let u:=p.push (.cells #[.int .i64 0,.int .i64 0,.int .i64 0] 90);XRunU Tp (Aj 90 (.pointer (some ⟨p.size,0,none⟩)) (.agg #[.int .i64 r,.int .i64 s,.int .i64 t])) u (λv=>∃w,zc v (Af ⟨p.size,0,none⟩ 0)=some (.int .i64 w)/\((w != 1)=true->∃x,some ⟨d.size,0,none⟩=some x/\∃y,zc v (Af x 1)=some (slV y)/\∃z A B,zh v ⟨p.size,0,none⟩ 0 [.int .i64 z,.int .i64 A,.int .i64 B]/\let C:=v.push (.cells #[.int .i64 z,.int .i64 A,.int .i64 B] 90);(C)[((Af x 1):Addr).block]?=(v)[((Af x 1):Addr).block]?/\XRun Tp (AD #[83,83] 83 #[slV y,.slice (some ⟨v.size,0,none⟩) 1 1]) C (λD E=>∃F,D=slV F/\∃G,some ⟨d.size,0,none⟩=some G/\XRunU Tp (Aj 83 (.pointer (some (Af G 1))) (slV F)) E (λI=>(m (Aa .i64 (o+1)) I/\n (Aa .i64 (o+1)) I<n o p))))/\((w != 1)=false->(m (Aa .i64 (o+1)) v/\n (Aa .i64 (o+1)) v<n o p))))/\(decide (o<e.len)=false->XC Tp 61 #[.pointer (some ⟨d.size,0,none⟩),.int .i64 1,.agg #[.int .i64 0,.int .i64 0]] p (λJ L=>∃M,J=.bool M/\∀N:Bool->zb->Prop,(∀O:Bool,∀P:zb,(((!O)=true->∃Q,some ⟨d.size,0,none⟩=some Q/\∃S,zc P (Af Q 5)=some (.int .i64 S)/\∃T,some ⟨d.size,0,none⟩=some T/\∃U,zc P (Af T 6)=some (.int .i64 U)/\(P)[((Af T 6):Addr).block]?=(P)[((Af T 6):Addr).block]?/\(P)[((Af Q 5):Addr).block]?=(P)[((Af Q 5):Addr).block]?/\XRunU Tp (Aj 36 (.pointer (some ⟨h.size,0,none⟩)) (.agg #[.string (⟨#[]⟩:Bt),.slice none 0 0])) P (λV=>(V)[((Af T 6):Addr).block]?=(P)[((Af T 6):Addr).block]?/\(V)[((Af Q 5):Addr).block]?=(P)[((Af Q 5):Addr).block]?/\(V)[((Af T 6):Addr).block]?=(P)[((Af T 6):Addr).block]?/\∃W X,zh V ⟨h.size,0,none⟩ 0 [.string W,slV X]/\R (.tuple #[.agg #[.string W,slV X],.int .i64 S,.int .i64 U]) V))/\((!O)=false->∃Y,some ⟨d.size,0,none⟩=some Y/\∃Z,zc P (Af Y 4)=some (slV Z)/\XRunU Tp (Aj 36 (.pointer (some ⟨h.size,0,none⟩)) (.agg #[.string s0,slV Z])) P (λaa=>∃ab ac,zh aa ⟨h.size,0,none⟩ 0 [.string ab,slV ac]/\R (.tuple #[.agg #[.string ab,slV ac],.int .i64 (s0.size:Int),.int .i64 0]) aa)))->N O P)->∃ad,(M=true->some ⟨d.size,0,none⟩=some ad)/\∃ae,(M=true->zc L (Af ad 1)=some (slV ae))/\((bif M then(decide ((ae.len:Int)>0))else false)=true->XC Tp 62 #[.pointer (some ⟨d.size,0,none⟩),.int .i64 2] L (λaf ag=>∃ah,af=.bool ah/\N ah ag))/\((bif M then(decide ((ae.len:Int)>0))else false)=false->N M L))))))):
  XC Tp 19 #[.string s0] h R:=
 XF ⟨[(9,8000),(15,8000)],[(6,[(28,.one (.int .i64))])],[(14,[(11,.one (.bool))])]⟩ [.cell 2 36,.tmp 3,.tmp 4] 79 Tryz.func19 H
theorem zaz(s0:Bt)(h:zb)(R:Value->zb->Prop)
  (H:let b:=h.push (.cells #[.string (⟨#[]⟩:Bt),.slice none 0 0] 36);XC Tp 63 #[.string s0] b (λc d=>∃e f g,c=.tuple #[slV e,.int .i64 f,.int .i64 g]/\((g != 0)=true->XRunU Tp (Aj 36 (.pointer (some ⟨h.size,0,none⟩)) (.agg #[.string (⟨#[]⟩:Bt),.slice none 0 0])) d (λi=>∃j k,zh i ⟨h.size,0,none⟩ 0 [.string j,slV k]/\R (.tuple #[.agg #[.string j,slV k],.int .i64 f,.int .i64 g]) i))/\((g != 0)=false->let l:=d.push (.cells #[.string s0,.slice none 0 0,.int .i64 0,.slice none 0 0,.int .i64 0,.int .i64 0] 95);∃(m:Int->zb->Prop) (n:Int->zb->Nat),m 0 l/\∀o:Int,∀p:zb,m o p->((decide (o<e.len)=true->∃q,(e.a=some q/\0<=o/\o<e.len)/\∃r,zc p (Af (q.add (o.toNat*3)) 0)=some (.int .i64 r)/\((r != 1)=true->∃s,some ⟨d.size,0,none⟩=some s/\∃t,zc p (Af s 1)=some (slV t)/\∃u,(e.a=some u/\0<=o/\o<e.len)/\∃v w x,zh p (u.add (o.toNat*3)) 0 [.int .i64 v,.int .i64 w,.int .i64 x]/\let y:=p.push (.cells #[.int .i64 v,.int .i64 w,.int .i64 x] 90);(y)[((Af s 1):Addr).block]?=(p)[((Af s 1):Addr).block]?/\XRun Tp (AD #[83,83] 83 #[slV t,.slice (some ⟨p.size,0,none⟩) 1 1]) y (λz A=>∃B,z=slV B/\∃C,some ⟨d.size,0,none⟩=some C/\XRunU Tp (Aj 83 (.pointer (some (Af C 1))) (slV B)) A (λD=>(m (Aa .i64 (o+1)) D/\n (Aa .i64 (o+1)) D<n o p))))/\((r != 1)=false->(m (Aa .i64 (o+1)) p/\n (Aa .i64 (o+1)) p<n o p)))/\(decide (o<e.len)=false->XC Tp 64 #[.pointer (some ⟨d.size,0,none⟩),.int .i64 1,.agg #[.int .i64 0,.int .i64 0]] p (λE F=>∃G,E=.bool G/\∀I:Bool->zb->Prop,(∀J:Bool,∀L:zb,(((!J)=true->∃M,some ⟨d.size,0,none⟩=some M/\∃N,zc L (Af M 4)=some (.int .i64 N)/\∃O,some ⟨d.size,0,none⟩=some O/\∃P,zc L (Af O 5)=some (.int .i64 P)/\(L)[((Af O 5):Addr).block]?=(L)[((Af O 5):Addr).block]?/\(L)[((Af M 4):Addr).block]?=(L)[((Af M 4):Addr).block]?/\XRunU Tp (Aj 36 (.pointer (some ⟨h.size,0,none⟩)) (.agg #[.string (⟨#[]⟩:Bt),.slice none 0 0])) L (λQ=>(Q)[((Af O 5):Addr).block]?=(L)[((Af O 5):Addr).block]?/\(Q)[((Af M 4):Addr).block]?=(L)[((Af M 4):Addr).block]?/\(Q)[((Af O 5):Addr).block]?=(L)[((Af O 5):Addr).block]?/\∃S T,zh Q ⟨h.size,0,none⟩ 0 [.string S,slV T]/\R (.tuple #[.agg #[.string S,slV T],.int .i64 N,.int .i64 P]) Q))/\((!J)=false->∃U,some ⟨d.size,0,none⟩=some U/\∃V,zc L (Af U 3)=some (slV V)/\XRunU Tp (Aj 36 (.pointer (some ⟨h.size,0,none⟩)) (.agg #[.string s0,slV V])) L (λW=>∃X Y,zh W ⟨h.size,0,none⟩ 0 [.string X,slV Y]/\R (.tuple #[.agg #[.string X,slV Y],.int .i64 (s0.size:Int),.int .i64 0]) W)))->I J L)->∃Z,(G=true->some ⟨d.size,0,none⟩=some Z)/\∃aa,(G=true->zc F (Af Z 2)=some (.int .i64 aa))/\∃ab,(G=true->some ⟨d.size,0,none⟩=some ab)/\∃ac,(G=true->zc F (Af ab 1)=some (slV ac))/\((bif G then(decide (aa<ac.len))else false)=true->XC Tp 65 #[.pointer (some ⟨d.size,0,none⟩),.int .i64 2] F (λad ae=>∃af,ad=.bool af/\I af ae))/\((bif G then(decide (aa<ac.len))else false)=false->I G F))))))):
  XC Tp 20 #[.string s0] h R:=
 XF ⟨[(9,8000),(14,8000)],[(6,[(9,.one (.int .i64))])],[(13,[(10,.one (.bool))])]⟩ [.cell 2 36,.tmp 3,.tmp 4] 87 Tryz.func20 H
theorem zcm(b:Bt)(c:Sl)(k1:Int)(h:zb)(R:Value->zb->Prop)
  (H:let d:=h.push (.cells #[.string b,slV c] 36);let e:=d.push (.cells #[.int .i64 0,.string (⟨#[]⟩:Bt),.slice none 0 0,.slice none 0 0] 26);∃f,zc e (Af ⟨h.size,0,none⟩ 1)=some (slV f)/\∃g,(f.a=some g/\0<=k1/\k1<f.len)/\∃i j k l m n o,zh e (g.add (k1.toNat*7)) 0 [.int .i64 i,.int .i64 j,.int .i64 k,.int .i64 l,.int .i64 m,slV n,slV o]/\let p:=e.push (.cells #[.int .i64 0,.int .i64 0,.int .i64 0,.int .i64 0,.int .i64 0,.slice none 0 0,.slice none 0 0] 62);XRunU Tp (Aj 62 (.pointer (some ⟨e.size,0,none⟩)) (.agg #[.int .i64 i,.int .i64 j,.int .i64 k,.int .i64 l,.int .i64 m,slV n,slV o])) p (λq=>∃r s,zh q ⟨h.size,0,none⟩ 0 [.string r,slV s]/\∃t u,zh q (Af ⟨e.size,0,none⟩ 1) 0 [.int .i64 t,.int .i64 u]/\XC Tp 66 #[.agg #[.string r,slV s],.agg #[.int .i64 t,.int .i64 u]] q (λv w=>∃x,v=.string x/\∃y,zc w (Af ⟨e.size,0,none⟩ 0)=some (.int .i64 y)/\let z:=w.push (.cells #[.int .i64 0,.string (⟨#[]⟩:Bt),.slice none 0 0,.slice none 0 0] 26);XRunU Tp (Aj 26 (.pointer (some ⟨w.size,0,none⟩)) (.agg #[.int .i64 y,.string (⟨#[]⟩:Bt),.slice none 0 0,.slice none 0 0])) z (λA=>∀B:zb->Prop,(∀C:zb,(∃(D:Int->zb->Prop) (E:Int->zb->Nat),D 0 C/\∀F:Int,∀G:zb,D F G->(∃I,zc G (Af ⟨e.size,0,none⟩ 5)=some (slV I)/\(decide (F<I.len)=true->∀J:zb->Prop,(∀L:zb,(∃M,zc L (Af ⟨w.size,0,none⟩ 3)=some (slV M)/\∃N O,zh L ⟨h.size,0,none⟩ 0 [.string N,slV O]/\∃P,zc L (Af ⟨e.size,0,none⟩ 5)=some (slV P)/\∃Q,(P.a=some Q/\0<=F/\F<P.len)/\∃S,zc L (Q.add (F.toNat*1))=some (.int .i64 S)/\XC Tp 22 #[.agg #[.string N,slV O],.int .i64 S] L (λT U=>∃V W X Y,T=.agg #[.int .i64 V,.string W,slV X,slV Y]/\(U)[((Af ⟨w.size,0,none⟩ 3):Addr).block]?=(L)[((Af ⟨w.size,0,none⟩ 3):Addr).block]?/\let Z:=U.push (.cells #[.int .i64 V,.string W,slV X,slV Y] 26);(Z)[((Af ⟨w.size,0,none⟩ 3):Addr).block]?=(L)[((Af ⟨w.size,0,none⟩ 3):Addr).block]?/\XRun Tp (AD #[24,24] 24 #[slV M,.slice (some ⟨U.size,0,none⟩) 1 1]) Z (λaa ab=>∃ac,aa=slV ac/\XRunU Tp (Aj 24 (.pointer (some (Af ⟨w.size,0,none⟩ 3))) (slV ac)) ab (λad=>(D (Aa .i64 (F+1)) ad/\E (Aa .i64 (F+1)) ad<E F G)))))->J L)->∃ae,zc G (Af ⟨e.size,0,none⟩ 0)=some (.int .i64 ae)/\((ae==6)=true->∃af ag,zh G ⟨h.size,0,none⟩ 0 [.string af,slV ag]/\∃ah,zc G (Af ⟨h.size,0,none⟩ 1)=some (slV ah)/\∃ai,zc G (Af ⟨e.size,0,none⟩ 5)=some (slV ai)/\∃aj,(ai.a=some aj/\0<=F/\F<ai.len)/\∃ak,zc G (aj.add (F.toNat*1))=some (.int .i64 ak)/\∃al,(ah.a=some al/\0<=ak/\ak<ah.len)/\∃am an,zh G (Af (al.add (ak.toNat*7)) 3) 0 [.int .i64 am,.int .i64 an]/\XC Tp 66 #[.agg #[.string af,slV ag],.agg #[.int .i64 am,.int .i64 an]] G (λao ap=>∃aq,ao=.string aq/\XC Tp 69 #[.string aq] ap (λar au=>∃av aw ax,ar=.tuple #[.string av,.int .i64 aw,.int .i64 ax]/\∃ay,zc au (Af ⟨w.size,0,none⟩ 2)=some (slV ay)/\let az:=au.push (.cells #[.string av] 9);XRun Tp (AD #[23,23] 23 #[slV ay,.slice (some ⟨au.size,0,none⟩) 1 1]) az (λaA aB=>∃aC,aA=slV aC/\XRunU Tp (Aj 23 (.pointer (some (Af ⟨w.size,0,none⟩ 2))) (slV aC)) aB (λaD=>J aD)))))/\((ae==6)=false->J G))/\(decide (F<I.len)=false->∃aE aF aG aH,zh G ⟨w.size,0,none⟩ 0 [.int .i64 aE,.string aF,slV aG,slV aH]/\XRunU Tp (Aj 26 (.pointer (some ⟨d.size,0,none⟩)) (.agg #[.int .i64 aE,.string aF,slV aG,slV aH])) G (λaI=>∃aJ aL aM aN,zh aI ⟨d.size,0,none⟩ 0 [.int .i64 aJ,.string aL,slV aM,slV aN]/\R (.agg #[.int .i64 aJ,.string aL,slV aM,slV aN]) aI))))->B C)->∃aO,zc A (Af ⟨e.size,0,none⟩ 0)=some (.int .i64 aO)/\((aO==2)=true->XRunU Tp (Aj 9 (.pointer (some (Af ⟨w.size,0,none⟩ 1))) (.string x)) A (λaP=>B aP))/\((aO==2)=false->((aO==3)=true->XC Tp 67 #[.string x] A (λaQ aS=>∃aT aU aV aW,aQ=.tuple #[.agg #[.bool aT,.string aU,.int .i64 aV],.int .i64 aW]/\let aX:=aS.push (.cells #[.bool false,.string (⟨#[]⟩:Bt),.int .i64 0] 46);XRunU Tp (Aj 46 (.pointer (some ⟨aS.size,0,none⟩)) (.agg #[.bool aT,.string aU,.int .i64 aV])) aX (λaY=>∃aZ a0 a1,zh aY ⟨aS.size,0,none⟩ 0 [.bool aZ,.string a0,.int .i64 a1]/\XC Tp 68 #[.agg #[.bool aZ,.string a0,.int .i64 a1]] aY (λa2 a3=>∃a4,a2=.string a4/\XRunU Tp (Aj 9 (.pointer (some (Af ⟨w.size,0,none⟩ 1))) (.string a4)) a3 (λa5=>B a5)))))/\((aO==3)=false->((aO==4)=true->XC Tp 69 #[.string x] A (λa6 a7=>∃a8 a9 ba,a6=.tuple #[.string a8,.int .i64 a9,.int .i64 ba]/\XRunU Tp (Aj 9 (.pointer (some (Af ⟨w.size,0,none⟩ 1))) (.string a8)) a7 (λbb=>B bb)))/\((aO==4)=false->B A))))))):
  XC Tp 22 #[.agg #[.string b,.slice c.a c.len c.cap],.int .i64 k1] h R:=
 XF ⟨[(18,8000),(16,8000)],[(13,[(10,.one (.int .i64))])],[(12,[]),(18,[])]⟩ [.cell 4 26] 97 Tryz.func22 H
theorem zmu(b:Bt)(c:Sl)(k1:Int)(a8:Int)(h:zb)(R:Value->zb->Prop)
  (H:let d:=h.push (.cells #[.string b,slV c] 36);let e:=d.push (.cells #[.int .i64 0,.string (⟨#[]⟩:Bt),.slice none 0 0,.slice none 0 0] 26);∃f,zc e (Af ⟨h.size,0,none⟩ 1)=some (slV f)/\∃g,(f.a=some g/\0<=k1/\k1<f.len)/\∃i j k l m n o,zh e (g.add (k1.toNat*7)) 0 [.int .i64 i,.int .i64 j,.int .i64 k,.int .i64 l,.int .i64 m,slV n,slV o]/\let p:=e.push (.cells #[.int .i64 0,.int .i64 0,.int .i64 0,.int .i64 0,.int .i64 0,.slice none 0 0,.slice none 0 0] 62);XRunU Tp (Aj 62 (.pointer (some ⟨e.size,0,none⟩)) (.agg #[.int .i64 i,.int .i64 j,.int .i64 k,.int .i64 l,.int .i64 m,slV n,slV o])) p (λq=>∀r:Addr->zb->Prop,(∀s:Addr,∀t:zb,(∃u,zc t (Af ⟨e.size,0,none⟩ 5)=some (slV u)/\∃(v:Int->zb->Prop) (w:Int->zb->Nat),v 0 t/\∀x:Int,∀y:zb,v x y->((decide (x<u.len)=true->∃z,zc y (Af ⟨e.size,0,none⟩ 5)=some (slV z)/\∃A,(z.a=some A/\0<=x/\x<z.len)/\∃B,zc y (A.add (x.toNat*1))=some (.int .i64 B)/\∃C,((!(decide (B<0)))=true->zc y (Af ⟨h.size,0,none⟩ 1)=some (slV C))/\((bif (bif (decide (B<0))then true else(decide (B>=C.len)))then true else(decide (a8>32)))=true->∃D E F G,zh y s 0 [.int .i64 D,.string E,slV F,slV G]/\XRunU Tp (Aj 26 (.pointer (some ⟨d.size,0,none⟩)) (.agg #[.int .i64 D,.string E,slV F,slV G])) y (λI=>∃J L M N,zh I ⟨d.size,0,none⟩ 0 [.int .i64 J,.string L,slV M,slV N]/\R (.agg #[.int .i64 J,.string L,slV M,slV N]) I))/\((bif (bif (decide (B<0))then true else(decide (B>=C.len)))then true else(decide (a8>32)))=false->∀O:zb->Prop,(∀P:zb,(∃Q,zc P (Af s 3)=some (slV Q)/\∃S T,zh P ⟨h.size,0,none⟩ 0 [.string S,slV T]/\XC Tp 59 #[.agg #[.string S,slV T],.int .i64 B,.int .i64 (Aa .i64 (a8+1))] P (λU V=>∃W X Y Z,U=.agg #[.int .i64 W,.string X,slV Y,slV Z]/\(V)[((Af s 3):Addr).block]?=(P)[((Af s 3):Addr).block]?/\let aa:=V.push (.cells #[.int .i64 W,.string X,slV Y,slV Z] 26);(aa)[((Af s 3):Addr).block]?=(P)[((Af s 3):Addr).block]?/\XRun Tp (AD #[24,24] 24 #[slV Q,.slice (some ⟨V.size,0,none⟩) 1 1]) aa (λab ac=>∃ae,ab=slV ae/\XRunU Tp (Aj 24 (.pointer (some (Af s 3))) (slV ae)) ac (λaf=>(v (Aa .i64 (x+1)) af/\w (Aa .i64 (x+1)) af<w x y)))))->O P)->∃ag,zc y (Af ⟨e.size,0,none⟩ 0)=some (.int .i64 ag)/\((ag==6)=true->∃ah,zc y (Af s 2)=some (slV ah)/\∃ai aj,zh y ⟨h.size,0,none⟩ 0 [.string ai,slV aj]/\XC Tp 112 #[.agg #[.string ai,slV aj],.int .i64 B] y (λak al=>∃am,ak=.string am/\(al)[((Af s 2):Addr).block]?=(y)[((Af s 2):Addr).block]?/\let an:=al.push (.cells #[.string am] 9);(an)[((Af s 2):Addr).block]?=(y)[((Af s 2):Addr).block]?/\XRun Tp (AD #[23,23] 23 #[slV ah,.slice (some ⟨al.size,0,none⟩) 1 1]) an (λao ap=>∃aq,ao=slV aq/\XRunU Tp (Aj 23 (.pointer (some (Af s 2))) (slV aq)) ap (λar=>O ar))))/\((ag==6)=false->O y)))/\(decide (x<u.len)=false->∃au av aw ax,zh y s 0 [.int .i64 au,.string av,slV aw,slV ax]/\XRunU Tp (Aj 26 (.pointer (some ⟨d.size,0,none⟩)) (.agg #[.int .i64 au,.string av,slV aw,slV ax])) y (λay=>∃az aA aB aC,zh ay ⟨d.size,0,none⟩ 0 [.int .i64 az,.string aA,slV aB,slV aC]/\R (.agg #[.int .i64 az,.string aA,slV aB,slV aC]) ay))))->r s t)->∃aD,zc q (Af ⟨e.size,0,none⟩ 0)=some (.int .i64 aD)/\∃aE,zc q (Af ⟨e.size,0,none⟩ 0)=some (.int .i64 aE)/\∃aF aG,zh q ⟨h.size,0,none⟩ 0 [.string aF,slV aG]/\∃aH aI,zh q (Af ⟨e.size,0,none⟩ 1) 0 [.int .i64 aH,.int .i64 aI]/\(XC Tp 31 #[.agg #[.string aF,slV aG],.agg #[.int .i64 aH,.int .i64 aI]] q (λaJ aL=>∃aM,aJ=.string aM/\(aL)[((Af ⟨e.size,0,none⟩ 0):Addr).block]?=(q)[((Af ⟨e.size,0,none⟩ 0):Addr).block]?/\(aL)[((Af ⟨e.size,0,none⟩ 0):Addr).block]?=(q)[((Af ⟨e.size,0,none⟩ 0):Addr).block]?/\(XC Tp 111 #[.int .i64 aE,.string aM] aL (λaN aO=>∃aP,aN=.string aP/\(aO)[((Af ⟨e.size,0,none⟩ 0):Addr).block]?=(q)[((Af ⟨e.size,0,none⟩ 0):Addr).block]?/\(let aQ:=aO.push (.cells #[.int .i64 0,.string (⟨#[]⟩:Bt),.slice none 0 0,.slice none 0 0] 26);XRunU Tp (Aj 26 (.pointer (some ⟨aO.size,0,none⟩)) (.agg #[.int .i64 aD,.string aP,.slice none 0 0,.slice none 0 0])) aQ (λaS=>r ⟨aO.size,0,none⟩ aS))/\(let aT:=aO.push (.cells #[.int .i64 0,.string (⟨#[]⟩:Bt),.slice none 0 0,.slice none 0 0] 26);(aT)[((Af ⟨e.size,0,none⟩ 0):Addr).block]?=(q)[((Af ⟨e.size,0,none⟩ 0):Addr).block]?/\XRunU Tp (Aj 26 (.pointer (some ⟨aO.size,0,none⟩)) (.agg #[.int .i64 aD,.string aP,.slice none 0 0,.slice none 0 0])) aT (λaU=>r ⟨aO.size,0,none⟩ aU))))/\(let aV:=aL.push (.cells #[.int .i64 0,.string (⟨#[]⟩:Bt),.slice none 0 0,.slice none 0 0] 26);(aV)[((Af ⟨e.size,0,none⟩ 0):Addr).block]?=(q)[((Af ⟨e.size,0,none⟩ 0):Addr).block]?/\(aV)[((Af ⟨e.size,0,none⟩ 0):Addr).block]?=(q)[((Af ⟨e.size,0,none⟩ 0):Addr).block]?/\XC Tp 111 #[.int .i64 aE,.string aM] aV (λaW aX=>∃aY,aW=.string aY/\(aX)[((Af ⟨e.size,0,none⟩ 0):Addr).block]?=(q)[((Af ⟨e.size,0,none⟩ 0):Addr).block]?/\XRunU Tp (Aj 26 (.pointer (some ⟨aL.size,0,none⟩)) (.agg #[.int .i64 aD,.string aY,.slice none 0 0,.slice none 0 0])) aX (λaZ=>r ⟨aL.size,0,none⟩ aZ)))))/\(let a0:=q.push (.cells #[.int .i64 0,.string (⟨#[]⟩:Bt),.slice none 0 0,.slice none 0 0] 26);(a0)[((Af ⟨e.size,0,none⟩ 1):Addr).block]?=(q)[((Af ⟨e.size,0,none⟩ 1):Addr).block]?/\(a0)[(⟨h.size,0,none⟩:Addr).block]?=(q)[(⟨h.size,0,none⟩:Addr).block]?/\(a0)[((Af ⟨e.size,0,none⟩ 0):Addr).block]?=(q)[((Af ⟨e.size,0,none⟩ 0):Addr).block]?/\(a0)[((Af ⟨e.size,0,none⟩ 0):Addr).block]?=(q)[((Af ⟨e.size,0,none⟩ 0):Addr).block]?/\XC Tp 31 #[.agg #[.string aF,slV aG],.agg #[.int .i64 aH,.int .i64 aI]] a0 (λa1 a2=>∃a3,a1=.string a3/\(a2)[((Af ⟨e.size,0,none⟩ 0):Addr).block]?=(q)[((Af ⟨e.size,0,none⟩ 0):Addr).block]?/\(a2)[((Af ⟨e.size,0,none⟩ 0):Addr).block]?=(q)[((Af ⟨e.size,0,none⟩ 0):Addr).block]?/\XC Tp 111 #[.int .i64 aE,.string a3] a2 (λa4 a5=>∃a6,a4=.string a6/\(a5)[((Af ⟨e.size,0,none⟩ 0):Addr).block]?=(q)[((Af ⟨e.size,0,none⟩ 0):Addr).block]?/\XRunU Tp (Aj 26 (.pointer (some ⟨q.size,0,none⟩)) (.agg #[.int .i64 aD,.string a6,.slice none 0 0,.slice none 0 0])) a5 (λa7=>r ⟨q.size,0,none⟩ a7)))))):
  XC Tp 59 #[.agg #[.string b,.slice c.a c.len c.cap],.int .i64 k1,.int .i64 a8] h R:=
 XF ⟨[(11,8000),(10,8000),(2,8000)],[(4,[(29,.one (.int .i64))])],[(3,[(8,.one (.ad))]),(11,[])]⟩ [.cell 6 26] 74 Tryz.func59 H
theorem Zj(p0:Option Addr)(aC:Int)(b:Int)(c:Int)(h:zb)(R:Value->zb->Prop)
  (H:let d:=h.push (.cells #[.pointer p0] 86);let e:=d.push (.cells #[.int .i64 b,.int .i64 c] 58);∃f:Option Addr,zc e ⟨h.size,0,none⟩=some (.pointer f)/\XC Tp 115 #[.pointer f] e (λg i=>∃j,g=.int .i64 j/\XC Tp 114 #[.int .i64 j] i (λk l=>∃m,k=.int .i64 m/\((m==0)=true->∃n:Option Addr,zc l ⟨h.size,0,none⟩=some (.pointer n)/\XC Tp 62 #[.pointer n,.int .i64 2] l (λo p=>∃q,o=.bool q/\R (.bool q) p))/\((m==0)=false->(decide (aC>32)=true->∃r:Option Addr,zc l ⟨h.size,0,none⟩=some (.pointer r)/\XC Tp 62 #[.pointer r,.int .i64 5] l (λs t=>∃u,s=.bool u/\R (.bool u) t))/\(decide (aC>32)=false->∃v:Option Addr,zc l ⟨h.size,0,none⟩=some (.pointer v)/\∃w,v=some w/\∃x,zc l (Af w 4)=some (slV x)/\(((x.len:Int)==4096)=true->∃y:Option Addr,zc l ⟨h.size,0,none⟩=some (.pointer y)/\XC Tp 62 #[.pointer y,.int .i64 6] l (λz A=>∃B,z=.bool B/\R (.bool B) A))/\(((x.len:Int)==4096)=false->∃C:Option Addr,zc l ⟨h.size,0,none⟩=some (.pointer C)/\∃D,C=some D/\∃E,zc l (Af D 4)=some (slV E)/\∃F:Option Addr,zc l ⟨h.size,0,none⟩=some (.pointer F)/\∃G:Option Addr,zc l ⟨h.size,0,none⟩=some (.pointer G)/\∃I,G=some I/\∃J,zc l (Af I 4)=some (slV J)/\∃L:Option Addr,zc l ⟨h.size,0,none⟩=some (.pointer L)/\∃M,L=some M/\∃N,zc l (Af M 1)=some (slV N)/\∃O,(N.a=some O/\0<=(0:Int)/\(0:Int)<(N.len:Int))/\∃P Q,zh l (Af (O.add ((0:Int).toNat*3)) 1) 0 [.int .i64 P,.int .i64 Q]/\∃S T,zh l ⟨d.size,0,none⟩ 0 [.int .i64 S,.int .i64 T]/\(l)[((Af I 4):Addr).block]?=(l)[((Af I 4):Addr).block]?/\(l)[(⟨h.size,0,none⟩:Addr).block]?=(l)[(⟨h.size,0,none⟩:Addr).block]?/\(l)[(⟨h.size,0,none⟩:Addr).block]?=(l)[(⟨h.size,0,none⟩:Addr).block]?/\let U:=l.push (.cells #[.int .i64 m,.int .i64 P,.int .i64 Q,.int .i64 S,.int .i64 T,.slice none 0 0,.slice none 0 0] 62);(U)[((Af I 4):Addr).block]?=(l)[((Af I 4):Addr).block]?/\(U)[(⟨h.size,0,none⟩:Addr).block]?=(l)[(⟨h.size,0,none⟩:Addr).block]?/\(U)[(⟨h.size,0,none⟩:Addr).block]?=(l)[(⟨h.size,0,none⟩:Addr).block]?/\XRun Tp (AD #[34,34] 34 #[slV J,.slice (some ⟨l.size,0,none⟩) 1 1]) U (λV W=>∃X,V=slV X/\∃Y,F=some Y/\(W)[(⟨h.size,0,none⟩:Addr).block]?=(l)[(⟨h.size,0,none⟩:Addr).block]?/\XRunU Tp (Aj 34 (.pointer (some (Af Y 4))) (slV X)) W (λZ=>∃aa:Option Addr,zc Z ⟨h.size,0,none⟩=some (.pointer aa)/\XC Tp 116 #[.pointer aa] Z (λab ac=>ab=.tuple #[]/\∀ad:Bool->zb->Prop,(∀ae:Bool,∀af:zb,(∃ag:Option Addr,zc af ⟨h.size,0,none⟩=some (.pointer ag)/\∃ah,ag=some ah/\∃ai,zc af (Af ah 4)=some (slV ai)/\∃aj:Option Addr,zc af ⟨h.size,0,none⟩=some (.pointer aj)/\∃ak,aj=some ak/\∃al,zc af (Af (Af ak 2) 1)=some (.int .i64 al)/\∃am,(ai.a=some am/\0<=(E.len:Int)/\(E.len:Int)<(ai.len:Int))/\XRunU Tp (Aj 3 (.pointer (some (Af (Af (am.add ((E.len:Int).toNat*7)) 1) 1))) (.int .i64 al)) af (λan=>R (.bool ae) an))->ad ae af)->((m==5)=true->∃ao:Option Addr,zc ac ⟨h.size,0,none⟩=some (.pointer ao)/\∃ap:Option Addr,zc ac ⟨h.size,0,none⟩=some (.pointer ap)/\XC Tp 117 #[.pointer ao,.int .i64 (E.len:Int),.int .i64 aC,.int .i64 5,.func (.func 118) #[.pointer ap] #[]] ac (λaq ar=>∃au,aq=.bool au/\ad au ar))/\((m==5)=false->((m==6)=true->let av:=ac.push (.map #[] 0);let aw:=av.push (.cells #[.map none] 154);XRunU Tp (Aj 154 (.pointer (some ⟨av.size,0,none⟩)) (.map (some ac.size))) aw (λax=>∃ay:Option Addr,zc ax ⟨h.size,0,none⟩=some (.pointer ay)/\XC Tp 117 #[.pointer ay,.int .i64 (E.len:Int),.int .i64 aC,.int .i64 3,.func (.func 119) #[] #[.pointer (some ⟨h.size,0,none⟩),.pointer (some ⟨av.size,0,none⟩)]] ax (λaz aA=>∃aB,az=.bool aB/\ad aB aA)))/\((m==6)=false->ad true ac))))))))))):
  XC Tp 61 #[.pointer p0,.int .i64 aC,.agg #[.int .i64 b,.int .i64 c]] h R:=
 XF ⟨[(9,8000),(18,8000)],[],[(18,[(9,.one (.bool))])]⟩ [.tmp 6] 90 Tryz.func61 H
theorem za0(p0:Option Addr)(Z:Int)(h:zb)(R:Value->zb->Prop)
  (H:XC Tp 121 #[.pointer p0] h (λa b=>∃c,a=.int .i64 c/\∃d,p0=some d/\XRunU Tp (Aj 3 (.pointer (some (Af d 5))) (.int .i64 c)) b (λe=>∃f,p0=some f/\XRunU Tp (Aj 27 (.pointer (some (Af f 6))) (.int .i64 Z)) e (λg=>R (.bool false) g)))):
  XC Tp 62 #[.pointer p0,.int .i64 Z] h R:=
 XF ⟨[],[],[]⟩ [.tmp 4] 14 Tryz.func62 H
theorem Qg(p0:Option Addr)(aG:Int)(b:Int)(c:Int)(h:zb)(R:Value->zb->Prop)
  (H:let d:=h.push (.cells #[.int .i64 b,.int .i64 c] 58);XC Tp 124 #[.pointer p0] d (λe f=>∃g,e=.int .i64 g/\XC Tp 123 #[.int .i64 g] f (λi j=>∃k,i=.int .i64 k/\∀l:Int->zb->Prop,(∀m:Int,∀n:zb,(∀o:Int->zb->Prop,(∀p:Int,∀q:zb,(((p==0)=true->XC Tp 65 #[.pointer p0,.int .i64 2] q (λr s=>∃t,r=.bool t/\R (.bool t) s))/\((p==0)=false->(decide (aG>32)=true->XC Tp 65 #[.pointer p0,.int .i64 5] q (λu v=>∃w,u=.bool w/\R (.bool w) v))/\(decide (aG>32)=false->∃x,p0=some x/\∃y,zc q (Af x 3)=some (slV y)/\(decide ((y.len:Int)>=4096)=true->XC Tp 65 #[.pointer p0,.int .i64 6] q (λz A=>∃B,z=.bool B/\R (.bool B) A))/\(decide ((y.len:Int)>=4096)=false->∃C,p0=some C/\∃D,zc q (Af C 3)=some (slV D)/\∃E,p0=some E/\∃F,zc q (Af E 3)=some (slV F)/\∃G,p0=some G/\∃I,zc q (Af G 1)=some (slV I)/\∃J,p0=some J/\∃L,zc q (Af J 2)=some (.int .i64 L)/\∃M,(I.a=some M/\0<=L/\L<I.len)/\∃N O,zh q (Af (M.add (L.toNat*3)) 1) 0 [.int .i64 N,.int .i64 O]/\∃P Q,zh q ⟨h.size,0,none⟩ 0 [.int .i64 P,.int .i64 Q]/\(q)[((Af E 3):Addr).block]?=(q)[((Af E 3):Addr).block]?/\let S:=q.push (.cells #[.int .i64 p,.int .i64 N,.int .i64 O,.int .i64 P,.int .i64 Q,.slice none 0 0,.slice none 0 0] 62);(S)[((Af E 3):Addr).block]?=(q)[((Af E 3):Addr).block]?/\XRun Tp (AD #[34,34] 34 #[slV F,.slice (some ⟨q.size,0,none⟩) 1 1]) S (λT U=>∃V,T=slV V/\∃W,p0=some W/\XRunU Tp (Aj 34 (.pointer (some (Af W 3))) (slV V)) U (λX=>∃Y,p0=some Y/\∃Z,zc X (Af Y 2)=some (.int .i64 Z)/\∃aa,p0=some aa/\XRunU Tp (Aj 3 (.pointer (some (Af aa 2))) (.int .i64 (Aa .i64 (Z+1)))) X (λab=>∀ac:Bool->zb->Prop,(∀ad:Bool,∀ae:zb,(∀af:Bool->zb->Prop,(∀ag:Bool,∀ah:zb,((ag=true->∃ai,p0=some ai/\∃aj,zc ah (Af ai 3)=some (slV aj)/\∃ak,p0=some ak/\∃al,zc ah (Af ak 1)=some (slV al)/\∃am,p0=some am/\∃an,zc ah (Af am 2)=some (.int .i64 an)/\∃ao,(al.a=some ao/\0<=(Aa .i64 (an-1))/\(Aa .i64 (an-1))<(al.len:Int))/\∃ap,zc ah (Af (Af (ao.add ((Aa .i64 (an-1)).toNat*3)) 1) 1)=some (.int .i64 ap)/\∃aq,(aj.a=some aq/\0<=(D.len:Int)/\(D.len:Int)<(aj.len:Int))/\XRunU Tp (Aj 3 (.pointer (some (Af (Af (aq.add ((D.len:Int).toNat*7)) 1) 1))) (.int .i64 ap)) ah (λar=>R (.bool ag) ar))/\(ag=false->R (.bool ag) ah))->af ag ah)->((p==6)=true->XC Tp 125 #[.pointer p0,.int .i64 (D.len:Int),.int .i64 aG,.int .i64 3] ae (λau av=>∃aw,au=.bool aw/\af aw av))/\((p==6)=false->af ad ae))->ac ad ae)->((p==5)=true->XC Tp 125 #[.pointer p0,.int .i64 (D.len:Int),.int .i64 aG,.int .i64 5] ab (λax ay=>∃az,ax=.bool az/\ac az ay))/\((p==5)=false->ac true ab))))))))->o p q)->XC Tp 124 #[.pointer p0] n (λaA aB=>∃aC,aA=.int .i64 aC/\((aC==2)=true->o 6 aB)/\((aC==2)=false->o m aB)))->l m n)->XC Tp 124 #[.pointer p0] j (λaD aE=>∃aF,aD=.int .i64 aF/\((aF==4)=true->l 5 aE)/\((aF==4)=false->l k aE))))):
  XC Tp 64 #[.pointer p0,.int .i64 aG,.agg #[.int .i64 b,.int .i64 c]] h R:=
 XF ⟨[(13,8000),(21,8000)],[],[(4,[(7,.one (.int .i64))]),(6,[(7,.one (.int .i64))]),(18,[(9,.one (.bool))]),(20,[(9,.one (.bool))])]⟩ [.tmp 6] 105 Tryz.func64 H
theorem Qh(p0:Option Addr)(e1:Int)(h:zb)(R:Value->zb->Prop)
  (H:XC Tp 126 #[.pointer p0] h (λa b=>∃c,a=.int .i64 c/\∃d,p0=some d/\XRunU Tp (Aj 3 (.pointer (some (Af d 4))) (.int .i64 c)) b (λe=>∃f,p0=some f/\XRunU Tp (Aj 27 (.pointer (some (Af f 5))) (.int .i64 e1)) e (λg=>R (.bool false) g)))):
  XC Tp 65 #[.pointer p0,.int .i64 e1] h R:=
 XF ⟨[],[],[]⟩ [.tmp 4] 14 Tryz.func65 H
theorem Zs(b0:Option Addr)(r1:Int)(h:zb)(R:Value->zb->Prop)
  (H:XC Tp 152 #[.pointer b0] h (λb c=>b=.tuple #[]/\∃d,b0=some d/\∃e,zc c (Af d 1)=some (slV e)/\∃f,b0=some f/\∃g,zc c (Af f 1)=some (slV g)/\XC Tp 153 #[slV g,.int .i32 r1] c (λi j=>∃k,i=slV k/\∃l,b0=some l/\XRunU Tp (Aj 110 (.pointer (some (Af l 1))) (slV k)) j (λm=>∃n,b0=some n/\∃o,zc m (Af n 1)=some (slV o)/\R (.tuple #[.int .i64 (Aa .i64 ((o.len:Int)-(e.len:Int))),.nilIface]) m)))):
  XC Tp 83 #[.pointer b0,.int .i32 r1] h R:=
 XF ⟨[],[],[]⟩ [.tmp 4,.tmp 5] 30 Tryz.func83 H
theorem ztf(s0:Bt)(h:zb)(R:Value->zb->Prop)
  (H:let a:=h.push (.cells #[.string s0] 9);R (.func (.func 197) #[] #[.pointer (some ⟨h.size,0,none⟩)]) a):
  XC Tp 113 #[.string s0] h R:=
 XF ⟨[],[],[]⟩ [.tmp 2] 4 Tryz.func113 H
theorem za1(p0:Option Addr)(h:zb)(R:Value->zb->Prop)
  (H:∃b,p0=some b/\∃c,zc h (Af b 1)=some (slV c)/\(((c.len:Int)==0)=true->R (.int .i64 0) h)/\(((c.len:Int)==0)=false->∃d,p0=some d/\∃e,zc h (Af d 1)=some (slV e)/\∃f,(e.a=some f/\0<=(0:Int)/\(0:Int)<(e.len:Int))/\∃g,zc h (Af (f.add ((0:Int).toNat*3)) 0)=some (.int .i64 g)/\R (.int .i64 g) h)):
  XC Tp 115 #[.pointer p0] h R:=
 XF ⟨[],[],[]⟩ [.tmp 2] 16 Tryz.func115 H
theorem za2(p0:Option Addr)(h:zb)(R:Value->zb->Prop)
  (H:∃b,p0=some b/\∃c,zc h (Af b 1)=some (slV c)/\∃d,(c.a=some d/\0<=(0:Int)/\(0:Int)<(c.len:Int))/\∃e f,zh h (Af (d.add ((0:Int).toNat*3)) 1) 0 [.int .i64 e,.int .i64 f]/\∃g,p0=some g/\∃i,zc h (Af g 1)=some (slV i)/\((none:Option Value)=none\/∃v,(none:Option Value)=some v)/\(0<=(1:Int)/\(1:Int)<=(i.len:Int)/\(i.len:Int)<=(i.cap:Int)/\(i.cap:Int)<=(i.cap:Int))/\∃j,p0=some j/\XRunU Tp (Aj 58 (.pointer (some (Af j 2))) (.agg #[.int .i64 e,.int .i64 f])) h (λk=>∃l,p0=some l/\XRunU Tp (Aj 83 (.pointer (some (Af l 1))) (.slice (zpu i.a 3 ((1:Int).toNat) ((i.cap:Int).toNat)) ((i.len:Int).toNat-(1:Int).toNat) ((i.cap:Int).toNat-(1:Int).toNat))) k (λm=>R (.tuple #[]) m))):
  XC Tp 116 #[.pointer p0] h R:=
 XF ⟨[(0,8000)],[],[]⟩ [] 20 Tryz.func116 H
theorem za3(p0:Option Addr)(n1:Int)(ab:Int)(Z:Int)(aa:FuncId)(ae:Array Value)(af:Array Value)(h:zb)(R:Value->zb->Prop)
  (H:XC Tp 199 #[.pointer p0,.int .i64 Z] h (λb c=>∃d,b=.bool d/\(d=true->R (.bool true) c)/\(d=false->∃(e:zb->Prop) (f:zb->Nat),e c/\∀g:zb,e g->(∃i,p0=some i/\∃j,zc g (Af (Af i 2) 1)=some (.int .i64 j)/\∃k,p0=some k/\∃l,zc g (Af k 4)=some (slV l)/\qa Tp aa=true/\XC Tp aa (ae++#[.int .i64 (Aa .i64 (ab+1))]++af) g (λm n=>∃o,m=.bool o/\((!o)=true->R (.bool false) n)/\((!o)=false->∃p,p0=some p/\∃q,zc n (Af p 4)=some (slV q)/\∃r,(q.a=some r/\0<=n1/\n1<q.len)/\∃s,some (r.add (n1.toNat*7))=some s/\∃t,zc n (Af s 5)=some (slV t)/\let u:=n.push (.cells #[.int .i64 (l.len:Int)] 3);XRun Tp (AD #[59,59] 59 #[slV t,.slice (some ⟨n.size,0,none⟩) 1 1]) u (λv w=>∃x,v=slV x/\∃y,some (r.add (n1.toNat*7))=some y/\XRunU Tp (Aj 59 (.pointer (some (Af y 5))) (slV x)) w (λz=>∃A,some (r.add (n1.toNat*7))=some A/\∃B,zc z (Af A 6)=some (slV B)/\XC Tp 121 #[.pointer p0] z (λC D=>∃E,C=.int .i64 E/\(D)[((Af A 6):Addr).block]?=(z)[((Af A 6):Addr).block]?/\(D)[((Af A 6):Addr).block]?=(z)[((Af A 6):Addr).block]?/\let F:=D.push (.cells #[.int .i64 j,.int .i64 E] 58);(F)[((Af A 6):Addr).block]?=(z)[((Af A 6):Addr).block]?/\XRun Tp (AD #[60,60] 60 #[slV B,.slice (some ⟨D.size,0,none⟩) 1 1]) F (λG I=>∃J,G=slV J/\∃L,some (r.add (n1.toNat*7))=some L/\XRunU Tp (Aj 60 (.pointer (some (Af L 6))) (slV J)) I (λM=>XC Tp 199 #[.pointer p0,.int .i64 Z] M (λN O=>∃P,N=.bool P/\(P=true->R (.bool true) O)/\(P=false->XC Tp 199 #[.pointer p0,.int .i64 6] O (λQ S=>∃T,Q=.bool T/\((!T)=true->XC Tp 62 #[.pointer p0,.int .i64 2] S (λU V=>∃W,U=.bool W/\R (.bool W) V))/\((!T)=false->(e S/\f S<f g)))))))))))))))):
  XC Tp 117 #[.pointer p0,.int .i64 n1,.int .i64 ab,.int .i64 Z,.func (.func aa) ae af] h R:=
 XF ⟨[(8,8000)],[(3,[])],[]⟩ [.tmp 10] 71 Tryz.func117 H
theorem za4(p0:Option Addr)(Z:Int)(h:zb)(R:Value->zb->Prop)
  (H:XC Tp 61 #[.pointer p0,.int .i64 Z,.agg #[.int .i64 0,.int .i64 0]] h (λa b=>∃c,a=.bool c/\R (.bool c) b)):
  XC Tp 118 #[.pointer p0,.int .i64 Z] h R:=
 XF ⟨[],[],[]⟩ [.tmp 4] 9 Tryz.func118 H
theorem Jy(Z:Int)(c1:Addr)(c2:Addr)(h:zb)(R:Value->zb->Prop)
  (H:∃a:Option Addr,zc h c1=some (.pointer a)/\∃b:Option Nat,zc h c2=some (.map b)/\XC Tp 120 #[.pointer a,.int .i64 Z,.map b] h (λc d=>∃e,c=.bool e/\R (.bool e) d)):
  XC Tp 119 #[.int .i64 Z,.pointer (some c1),.pointer (some c2)] h R:=
 XF ⟨[],[],[]⟩ [.tmp 4] 9 Tryz.func119 H
theorem Wu(p0:Option Addr)(Z:Int)(aa:Option Nat)(h:zb)(R:Value->zb->Prop)
  (H:XC Tp 115 #[.pointer p0] h (λb c=>∃d,b=.int .i64 d/\((d != 8)=true->XC Tp 62 #[.pointer p0,.int .i64 2] c (λe f=>∃g,e=.bool g/\R (.bool g) f))/\((d != 8)=false->∃i,p0=some i/\∃j,zc c (Af i 1)=some (slV j)/\∃k,(j.a=some k/\0<=(0:Int)/\(0:Int)<(j.len:Int))/\∃l m,zh c (Af (k.add ((0:Int).toNat*3)) 1) 0 [.int .i64 l,.int .i64 m]/\let n:=c.push (.cells #[.int .i64 0,.int .i64 0] 58);XRunU Tp (Aj 58 (.pointer (some ⟨c.size,0,none⟩)) (.agg #[.int .i64 l,.int .i64 m])) n (λo=>∃p,p0=some p/\∃q,zc o (Af p 0)=some (.string q)/\∃r,zc o (Af ⟨c.size,0,none⟩ 0)=some (.int .i64 r)/\∃s,zc o (Af ⟨c.size,0,none⟩ 1)=some (.int .i64 s)/\(0<=r/\r<=s/\s<=q.size)/\XC Tp 196 #[.string (q.extract r.toNat s.toNat)] o (λt u=>∃v w x,t=.tuple #[.string v,.int .i64 w,.int .i64 x]/\∃y,QExec Tp (Instr.lookup 154 (.map aa) (.string v) false) u (.bool y)/\(y=true->XC Tp 62 #[.pointer p0,.int .i64 7] u (λz A=>∃B,z=.bool B/\R (.bool B) A))/\(y=false->XRunU Tp (DN 154 (.map aa) (.string v) (.bool true)) u (λC=>XC Tp 116 #[.pointer p0] C (λD E=>D=.tuple #[]/\XC Tp 199 #[.pointer p0,.int .i64 7] E (λF G=>∃I,F=.bool I/\((!I)=true->XC Tp 62 #[.pointer p0,.int .i64 2] G (λJ L=>∃M,J=.bool M/\R (.bool M) L))/\((!I)=false->∃N O,zh G ⟨c.size,0,none⟩ 0 [.int .i64 N,.int .i64 O]/\XC Tp 61 #[.pointer p0,.int .i64 Z,.agg #[.int .i64 N,.int .i64 O]] G (λP Q=>∃S,P=.bool S/\R (.bool S) Q))))))))))):
  XC Tp 120 #[.pointer p0,.int .i64 Z,.map aa] h R:=
 XF ⟨[(4,8000)],[],[]⟩ [.tmp 6] 55 Tryz.func120 H
theorem za5(p0:Option Addr)(h:zb)(R:Value->zb->Prop)
  (H:∃b,p0=some b/\∃c,zc h (Af b 1)=some (slV c)/\(((c.len:Int)==0)=true->∃d,p0=some d/\∃e,zc h (Af d 0)=some (.string e)/\R (.int .i64 (e.size:Int)) h)/\(((c.len:Int)==0)=false->∃f,p0=some f/\∃g,zc h (Af f 1)=some (slV g)/\∃i,(g.a=some i/\0<=(0:Int)/\(0:Int)<(g.len:Int))/\∃j,zc h (Af (Af (i.add ((0:Int).toNat*3)) 1) 0)=some (.int .i64 j)/\R (.int .i64 j) h)):
  XC Tp 121 #[.pointer p0] h R:=
 XF ⟨[],[],[]⟩ [.tmp 2] 22 Tryz.func121 H
theorem Q1(p0:Option Addr)(h:zb)(R:Value->zb->Prop)
  (H:∃b,p0=some b/\∃c,zc h (Af b 2)=some (.int .i64 c)/\∃d,p0=some d/\∃e,zc h (Af d 1)=some (slV e)/\(decide (c>=e.len)=true->R (.int .i64 0) h)/\(decide (c>=e.len)=false->∃f,p0=some f/\∃g,zc h (Af f 1)=some (slV g)/\∃i,p0=some i/\∃j,zc h (Af i 2)=some (.int .i64 j)/\∃k,(g.a=some k/\0<=j/\j<g.len)/\∃l,zc h (Af (k.add (j.toNat*3)) 0)=some (.int .i64 l)/\R (.int .i64 l) h)):
  XC Tp 124 #[.pointer p0] h R:=
 XF ⟨[],[],[]⟩ [.tmp 2] 24 Tryz.func124 H
theorem Q2(p0:Option Addr)(n1:Int)(a7:Int)(a6:Int)(h:zb)(R:Value->zb->Prop)
  (H:∃b,p0=some b/\∃c,zc h (Af b 1)=some (slV c)/\∃d,p0=some d/\∃e,zc h (Af d 2)=some (.int .i64 e)/\∃f,(c.a=some f/\0<=(Aa .i64 (e-1))/\(Aa .i64 (e-1))<(c.len:Int))/\∃g,zc h (Af (Af (f.add ((Aa .i64 (e-1)).toNat*3)) 1) 1)=some (.int .i64 g)/\XC Tp 124 #[.pointer p0] h (λi j=>∃k,i=.int .i64 k/\((k==a6)=true->∃l,p0=some l/\∃m,zc j (Af l 2)=some (.int .i64 m)/\∃n,p0=some n/\XRunU Tp (Aj 3 (.pointer (some (Af n 2))) (.int .i64 (Aa .i64 (m+1)))) j (λo=>R (.bool true) o))/\((k==a6)=false->∃(p:Sl->Int->zb->Prop) (q:Sl->Int->zb->Nat),p (⟨none,0,0⟩:Sl) g j/\∀r:Sl,∀s:Int,∀t:zb,p r s t->(let u:=t.push (.cells #[.int .i64 0,.int .i64 0] 58);∀v:Sl->zb->Prop,(∀w:Sl,∀x:zb,(∃y,p0=some y/\∃z,zc x (Af y 3)=some (slV z)/\∃A B,zh x ⟨t.size,0,none⟩ 0 [.int .i64 A,.int .i64 B]/\XC Tp 64 #[.pointer p0,.int .i64 (Aa .i64 (a7+1)),.agg #[.int .i64 A,.int .i64 B]] x (λC D=>∃E,C=.bool E/\((!E)=true->R (.bool false) D)/\((!E)=false->XC Tp 124 #[.pointer p0] D (λF G=>∃I,F=.int .i64 I/\∃J:Value->zb->Prop,((I != 6)=true->XC Tp 124 #[.pointer p0] G (λL M=>∃N,L=.int .i64 N/\J (.int .i64 N) M))/\((I != 6)=false->∃O,J (.int .i64 O) G)/\((I != 6)=true->∀P Q,J P Q->∃S,P=.int .i64 S)/\∀T:Int,∀U,J (.int .i64 T) U->((bif (I != 6)then(T != a6)else false)=true->XC Tp 65 #[.pointer p0,.int .i64 2] U (λV W=>∃X,V=.bool X/\R (.bool X) W))/\((bif (I != 6)then(T != a6)else false)=false->∃Y,p0=some Y/\∃Z,zc U (Af Y 3)=some (slV Z)/\∃aa,p0=some aa/\∃ab,zc U (Af aa 3)=some (slV ab)/\∃ac,(ab.a=some ac/\0<=n1/\n1<ab.len)/\∃ad,zc U (Af (ac.add (n1.toNat*7)) 5)=some (slV ad)/\let ae:=U.push (.cells #[.int .i64 (z.len:Int)] 3);(ae)[((Af (ac.add (n1.toNat*7)) 5):Addr).block]?=(U)[((Af (ac.add (n1.toNat*7)) 5):Addr).block]?/\(ae)[((Af aa 3):Addr).block]?=(U)[((Af aa 3):Addr).block]?/\(ae)[((Af Y 3):Addr).block]?=(U)[((Af Y 3):Addr).block]?/\XRun Tp (AD #[59,59] 59 #[slV ad,.slice (some ⟨U.size,0,none⟩) 1 1]) ae (λaf ag=>∃ah,af=slV ah/\∃ai,(Z.a=some ai/\0<=n1/\n1<Z.len)/\(ag)[((Af Y 3):Addr).block]?=(U)[((Af Y 3):Addr).block]?/\XRunU Tp (Aj 59 (.pointer (some (Af (ai.add (n1.toNat*7)) 5))) (slV ah)) ag (λaj=>∃ak,p0=some ak/\∃al,zc aj (Af ak 3)=some (slV al)/\∃am,p0=some am/\∃an,zc aj (Af am 3)=some (slV an)/\∃ao,(an.a=some ao/\0<=n1/\n1<an.len)/\∃ap,zc aj (Af (ao.add (n1.toNat*7)) 6)=some (slV ap)/\XC Tp 126 #[.pointer p0] aj (λaq ar=>∃au,aq=.int .i64 au/\(ar)[((Af (ao.add (n1.toNat*7)) 6):Addr).block]?=(aj)[((Af (ao.add (n1.toNat*7)) 6):Addr).block]?/\(ar)[((Af am 3):Addr).block]?=(aj)[((Af am 3):Addr).block]?/\(ar)[((Af ak 3):Addr).block]?=(aj)[((Af ak 3):Addr).block]?/\(ar)[((Af (ao.add (n1.toNat*7)) 6):Addr).block]?=(aj)[((Af (ao.add (n1.toNat*7)) 6):Addr).block]?/\(ar)[((Af am 3):Addr).block]?=(aj)[((Af am 3):Addr).block]?/\(ar)[((Af ak 3):Addr).block]?=(aj)[((Af ak 3):Addr).block]?/\let av:=ar.push (.cells #[.int .i64 s,.int .i64 au] 58);(av)[((Af (ao.add (n1.toNat*7)) 6):Addr).block]?=(aj)[((Af (ao.add (n1.toNat*7)) 6):Addr).block]?/\(av)[((Af am 3):Addr).block]?=(aj)[((Af am 3):Addr).block]?/\(av)[((Af ak 3):Addr).block]?=(aj)[((Af ak 3):Addr).block]?/\XRun Tp (AD #[60,60] 60 #[slV ap,.slice (some ⟨ar.size,0,none⟩) 1 1]) av (λaw ax=>∃ay,aw=slV ay/\∃az,(al.a=some az/\0<=n1/\n1<al.len)/\(ax)[((Af ak 3):Addr).block]?=(aj)[((Af ak 3):Addr).block]?/\XRunU Tp (Aj 60 (.pointer (some (Af (az.add (n1.toNat*7)) 6))) (slV ay)) ax (λaA=>XC Tp 124 #[.pointer p0] aA (λaB aC=>∃aD,aB=.int .i64 aD/\XC Tp 126 #[.pointer p0] aC (λaE aF=>∃aG,aE=.int .i64 aG/\∃aH,p0=some aH/\∃aI,zc aF (Af aH 2)=some (.int .i64 aI)/\∃aJ,p0=some aJ/\XRunU Tp (Aj 3 (.pointer (some (Af aJ 2))) (.int .i64 (Aa .i64 (aI+1)))) aF (λaL=>((aD==a6)=true->R (.bool true) aL)/\((aD==a6)=false->(p w (Aa .i64 (aG+1)) aL/\q w (Aa .i64 (aG+1)) aL<q r s t)))))))))))))))->v w x)->((a6==3)=true->XC Tp 203 #[.pointer p0,slV r] u (λaM aN=>∃aO aP aQ aS,aM=.tuple #[.string aO,.agg #[.int .i64 aP,.int .i64 aQ],.bool aS]/\let aT:=aN.push (.cells #[.int .i64 0,.int .i64 0] 58);XRunU Tp (Aj 58 (.pointer (some ⟨aN.size,0,none⟩)) (.agg #[.int .i64 aP,.int .i64 aQ])) aT (λaU=>((!aS)=true->R (.bool false) aU)/\((!aS)=false->let aV:=aU.push (.cells #[.string aO] 9);XRun Tp (AD #[23,23] 23 #[slV r,.slice (some ⟨aU.size,0,none⟩) 1 1]) aV (λaW aX=>∃aY,aW=slV aY/\∃aZ a0,zh aX ⟨aN.size,0,none⟩ 0 [.int .i64 aZ,.int .i64 a0]/\XRunU Tp (Aj 58 (.pointer (some ⟨t.size,0,none⟩)) (.agg #[.int .i64 aZ,.int .i64 a0])) aX (λa1=>v aY a1))))))/\((a6==3)=false->v r u))))):
  XC Tp 125 #[.pointer p0,.int .i64 n1,.int .i64 a7,.int .i64 a6] h R:=
 XF ⟨[(19,8000),(20,8000)],[(6,[(9,.one (.sl)),(10,.one (.int .i64))])],[(13,[(9,.one (.sl))])]⟩ [.tmp 8] 135 Tryz.func125 H
theorem Q3(p0:Option Addr)(h:zb)(R:Value->zb->Prop)
  (H:∃b,p0=some b/\∃c,zc h (Af b 2)=some (.int .i64 c)/\∃d,p0=some d/\∃e,zc h (Af d 1)=some (slV e)/\(decide (c>=e.len)=true->∃f,p0=some f/\∃g,zc h (Af f 0)=some (.string g)/\R (.int .i64 (g.size:Int)) h)/\(decide (c>=e.len)=false->∃i,p0=some i/\∃j,zc h (Af i 1)=some (slV j)/\∃k,p0=some k/\∃l,zc h (Af k 2)=some (.int .i64 l)/\∃m,(j.a=some m/\0<=l/\l<j.len)/\∃n,zc h (Af (Af (m.add (l.toNat*3)) 1) 0)=some (.int .i64 n)/\R (.int .i64 n) h)):
  XC Tp 126 #[.pointer p0] h R:=
 XF ⟨[],[],[]⟩ [.tmp 2] 30 Tryz.func126 H
theorem zo5(s0:Bt)(bz:Int)(h:zb)(R:Value->zb->Prop)
  (H:let a:=h.push (.cells #[.int .i64 bz] 3);let b:=a.push (.cells #[.int .i64 0,.int .i64 0,.int .i64 0] 90);∃c,zc b ⟨h.size,0,none⟩=some (.int .i64 c)/\(0<=c/\c<=s0.size/\(s0.size:Int)<=(s0.size:Int))/\(0<=(0:Int)/\(0:Int)<((s0.extract c.toNat (s0.size:Int).toNat).size:Int))/\XC Tp 212 #[.string (⟨#[123,125,91,93,44,58]⟩:Bt),.int .u8 (za (s0.extract c.toNat (s0.size:Int).toNat) (0:Int).toNat)] b (λd e=>∃f,d=.int .i64 f/\(decide (f>=0)=true->∃g,zc e ⟨h.size,0,none⟩=some (.int .i64 g)/\qa Tp 254=true/\XC Tp 254 #[.int .i64 (Aa .i64 (2+f)),.int .i64 (Aa .i64 (g+1)),.pointer (some ⟨h.size,0,none⟩)] e (λi j=>∃k l m n,i=.tuple #[.agg #[.int .i64 k,.int .i64 l,.int .i64 m],.int .i64 n]/\XRunU Tp (Aj 90 (.pointer (some ⟨a.size,0,none⟩)) (.agg #[.int .i64 k,.int .i64 l,.int .i64 m])) j (λo=>∃p q r,zh o ⟨a.size,0,none⟩ 0 [.int .i64 p,.int .i64 q,.int .i64 r]/\R (.tuple #[.agg #[.int .i64 p,.int .i64 q,.int .i64 r],.int .i64 n]) o)))/\(decide (f>=0)=false->XC Tp 212 #[.string (⟨#[32,9,10,13]⟩:Bt),.int .u8 (za (s0.extract c.toNat (s0.size:Int).toNat) (0:Int).toNat)] e (λs t=>∃u,s=.int .i64 u/\(decide (u>=0)=true->∃v,zc t ⟨h.size,0,none⟩=some (.int .i64 v)/\XC Tp 257 #[.string (⟨#[32,9,10,13]⟩:Bt)] t (λw x=>∃y:Value,w=y/\(x)[(⟨h.size,0,none⟩:Addr).block]?=(t)[(⟨h.size,0,none⟩:Addr).block]?/\XC Tp 256 #[.string (s0.extract c.toNat (s0.size:Int).toNat),y] x (λz A=>∃B,z=.int .i64 B/\(A)[(⟨h.size,0,none⟩:Addr).block]?=(t)[(⟨h.size,0,none⟩:Addr).block]?/\qa Tp 254=true/\XC Tp 254 #[.int .i64 1,.int .i64 (Aa .i64 (v+B)),.pointer (some ⟨h.size,0,none⟩)] A (λC D=>∃E F G I,C=.tuple #[.agg #[.int .i64 E,.int .i64 F,.int .i64 G],.int .i64 I]/\XRunU Tp (Aj 90 (.pointer (some ⟨a.size,0,none⟩)) (.agg #[.int .i64 E,.int .i64 F,.int .i64 G])) D (λJ=>∃L M N,zh J ⟨a.size,0,none⟩ 0 [.int .i64 L,.int .i64 M,.int .i64 N]/\R (.tuple #[.agg #[.int .i64 L,.int .i64 M,.int .i64 N],.int .i64 I]) J)))))/\(decide (u>=0)=false->(((za (s0.extract c.toNat (s0.size:Int).toNat) (0:Int).toNat:Int)==34)=true->∃O,zc t ⟨h.size,0,none⟩=some (.int .i64 O)/\XC Tp 258 #[.string s0,.int .i64 O] t (λP Q=>∃S T,P=.tuple #[.int .i64 S,.int .i64 T]/\((T != 0)=true->qa Tp 255=true/\XC Tp 255 #[.int .i64 S,.int .i64 T] Q (λU V=>∃W X Y Z,U=.tuple #[.agg #[.int .i64 W,.int .i64 X,.int .i64 Y],.int .i64 Z]/\XRunU Tp (Aj 90 (.pointer (some ⟨a.size,0,none⟩)) (.agg #[.int .i64 W,.int .i64 X,.int .i64 Y])) V (λaa=>∃ab ac ad,zh aa ⟨a.size,0,none⟩ 0 [.int .i64 ab,.int .i64 ac,.int .i64 ad]/\R (.tuple #[.agg #[.int .i64 ab,.int .i64 ac,.int .i64 ad],.int .i64 Z]) aa)))/\((T != 0)=false->qa Tp 254=true/\XC Tp 254 #[.int .i64 8,.int .i64 S,.pointer (some ⟨h.size,0,none⟩)] Q (λae af=>∃ag ah ai aj,ae=.tuple #[.agg #[.int .i64 ag,.int .i64 ah,.int .i64 ai],.int .i64 aj]/\XRunU Tp (Aj 90 (.pointer (some ⟨a.size,0,none⟩)) (.agg #[.int .i64 ag,.int .i64 ah,.int .i64 ai])) af (λak=>∃al am an,zh ak ⟨a.size,0,none⟩ 0 [.int .i64 al,.int .i64 am,.int .i64 an]/\R (.tuple #[.agg #[.int .i64 al,.int .i64 am,.int .i64 an],.int .i64 aj]) ak)))))/\(((za (s0.extract c.toNat (s0.size:Int).toNat) (0:Int).toNat:Int)==34)=false->((bif ((za (s0.extract c.toNat (s0.size:Int).toNat) (0:Int).toNat:Int)==45)then true else(bif (decide ((za (s0.extract c.toNat (s0.size:Int).toNat) (0:Int).toNat:Int)>=48))then(decide ((za (s0.extract c.toNat (s0.size:Int).toNat) (0:Int).toNat:Int)<=57))else false))=true->∃ao,zc t ⟨h.size,0,none⟩=some (.int .i64 ao)/\XC Tp 257 #[.string (⟨#[45,43,46,48,49,50,51,52,53,54,55,56,57,101,69]⟩:Bt)] t (λap aq=>∃ar:Value,ap=ar/\(aq)[(⟨h.size,0,none⟩:Addr).block]?=(t)[(⟨h.size,0,none⟩:Addr).block]?/\XC Tp 256 #[.string (s0.extract c.toNat (s0.size:Int).toNat),ar] aq (λau av=>∃aw,au=.int .i64 aw/\(av)[(⟨h.size,0,none⟩:Addr).block]?=(t)[(⟨h.size,0,none⟩:Addr).block]?/\∃ax,zc av ⟨h.size,0,none⟩=some (.int .i64 ax)/\(0<=ax/\ax<=(Aa .i64 (ao+aw))/\(Aa .i64 (ao+aw))<=(s0.size:Int))/\XC Tp 25 #[.string (s0.extract ax.toNat (Aa .i64 (ao+aw)).toNat)] av (λay az=>∃aA aB aC aD,ay=.tuple #[.agg #[.bool aA,.string aB,.int .i64 aC],.int .i64 aD]/\let aE:=az.push (.cells #[.bool false,.string (⟨#[]⟩:Bt),.int .i64 0] 46);XRunU Tp (Aj 46 (.pointer (some ⟨az.size,0,none⟩)) (.agg #[.bool aA,.string aB,.int .i64 aC])) aE (λaF=>((aD != 0)=true->∃aG,zc aF ⟨h.size,0,none⟩=some (.int .i64 aG)/\qa Tp 255=true/\XC Tp 255 #[.int .i64 aG,.int .i64 aD] aF (λaH aI=>∃aJ aL aM aN,aH=.tuple #[.agg #[.int .i64 aJ,.int .i64 aL,.int .i64 aM],.int .i64 aN]/\XRunU Tp (Aj 90 (.pointer (some ⟨a.size,0,none⟩)) (.agg #[.int .i64 aJ,.int .i64 aL,.int .i64 aM])) aI (λaO=>∃aP aQ aS,zh aO ⟨a.size,0,none⟩ 0 [.int .i64 aP,.int .i64 aQ,.int .i64 aS]/\R (.tuple #[.agg #[.int .i64 aP,.int .i64 aQ,.int .i64 aS],.int .i64 aN]) aO)))/\((aD != 0)=false->qa Tp 254=true/\XC Tp 254 #[.int .i64 9,.int .i64 (Aa .i64 (ao+aw)),.pointer (some ⟨h.size,0,none⟩)] aF (λaT aU=>∃aV aW aX aY,aT=.tuple #[.agg #[.int .i64 aV,.int .i64 aW,.int .i64 aX],.int .i64 aY]/\XRunU Tp (Aj 90 (.pointer (some ⟨a.size,0,none⟩)) (.agg #[.int .i64 aV,.int .i64 aW,.int .i64 aX])) aU (λaZ=>∃a0 a1 a2,zh aZ ⟨a.size,0,none⟩ 0 [.int .i64 a0,.int .i64 a1,.int .i64 a2]/\R (.tuple #[.agg #[.int .i64 a0,.int .i64 a1,.int .i64 a2],.int .i64 aY]) aZ))))))))/\((bif ((za (s0.extract c.toNat (s0.size:Int).toNat) (0:Int).toNat:Int)==45)then true else(bif (decide ((za (s0.extract c.toNat (s0.size:Int).toNat) (0:Int).toNat:Int)>=48))then(decide ((za (s0.extract c.toNat (s0.size:Int).toNat) (0:Int).toNat:Int)<=57))else false))=false->XC Tp 256 #[.string (s0.extract c.toNat (s0.size:Int).toNat),.func (.func 259) #[] #[]] t (λa3 a4=>∃a5,a3=.int .i64 a5/\(0<=(0:Int)/\(0:Int)<=a5/\a5<=((s0.extract c.toNat (s0.size:Int).toNat).size:Int))/\XC Tp 260 #[.string ((s0.extract c.toNat (s0.size:Int).toNat).extract (0:Int).toNat a5.toNat)] a4 (λa6 a7=>∃a8,a6=.int .i64 a8/\((a8 != 0)=true->∃a9,zc a7 ⟨h.size,0,none⟩=some (.int .i64 a9)/\qa Tp 254=true/\XC Tp 254 #[.int .i64 a8,.int .i64 (Aa .i64 (a9+a5)),.pointer (some ⟨h.size,0,none⟩)] a7 (λba bb=>∃bc bd be bf,ba=.tuple #[.agg #[.int .i64 bc,.int .i64 bd,.int .i64 be],.int .i64 bf]/\XRunU Tp (Aj 90 (.pointer (some ⟨a.size,0,none⟩)) (.agg #[.int .i64 bc,.int .i64 bd,.int .i64 be])) bb (λbg=>∃bh bi bj,zh bg ⟨a.size,0,none⟩ 0 [.int .i64 bh,.int .i64 bi,.int .i64 bj]/\R (.tuple #[.agg #[.int .i64 bh,.int .i64 bi,.int .i64 bj],.int .i64 bf]) bg)))/\((a8 != 0)=false->∃bk,zc a7 ⟨h.size,0,none⟩=some (.int .i64 bk)/\qa Tp 255=true/\XC Tp 255 #[.int .i64 bk,.int .i64 2] a7 (λbl bm=>∃bn bo bp bq,bl=.tuple #[.agg #[.int .i64 bn,.int .i64 bo,.int .i64 bp],.int .i64 bq]/\XRunU Tp (Aj 90 (.pointer (some ⟨a.size,0,none⟩)) (.agg #[.int .i64 bn,.int .i64 bo,.int .i64 bp])) bm (λbr=>∃bs bt bu,zh br ⟨a.size,0,none⟩ 0 [.int .i64 bs,.int .i64 bt,.int .i64 bu]/\R (.tuple #[.agg #[.int .i64 bs,.int .i64 bt,.int .i64 bu],.int .i64 bq]) br)))))))))))):
  XC Tp 198 #[.string s0,.int .i64 bz] h R:=
 XF ⟨[(9,8000),(16,8000)],[],[]⟩ [.cell 4 90,.tmp 5] 130 Tryz.func198 H
theorem Xo(p0:Option Addr)(Z:Int)(h:zb)(R:Value->zb->Prop)
  (H:XC Tp 115 #[.pointer p0] h (λa b=>∃c,a=.int .i64 c/\((c != Z)=true->R (.bool false) b)/\((c != Z)=false->XC Tp 116 #[.pointer p0] b (λd e=>d=.tuple #[]/\R (.bool true) e)))):
  XC Tp 199 #[.pointer p0,.int .i64 Z] h R:=
 XF ⟨[],[],[]⟩ [.tmp 4] 11 Tryz.func199 H
theorem Yq(p0:Option Addr)(af:Sl)(h:zb)(R:Value->zb->Prop)
  (H:let b:=h.push (.cells #[.int .i64 0,.int .i64 0] 58);XC Tp 124 #[.pointer p0] b (λc d=>∃e,c=.int .i64 e/\((e != 8)=true->XC Tp 65 #[.pointer p0,.int .i64 2] d (λf g=>∃i,f=.bool i/\XRunU Tp (Aj 58 (.pointer (some ⟨h.size,0,none⟩)) (.agg #[.int .i64 0,.int .i64 0])) g (λj=>∃k l,zh j ⟨h.size,0,none⟩ 0 [.int .i64 k,.int .i64 l]/\R (.tuple #[.string (⟨#[]⟩:Bt),.agg #[.int .i64 k,.int .i64 l],.bool i]) j)))/\((e != 8)=false->∃m,p0=some m/\∃n,zc d (Af m 1)=some (slV n)/\∃o,p0=some o/\∃p,zc d (Af o 2)=some (.int .i64 p)/\∃q,(n.a=some q/\0<=p/\p<n.len)/\∃r s,zh d (Af (q.add (p.toNat*3)) 1) 0 [.int .i64 r,.int .i64 s]/\let t:=d.push (.cells #[.int .i64 0,.int .i64 0] 58);(t)[((Af (q.add (p.toNat*3)) 1):Addr).block]?=(d)[((Af (q.add (p.toNat*3)) 1):Addr).block]?/\(t)[((Af o 2):Addr).block]?=(d)[((Af o 2):Addr).block]?/\(t)[((Af m 1):Addr).block]?=(d)[((Af m 1):Addr).block]?/\XRunU Tp (Aj 58 (.pointer (some ⟨d.size,0,none⟩)) (.agg #[.int .i64 r,.int .i64 s])) t (λu=>∃v,p0=some v/\∃w,zc u (Af v 0)=some (.string w)/\∃x,zc u (Af ⟨d.size,0,none⟩ 0)=some (.int .i64 x)/\∃y,zc u (Af ⟨d.size,0,none⟩ 1)=some (.int .i64 y)/\(0<=x/\x<=y/\y<=w.size)/\XC Tp 69 #[.string (w.extract x.toNat y.toNat)] u (λz A=>∃B C D,z=.tuple #[.string B,.int .i64 C,.int .i64 D]/\∃(E:Int->zb->Prop) (F:Int->zb->Nat),E 0 A/\∀G:Int,∀I:zb,E G I->((decide (G<af.len)=true->∃J,(af.a=some J/\0<=G/\G<af.len)/\∃L,zc I (J.add (G.toNat*1))=some (.string L)/\((L.toList==B.toList)=true->XC Tp 65 #[.pointer p0,.int .i64 7] I (λM N=>∃O,M=.bool O/\XRunU Tp (Aj 58 (.pointer (some ⟨h.size,0,none⟩)) (.agg #[.int .i64 0,.int .i64 0])) N (λP=>∃Q S,zh P ⟨h.size,0,none⟩ 0 [.int .i64 Q,.int .i64 S]/\R (.tuple #[.string (⟨#[]⟩:Bt),.agg #[.int .i64 Q,.int .i64 S],.bool O]) P)))/\((L.toList==B.toList)=false->(E (Aa .i64 (G+1)) I/\F (Aa .i64 (G+1)) I<F G I)))/\(decide (G<af.len)=false->∃T,p0=some T/\∃U,zc I (Af T 2)=some (.int .i64 U)/\∃V,p0=some V/\XRunU Tp (Aj 3 (.pointer (some (Af V 2))) (.int .i64 (Aa .i64 (U+1)))) I (λW=>∃X Y,zh W ⟨d.size,0,none⟩ 0 [.int .i64 X,.int .i64 Y]/\XC Tp 261 #[.pointer p0,.int .i64 7] W (λZ aa=>∃ab,Z=.bool ab/\(aa)[(⟨d.size,0,none⟩:Addr).block]?=(W)[(⟨d.size,0,none⟩:Addr).block]?/\(aa)[(⟨d.size,0,none⟩:Addr).block]?=(W)[(⟨d.size,0,none⟩:Addr).block]?/\XRunU Tp (Aj 58 (.pointer (some ⟨h.size,0,none⟩)) (.agg #[.int .i64 X,.int .i64 Y])) aa (λac=>∃ad ae,zh ac ⟨h.size,0,none⟩ 0 [.int .i64 ad,.int .i64 ae]/\R (.tuple #[.string B,.agg #[.int .i64 ad,.int .i64 ae],.bool ab]) ac)))))))))):
  XC Tp 203 #[.pointer p0,.slice af.a af.len af.cap] h R:=
 XF ⟨[(3,8000),(4,8000),(11,8000)],[(6,[(11,.one (.int .i64))])],[]⟩ [.tmp 4,.cell 5 58,.tmp 6] 69 Tryz.func203 H
theorem zke(t0:Bt)(Z:Int)(h:zb)(R:Value->zb->Prop)
  (H:((!(decide (Z>=t0.size)))=true->(0<=Z/\Z<t0.size))/\((bif (decide (Z>=t0.size))then true else((za t0 Z.toNat:Int) != 34))=true->R (.tuple #[.string (⟨#[]⟩:Bt),.int .i64 Z,.int .i64 2]) h)/\((bif (decide (Z>=t0.size))then true else((za t0 Z.toNat:Int) != 34))=false->let a:=h.push (.cells #[.pointer none,.slice none 0 0] 112);∃(b:Int->zb->Prop) (c:Int->zb->Nat),b (Aa .i64 (Z+1)) a/\∀d:Int,∀e:zb,b d e->((decide (d<t0.size)=true->(0<=d/\d<t0.size)/\(((za t0 d.toNat:Int)==34)=true->XC Tp 87 #[.pointer (some ⟨h.size,0,none⟩)] e (λf g=>∃i,f=.string i/\R (.tuple #[.string i,.int .i64 (Aa .i64 (d+1)),.int .i64 0]) g))/\(((za t0 d.toNat:Int)==34)=false->(0<=d/\d<=t0.size/\(t0.size:Int)<=(t0.size:Int))/\XC Tp 291 #[.string (t0.extract d.toNat (t0.size:Int).toNat)] e (λj k=>∃l m,j=.tuple #[.int .i32 l,.int .i64 m]/\((m==0)=true->R (.tuple #[.string (⟨#[]⟩:Bt),.int .i64 d,.int .i64 2]) k)/\((m==0)=false->XC Tp 83 #[.pointer (some ⟨h.size,0,none⟩),.int .i32 l] k (λn o=>∃p,∃q:Value,n=.tuple #[.int .i64 p,q]/\(b (Aa .i64 (d+m)) o/\c (Aa .i64 (d+m)) o<c d e))))))/\(decide (d<t0.size)=false->R (.tuple #[.string (⟨#[]⟩:Bt),.int .i64 (t0.size:Int),.int .i64 2]) e)))):
  XC Tp 253 #[.string t0,.int .i64 Z] h R:=
 XF ⟨[],[(5,[(1,.one (.int .i64))])],[]⟩ [.tmp 4,.tmp 5,.tmp 6] 51 Tryz.func253 H
theorem zkf(Z:Int)(aa:Int)(c2:Addr)(h:zb)(R:Value->zb->Prop)
  (H:let a:=h.push (.cells #[.int .i64 0,.int .i64 0,.int .i64 0] 90);∃b,zc a c2=some (.int .i64 b)/\XRunU Tp (Aj 90 (.pointer (some ⟨h.size,0,none⟩)) (.agg #[.int .i64 Z,.int .i64 b,.int .i64 aa])) a (λc=>∃d e f,zh c ⟨h.size,0,none⟩ 0 [.int .i64 d,.int .i64 e,.int .i64 f]/\R (.tuple #[.agg #[.int .i64 d,.int .i64 e,.int .i64 f],.int .i64 0]) c)):
  XC Tp 254 #[.int .i64 Z,.int .i64 aa,.pointer (some c2)] h R:=
 XF ⟨[],[],[]⟩ [.cell 5 90,.tmp 6] 12 Tryz.func254 H
theorem ztg(s0:Bt)(Z:FuncId)(aa:Array Value)(ab:Array Value)(h:zb)(R:Value->zb->Prop)
  (H:∃(a:Int->zb->Prop) (b:Int->zb->Nat),a 0 h/\∀c:Int,∀d:zb,a c d->((decide (c<s0.size)=true->(0<=c/\c<s0.size)/\qa Tp Z=true/\XC Tp Z (aa++#[.int .u8 (za s0 c.toNat)]++ab) d (λe f=>∃g,e=.bool g/\((!g)=true->R (.int .i64 c) f)/\((!g)=false->(a (Aa .i64 (c+1)) f/\b (Aa .i64 (c+1)) f<b c d))))/\(decide (c<s0.size)=false->R (.int .i64 (s0.size:Int)) d))):
  XC Tp 256 #[.string s0,.func (.func Z) aa ab] h R:=
 XF ⟨[],[(2,[(8,.one (.int .i64))])],[]⟩ [.tmp 4] 21 Tryz.func256 H
theorem zmv(l0:Bt)(h:zb)(R:Value->zb->Prop)
  (H:let a:=h.push (.cells #[.string l0] 9);R (.func (.func 292) #[] #[.pointer (some ⟨h.size,0,none⟩)]) a):
  XC Tp 257 #[.string l0] h R:=
 XF ⟨[],[],[]⟩ [.tmp 2] 4 Tryz.func257 H
theorem Q4(p0:Option Addr)(Z:Int)(h:zb)(R:Value->zb->Prop)
  (H:XC Tp 124 #[.pointer p0] h (λa b=>∃c,a=.int .i64 c/\((c != Z)=true->XC Tp 65 #[.pointer p0,.int .i64 2] b (λd e=>∃f,d=.bool f/\R (.bool f) e))/\((c != Z)=false->∃g,p0=some g/\∃i,zc b (Af g 2)=some (.int .i64 i)/\∃j,p0=some j/\XRunU Tp (Aj 3 (.pointer (some (Af j 2))) (.int .i64 (Aa .i64 (i+1)))) b (λk=>R (.bool true) k)))):
  XC Tp 261 #[.pointer p0,.int .i64 Z] h R:=
 XF ⟨[],[],[]⟩ [.tmp 4] 18 Tryz.func261 H
theorem zg8(c0:Int)(c1:Addr)(h:zb)(R:Value->zb->Prop)
  (H:∃a,zc h c1=some (.string a)/\XC Tp 212 #[.string a,.int .u8 c0] h (λb c=>∃d,b=.int .i64 d/\R (.bool (decide (d>=0))) c)):
  XC Tp 292 #[.int .u8 c0,.pointer (some c1)] h R:=
 XF ⟨[],[],[]⟩ [.tmp 3] 8 Tryz.func292 H
theorem Zf(s0:Bt)(aM:Int)(aL:Int)(h:zb)(R:Value->zb->Prop)
  (H:((s0.toList==(⟨#[]⟩:Bt).toList)=true->R (.tuple #[.int .u64 0,.iface 287 (.int .i64 2)]) h)/\((s0.toList==(⟨#[]⟩:Bt).toList)=false->∀b:Bt->Int->zb->Prop,(∀c:Bt,∀d:Int,∀e:zb,(∀f:Int->zb->Prop,(∀g:Int,∀i:zb,(∀j:Int->zb->Prop,(∀k:Int,∀l:zb,(0<=(Aa .u64 g)/\XRun Tp (convert 9 110 (.string c)) l (λm n=>∃o,m=slV o/\∃(p:Bool->Int->Int->zb->Prop) (q:Bool->Int->Int->zb->Nat),p false 0 0 n/\∀r:Bool,∀s t:Int,∀u:zb,p r s t u->((decide (t<o.len)=true->∃v,(o.a=some v/\0<=t/\t<o.len)/\∃w,zc u (v.add (t.toNat*1))=some (.int .u8 w)/\∀x:Bool->Int->zb->Prop,(∀y:Bool,∀z:Int,∀A:zb,((decide (z>=(Aa .u8 d))=true->R (.tuple #[.int .u64 0,.iface 287 (.int .i64 2)]) A)/\(decide (z>=(Aa .u8 d))=false->(decide (s>=k)=true->R (.tuple #[.int .u64 (Aa .u64 ((Aa .u64 (1*2 ^ (min (Aa .u64 g).toNat 64)))-1)),.iface 287 (.int .i64 1)]) A)/\(decide (s>=k)=false->((bif (decide ((Aa .u64 ((Aa .u64 (s*(Aa .u64 d)))+(Aa .u64 z)):Int)<(Aa .u64 (s*(Aa .u64 d)))))then true else(decide ((Aa .u64 ((Aa .u64 (s*(Aa .u64 d)))+(Aa .u64 z)):Int)>(Aa .u64 ((Aa .u64 (1*2 ^ (min (Aa .u64 g).toNat 64)))-1)))))=true->R (.tuple #[.int .u64 (Aa .u64 ((Aa .u64 (1*2 ^ (min (Aa .u64 g).toNat 64)))-1)),.iface 287 (.int .i64 1)]) A)/\((bif (decide ((Aa .u64 ((Aa .u64 (s*(Aa .u64 d)))+(Aa .u64 z)):Int)<(Aa .u64 (s*(Aa .u64 d)))))then true else(decide ((Aa .u64 ((Aa .u64 (s*(Aa .u64 d)))+(Aa .u64 z)):Int)>(Aa .u64 ((Aa .u64 (1*2 ^ (min (Aa .u64 g).toNat 64)))-1)))))=false->(p y (Aa .u64 ((Aa .u64 (s*(Aa .u64 d)))+(Aa .u64 z))) (Aa .i64 (t+1)) A/\q y (Aa .u64 ((Aa .u64 (s*(Aa .u64 d)))+(Aa .u64 z))) (Aa .i64 (t+1)) A<q r s t u)))))->x y z A)->((bif (w==95)then(aM==0)else false)=true->(p true s (Aa .i64 (t+1)) u/\q true s (Aa .i64 (t+1)) u<q r s t u))/\((bif (w==95)then(aM==0)else false)=false->((bif (decide ((48:Int)<=w))then(decide (w<=57))else false)=true->x r (Aa .u8 (w-48)) u)/\((bif (decide ((48:Int)<=w))then(decide (w<=57))else false)=false->XC Tp 325 #[.int .u8 w] u (λB C=>∃D,B=.int .u8 D/\∃E:Value->zb->Prop,(decide ((97:Int)<=D)=true->XC Tp 325 #[.int .u8 w] C (λF G=>∃I,F=.int .u8 I/\E (.int .u8 I) G))/\(decide ((97:Int)<=D)=false->∃J,E (.int .u8 J) C)/\(decide ((97:Int)<=D)=true->∀L M,E L M->∃N,L=.int .u8 N)/\∀O:Int,∀P,E (.int .u8 O) P->((bif (decide ((97:Int)<=D))then(decide (O<=122))else false)=true->XC Tp 325 #[.int .u8 w] P (λQ S=>∃T,Q=.int .u8 T/\x r (Aa .u8 ((Aa .u8 (T-97))+10)) S))/\((bif (decide ((97:Int)<=D))then(decide (O<=122))else false)=false->R (.tuple #[.int .u64 0,.iface 287 (.int .i64 2)]) P)))))/\(decide (t<o.len)=false->∃U:Value->zb->Prop,(r=true->XC Tp 326 #[.string s0] u (λV W=>∃X,V=.bool X/\U (.bool X) W))/\(r=false->∃Y,U (.bool Y) u)/\(r=true->∀Z aa,U Z aa->∃ab,Z=.bool ab)/\∀ac:Bool,∀ad,U (.bool ac) ad->((bif r then(!ac)else false)=true->R (.tuple #[.int .u64 0,.iface 287 (.int .i64 2)]) ad)/\((bif r then(!ac)else false)=false->R (.tuple #[.int .u64 s,.nilIface]) ad)))))->j k l)->((d==10)=true->j 1844674407370955162 i)/\((d==10)=false->((d==16)=true->j 1152921504606846976 i)/\((d==16)=false->IntKind.u64=IntKind.u64/\(Aa .u64 d)≠0/\j (Aa .u64 ((Aa .u64 ((18446744073709551615:Int).tdiv (Aa .u64 d)))+1)) i)))->f g i)->((aL==0)=true->f 64 e)/\((aL==0)=false->((bif (decide (aL<0))then true else(decide (aL>64)))=true->R (.tuple #[.int .u64 0,.iface 287 (.int .i64 4)]) e)/\((bif (decide (aL<0))then true else(decide (aL>64)))=false->f aL e)))->b c d e)->((bif (decide ((2:Int)<=aM))then(decide (aM<=36))else false)=true->b s0 aM h)/\((bif (decide ((2:Int)<=aM))then(decide (aM<=36))else false)=false->((aM==0)=true->(0<=(0:Int)/\(0:Int)<(s0.size:Int))/\(((za s0 (0:Int).toNat:Int)==48)=true->(decide ((s0.size:Int)>=3)=true->(0<=(1:Int)/\(1:Int)<(s0.size:Int)))/\∃ae:Value->zb->Prop,(decide ((s0.size:Int)>=3)=true->XC Tp 325 #[.int .u8 (za s0 (1:Int).toNat)] h (λaf ag=>∃ah,af=.int .u8 ah/\ae (.int .u8 ah) ag))/\(decide ((s0.size:Int)>=3)=false->∃ai,ae (.int .u8 ai) h)/\(decide ((s0.size:Int)>=3)=true->∀aj ak,ae aj ak->∃al,aj=.int .u8 al)/\∀am:Int,∀an,ae (.int .u8 am) an->((bif (decide ((s0.size:Int)>=3))then(am==98)else false)=true->(0<=(2:Int)/\(2:Int)<=(s0.size:Int)/\(s0.size:Int)<=(s0.size:Int))/\b (s0.extract (2:Int).toNat (s0.size:Int).toNat) 2 an)/\((bif (decide ((s0.size:Int)>=3))then(am==98)else false)=false->(decide ((s0.size:Int)>=3)=true->(0<=(1:Int)/\(1:Int)<(s0.size:Int)))/\∃ao:Value->zb->Prop,(decide ((s0.size:Int)>=3)=true->XC Tp 325 #[.int .u8 (za s0 (1:Int).toNat)] an (λap aq=>∃ar,ap=.int .u8 ar/\ao (.int .u8 ar) aq))/\(decide ((s0.size:Int)>=3)=false->∃au,ao (.int .u8 au) an)/\(decide ((s0.size:Int)>=3)=true->∀av aw,ao av aw->∃ax,av=.int .u8 ax)/\∀ay:Int,∀az,ao (.int .u8 ay) az->((bif (decide ((s0.size:Int)>=3))then(ay==111)else false)=true->(0<=(2:Int)/\(2:Int)<=(s0.size:Int)/\(s0.size:Int)<=(s0.size:Int))/\b (s0.extract (2:Int).toNat (s0.size:Int).toNat) 8 az)/\((bif (decide ((s0.size:Int)>=3))then(ay==111)else false)=false->(decide ((s0.size:Int)>=3)=true->(0<=(1:Int)/\(1:Int)<(s0.size:Int)))/\∃aA:Value->zb->Prop,(decide ((s0.size:Int)>=3)=true->XC Tp 325 #[.int .u8 (za s0 (1:Int).toNat)] az (λaB aC=>∃aD,aB=.int .u8 aD/\aA (.int .u8 aD) aC))/\(decide ((s0.size:Int)>=3)=false->∃aE,aA (.int .u8 aE) az)/\(decide ((s0.size:Int)>=3)=true->∀aF aG,aA aF aG->∃aH,aF=.int .u8 aH)/\∀aI:Int,∀aJ,aA (.int .u8 aI) aJ->((bif (decide ((s0.size:Int)>=3))then(aI==120)else false)=true->(0<=(2:Int)/\(2:Int)<=(s0.size:Int)/\(s0.size:Int)<=(s0.size:Int))/\b (s0.extract (2:Int).toNat (s0.size:Int).toNat) 16 aJ)/\((bif (decide ((s0.size:Int)>=3))then(aI==120)else false)=false->(0<=(1:Int)/\(1:Int)<=(s0.size:Int)/\(s0.size:Int)<=(s0.size:Int))/\b (s0.extract (1:Int).toNat (s0.size:Int).toNat) 8 aJ))))/\(((za s0 (0:Int).toNat:Int)==48)=false->b s0 10 h))/\((aM==0)=false->R (.tuple #[.int .u64 0,.iface 287 (.int .i64 3)]) h)))):
  XC Tp 316 #[.string s0,.int .i64 aM,.int .i64 aL] h R:=
 XF ⟨[],[(36,[(12,.one (.bool)),(13,.one (.int .u64)),(101,.one (.int .i64))])],[(21,[(0,.one (.str)),(1,.one (.int .i64))]),(25,[(2,.one (.int .i64))]),(32,[(10,.one (.int .u64))]),(46,[(12,.one (.bool)),(16,.one (.int .u8))])]⟩ [.tmp 6,.tmp 7] 172 Tryz.func316 H
theorem Xp(s0:Bt)(aa:Int)(Z:Int)(h:zb)(R:Value->zb->Prop)
  (H:XC Tp 316 #[.string s0,.int .i64 aa,.int .i64 Z] h (λa b=>∃c,∃d:Value,a=.tuple #[.int .u64 c,d]/\ifc d=true/\((!z5d d)=true->XC Tp 267 #[.string (⟨#[80,97,114,115,101,85,105,110,116]⟩:Bt),.string s0,.int .i64 aa,.int .i64 Z,d] b (λe f=>∃g:Value,e=g/\R (.tuple #[.int .u64 c,g]) f))/\((!z5d d)=false->R (.tuple #[.int .u64 c,.nilIface]) b))):
  XC Tp 329 #[.string s0,.int .i64 aa,.int .i64 Z] h R:=
 XF ⟨[],[],[]⟩ [.tmp 6,.tmp 7] 26 Tryz.func329 H
end
section
theorem zmw(gl:Fr)(d0:Bt×List (Int×(Int×Int)×(Int×Int)×(List Int)×List (Int×Int)))(k1:Int)(R:(Tr×Bool)->Prop)
  (H:((bif (decide (k1<0))then true else(decide (k1>=d0.2.length)))=true->R (Tr.mk 0 (⟨#[]⟩:Bt) [] [],false))/\((bif (decide (k1<0))then true else(decide (k1>=d0.2.length)))=false->PC Tp gl 59 [Arg.mk (.pair .str (.row (.pair (.int .i64) (.pair (.pair (.int .i64) (.int .i64)) (.pair (.pair (.int .i64) (.int .i64)) (.pair (.row (.int .i64)) (.row (.pair (.int .i64) (.int .i64))))))))) (d0.1,d0.2),Arg.mk (.int .i64) k1,Arg.mk (.int .i64) 1] [.tree] (λa:Tr=>R (Tr.mk a.kind a.text a.keys a.items,true)))):
  PC Tp gl 21 [Arg.mk (.pair .str (.row (.pair (.int .i64) (.pair (.pair (.int .i64) (.int .i64)) (.pair (.pair (.int .i64) (.int .i64)) (.pair (.row (.int .i64)) (.row (.pair (.int .i64) (.int .i64))))))))) d0,Arg.mk (.int .i64) k1] [.tree,.bool] R:=
 PF ⟨[],[],[],[]⟩ [.cell 4 26,.tmp 5] 19 Tryz.func21 H
theorem zth(gl:Fr)(d0:Bt×List (Int×(Int×Int)×(Int×Int)×(List Int)×List (Int×Int)))(Z:List Bt)(R:(Int×Bool)->Prop)
  (H:∃a:Bool->Prop,((!((d0.2.length:Int)==0))=true->PC Tp gl 70 [Arg.mk (.row .str) Z] [.bool] a)/\∀b:Bool,((!((d0.2.length:Int)==0))=true->a b)->((bif ((d0.2.length:Int)==0)then true else(!b))=true->R (0,false))/\((bif ((d0.2.length:Int)==0)then true else(!b))=false->∃(c:Int->Int->Prop) (d:Int->Int->Nat),c 0 0/\∀e f:Int,c e f->((decide (f<Z.length)=true->∃g,(0<=f/\Z[f.toNat]?=some g)/\PC Tp gl 71 [Arg.mk (.pair .str (.row (.pair (.int .i64) (.pair (.pair (.int .i64) (.int .i64)) (.pair (.pair (.int .i64) (.int .i64)) (.pair (.row (.int .i64)) (.row (.pair (.int .i64) (.int .i64))))))))) (d0.1,d0.2),Arg.mk (.int .i64) e,Arg.mk .str g] [.int .i64] (λi:Int=>PC Tp gl 72 [Arg.mk (.pair .str (.row (.pair (.int .i64) (.pair (.pair (.int .i64) (.int .i64)) (.pair (.pair (.int .i64) (.int .i64)) (.pair (.row (.int .i64)) (.row (.pair (.int .i64) (.int .i64))))))))) (d0.1,d0.2),Arg.mk (.int .i64) i] [.bool] (λj:Bool=>((!j)=true->R (0,false))/\((!j)=false->(c i (Aa .i64 (f+1))/\d i (Aa .i64 (f+1))<d e f)))))/\(decide (f<Z.length)=false->R (e,true))))):
  PC Tp gl 23 [Arg.mk (.pair .str (.row (.pair (.int .i64) (.pair (.pair (.int .i64) (.int .i64)) (.pair (.pair (.int .i64) (.int .i64)) (.pair (.row (.int .i64)) (.row (.pair (.int .i64) (.int .i64))))))))) d0,Arg.mk (.row .str) Z] [.int .i64,.bool] R:=
 PF ⟨[],[],[(5,⟨[(6,.one (.dat (.int .i64))),(20,.one (.dat (.int .i64)))],[],[2],[100384,101280]⟩)],[]⟩ [.tmp 4,.tmp 5] 34 Tryz.func23 H
theorem zel(gl:Fr)(d0:Bt×List (Int×(Int×Int)×(Int×Int)×(List Int)×List (Int×Int)))(Z:List Bt)(R:(Int×Bool)->Prop)
  (H:PC Tp gl 73 [Arg.mk (.row .str) Z] [.bool] (λa:Bool=>((bif (!a)then true else((d0.2.length:Int)==0))=true->R (0,false))/\((bif (!a)then true else((d0.2.length:Int)==0))=false->∃(b:Int->Int->Prop) (c:Int->Int->Nat),b 0 0/\∀d e:Int,b d e->((decide (e<Z.length)=true->∃f,(0<=e/\Z[e.toNat]?=some f)/\PC Tp gl 22 [Arg.mk (.pair .str (.row (.pair (.int .i64) (.pair (.pair (.int .i64) (.int .i64)) (.pair (.pair (.int .i64) (.int .i64)) (.pair (.row (.int .i64)) (.row (.pair (.int .i64) (.int .i64))))))))) (d0.1,d0.2),Arg.mk (.int .i64) d] [.tree] (λg:Tr=>PC Tp gl 74 [Arg.mk .tree (Tr.mk g.kind g.text g.keys g.items),Arg.mk .str f] [.int .i64] (λi:Int=>(decide (i<0)=true->R (0,false))/\(decide (i<0)=false->∃j:Int×(Int×Int)×(Int×Int)×(List Int)×List (Int×Int),(0<=d/\d0.2[d.toNat]?=some j)/\∃k,(0<=i/\j.2.2.2.1[i.toNat]?=some k)/\(b k (Aa .i64 (e+1))/\c k (Aa .i64 (e+1))<c d e)))))/\(decide (e<Z.length)=false->R (d,true)))))):
  PC Tp gl 24 [Arg.mk (.pair .str (.row (.pair (.int .i64) (.pair (.pair (.int .i64) (.int .i64)) (.pair (.pair (.int .i64) (.int .i64)) (.pair (.row (.int .i64)) (.row (.pair (.int .i64) (.int .i64))))))))) d0,Arg.mk (.row .str) Z] [.int .i64,.bool] R:=
 PF ⟨[],[(8,7,[],[0,1,3,4,5,6,2],[])],[(6,⟨[(7,.one (.dat (.int .i64))),(8,.one (.dat (.int .i64)))],[],[2],[100448,100512]⟩)],[]⟩ [.tmp 4,.tmp 5] 46 Tryz.func24 H
theorem zkg(gl:Fr)(d0:Bt×List (Int×(Int×Int)×(Int×Int)×(List Int)×List (Int×Int)))(s1:Int×Int)(R:Bt->Prop)
  (H:((bif (bif (decide (s1.1<0))then true else(decide (s1.1>s1.2)))then true else(decide (s1.2>d0.1.size)))=true->R (⟨#[]⟩:Bt))/\((bif (bif (decide (s1.1<0))then true else(decide (s1.1>s1.2)))then true else(decide (s1.2>d0.1.size)))=false->(0<=s1.1/\s1.1<=s1.2/\s1.2<=d0.1.size)/\R (d0.1.extract s1.1.toNat s1.2.toNat))):
  PC Tp gl 31 [Arg.mk (.pair .str (.row (.pair (.int .i64) (.pair (.pair (.int .i64) (.int .i64)) (.pair (.pair (.int .i64) (.int .i64)) (.pair (.row (.int .i64)) (.row (.pair (.int .i64) (.int .i64))))))))) d0,Arg.mk (.pair (.int .i64) (.int .i64)) s1] [.str] R:=
 PF ⟨[],[],[],[]⟩ [.tmp 4] 30 Tryz.func31 H
theorem Xq(gl:Fr)(s0:Bt)(R:((List (Int×Int×Int))×Int×Int)->Prop)
  (H:(decide ((s0.size:Int)>65536)=true->R ([],0,3))/\(decide ((s0.size:Int)>65536)=false->∃(a:(List (Int×Int×Int))->Int->Prop) (b:(List (Int×Int×Int))->Int->Nat),a [] 0/\∀c:List (Int×Int×Int),∀d:Int,a c d->((decide (d<s0.size)=true->PC Tp gl 122 [Arg.mk .str s0,Arg.mk (.int .i64) d] [.int .i64,.int .i64,.int .i64] (λe:Int×Int×Int=>((e.2.2 != 0)=true->R ([],e.2.1,e.2.2))/\((e.2.2 != 0)=false->((c.length+Cd ([(e.1,(d,e.2.1))]:List (Int×Int×Int)))*24<=140737488355328/\(a (c++[(e.1,(d,e.2.1))]) e.2.1/\b (c++[(e.1,(d,e.2.1))]) e.2.1<b c d)))))/\(decide (d<s0.size)=false->R (c,d,0))))):
  PC Tp gl 63 [Arg.mk .str s0] [.row (.pair (.int .i64) (.pair (.int .i64) (.int .i64))),.int .i64,.int .i64] R:=
 PF ⟨[],[],[(5,⟨[(5,.one (.own 90 (.pair (.int .i64) (.pair (.int .i64) (.int .i64))))),(6,.one (.dat (.int .i64)))],[],[],[100320,100384]⟩)],[]⟩ [.tmp 2,.tmp 3,.tmp 4] 39 Tryz.func63 H
theorem za6(gl:Fr)(d0:Bt×List (Int×(Int×Int)×(Int×Int)×(List Int)×List (Int×Int)))(s1:Int×Int)(R:Bt->Prop)
  (H:((bif (bif (decide (s1.1<0))then true else(decide (s1.1>s1.2)))then true else(decide (s1.2>d0.1.size)))=true->R (⟨#[]⟩:Bt))/\((bif (bif (decide (s1.1<0))then true else(decide (s1.1>s1.2)))then true else(decide (s1.2>d0.1.size)))=false->(0<=s1.1/\s1.1<=s1.2/\s1.2<=d0.1.size)/\R (d0.1.extract s1.1.toNat s1.2.toNat))):
  PC Tp gl 66 [Arg.mk (.pair .str (.row (.pair (.int .i64) (.pair (.pair (.int .i64) (.int .i64)) (.pair (.pair (.int .i64) (.int .i64)) (.pair (.row (.int .i64)) (.row (.pair (.int .i64) (.int .i64))))))))) d0,Arg.mk (.pair (.int .i64) (.int .i64)) s1] [.str] R:=
 PF ⟨[],[],[],[]⟩ [.tmp 4] 30 Tryz.func66 H
theorem Wv(gl:Fr)(t0:Bt)(R:(Bt×Int×Int)->Prop)
  (H:PC Tp gl 131 [Arg.mk .str t0,Arg.mk (.int .i64) 0] [.str,.int .i64,.int .i64] (λa:Bt×Int×Int=>((bif (a.2.2==0)then(decide (a.2.1<t0.size))else false)=true->R ((⟨#[]⟩:Bt),a.2.1,2))/\((bif (a.2.2==0)then(decide (a.2.1<t0.size))else false)=false->R (a.1,a.2.1,a.2.2)))):
  PC Tp gl 69 [Arg.mk .str t0] [.str,.int .i64,.int .i64] R:=
 PF ⟨[],[],[],[]⟩ [.tmp 2,.tmp 3,.tmp 4] 26 Tryz.func69 H
theorem zo6(gl:Fr)(d0:Bt×List (Int×(Int×Int)×(Int×Int)×(List Int)×List (Int×Int)))(k1:Int)(Z:Bt)(R:Int->Prop)
  (H:∃a:Int×(Int×Int)×(Int×Int)×(List Int)×List (Int×Int),(0<=k1/\d0.2[k1.toNat]?=some a)/\∃b:Int×(Int×Int)×(Int×Int)×(List Int)×List (Int×Int),(0<=k1/\d0.2[k1.toNat]?=some b)/\((b.1==5)=true->PC Tp gl 135 [Arg.mk .str Z] [.int .i64,.bool] (λc:Int×Bool=>((bif c.2 then(decide (c.1<a.2.2.2.1.length))else false)=true->∃d,(0<=c.1/\a.2.2.2.1[c.1.toNat]?=some d)/\R d)/\((bif c.2 then(decide (c.1<a.2.2.2.1.length))else false)=false->R (-1))))/\((b.1==5)=false->((b.1==6)=true->∃(e:Int->Prop) (f:Int->Nat),e 0/\∀g:Int,e g->((decide (g<a.2.2.2.1.length)=true->∃i,(0<=g/\a.2.2.2.1[g.toNat]?=some i)/\PC Tp gl 72 [Arg.mk (.pair .str (.row (.pair (.int .i64) (.pair (.pair (.int .i64) (.int .i64)) (.pair (.pair (.int .i64) (.int .i64)) (.pair (.row (.int .i64)) (.row (.pair (.int .i64) (.int .i64))))))))) (d0.1,d0.2),Arg.mk (.int .i64) i] [.bool] (λj:Bool=>∃k,(j=true->(0<=g/\a.2.2.2.1[g.toNat]?=some k))/\∃l:Bt->Prop,(j=true->PC Tp gl 112 [Arg.mk (.pair .str (.row (.pair (.int .i64) (.pair (.pair (.int .i64) (.int .i64)) (.pair (.pair (.int .i64) (.int .i64)) (.pair (.row (.int .i64)) (.row (.pair (.int .i64) (.int .i64))))))))) (d0.1,d0.2),Arg.mk (.int .i64) k] [.str] l)/\∀m:Bt,(j=true->l m)->((bif j then(m.toList==Z.toList)else false)=true->∃n,(0<=g/\a.2.2.2.1[g.toNat]?=some n)/\R n)/\((bif j then(m.toList==Z.toList)else false)=false->(e (Aa .i64 (g+1))/\f (Aa .i64 (g+1))<f g))))/\(decide (g<a.2.2.2.1.length)=false->R (-1))))/\((b.1==6)=false->R (-1)))):
  PC Tp gl 71 [Arg.mk (.pair .str (.row (.pair (.int .i64) (.pair (.pair (.int .i64) (.int .i64)) (.pair (.pair (.int .i64) (.int .i64)) (.pair (.row (.int .i64)) (.row (.pair (.int .i64) (.int .i64))))))))) d0,Arg.mk (.int .i64) k1,Arg.mk .str Z] [.int .i64] R:=
 PF ⟨[],[(11,14,[],[0,1,2,3,4,5,6,7,8,9,10,11,13,12],[])],[(9,⟨[(45,.one (.dat (.int .i64)))],[],[3],[102880]⟩)],[]⟩ [.tmp 6] 69 Tryz.func71 H
theorem zkh(gl:Fr)(d0:Bt×List (Int×(Int×Int)×(Int×Int)×(List Int)×List (Int×Int)))(k1:Int)(R:Bool->Prop)
  (H:R (bif (decide (k1>=0))then(decide (k1<d0.2.length))else false)):
  PC Tp gl 72 [Arg.mk (.pair .str (.row (.pair (.int .i64) (.pair (.pair (.int .i64) (.int .i64)) (.pair (.pair (.int .i64) (.int .i64)) (.pair (.row (.int .i64)) (.row (.pair (.int .i64) (.int .i64))))))))) d0,Arg.mk (.int .i64) k1] [.bool] R:=
 PF ⟨[],[],[],[]⟩ [.tmp 4] 14 Tryz.func72 H
theorem zmx(gl:Fr)(Z:Int)(s1:Bt)(R:Bt->Prop)
  (H:((Z==2)=true->R s1)/\((Z==2)=false->((Z==3)=true->PC Tp gl 25 [Arg.mk .str s1] [.pair .bool (.pair .str (.int .i64)),.int .i64] (λa:(Bool×Bt×Int)×Int=>PC Tp gl 26 [Arg.mk (.pair .bool (.pair .str (.int .i64))) (a.1.1,(a.1.2.1,a.1.2.2))] [.str] (λb:Bt=>R b)))/\((Z==3)=false->((Z==4)=true->PC Tp gl 196 [Arg.mk .str s1] [.str,.int .i64,.int .i64] (λc:Bt×Int×Int=>R c.1))/\((Z==4)=false->R (⟨#[]⟩:Bt))))):
  PC Tp gl 111 [Arg.mk (.int .i64) Z,Arg.mk .str s1] [.str] R:=
 PF ⟨[],[],[],[]⟩ [.tmp 4] 32 Tryz.func111 H
theorem zo7(gl:Fr)(d0:Bt×List (Int×(Int×Int)×(Int×Int)×(List Int)×List (Int×Int)))(k1:Int)(R:Bt->Prop)
  (H:∃a:Int×(Int×Int)×(Int×Int)×(List Int)×List (Int×Int),(0<=k1/\d0.2[k1.toNat]?=some a)/\PC Tp gl 31 [Arg.mk (.pair .str (.row (.pair (.int .i64) (.pair (.pair (.int .i64) (.int .i64)) (.pair (.pair (.int .i64) (.int .i64)) (.pair (.row (.int .i64)) (.row (.pair (.int .i64) (.int .i64))))))))) (d0.1,d0.2),Arg.mk (.pair (.int .i64) (.int .i64)) (a.2.2.1.1,a.2.2.1.2)] [.str] (λb:Bt=>PC Tp gl 196 [Arg.mk .str b] [.str,.int .i64,.int .i64] (λc:Bt×Int×Int=>R c.1))):
  PC Tp gl 112 [Arg.mk (.pair .str (.row (.pair (.int .i64) (.pair (.pair (.int .i64) (.int .i64)) (.pair (.pair (.int .i64) (.int .i64)) (.pair (.row (.int .i64)) (.row (.pair (.int .i64) (.int .i64))))))))) d0,Arg.mk (.int .i64) k1] [.str] R:=
 PF ⟨[],[(1,13,[],[0,1,2,3,4,5,6,7,8,9,10,11,12],[11,12])],[],[]⟩ [.tmp 4] 22 Tryz.func112 H
theorem zg9(gl:Fr)(Z:Int)(R:Int->Prop)
  (H:((Z==12)=true->R 1)/\((Z==12)=false->∀a:Bool->Prop,(∀b:Bool,((b=true->R 2)/\(b=false->((Z==9)=true->R 3)/\((Z==9)=false->((Z==8)=true->R 4)/\((Z==8)=false->((Z==4)=true->R 5)/\((Z==4)=false->((Z==2)=true->R 6)/\((Z==2)=false->R 0))))))->a b)->((Z==10)=true->a (Z==10))/\((Z==10)=false->a (Z==11)))):
  PC Tp gl 114 [Arg.mk (.int .i64) Z] [.int .i64] R:=
 PF ⟨[],[],[],[(6,⟨[(6,.one (.dat .bool))],[],[],[100384]⟩)]⟩ [.tmp 2] 17 Tryz.func114 H
theorem zdj(gl:Fr)(s0:Bt)(Z:Int)(R:(Int×Int×Int)->Prop)
  (H:(0<=Z/\Z<s0.size)/\∃(a:Int->Prop) (b:Int->Nat),a 0/\∀c:Int,a c->(((decide (c<(((⟨#[123,125,91,93,44,58]⟩:Bt)).size:Int)))=true->(0<=c/\c<(((⟨#[123,125,91,93,44,58]⟩:Bt)).size:Int))/\(((za s0 Z.toNat:Int)==(za (⟨#[123,125,91,93,44,58]⟩:Bt) c.toNat))=true->R (Aa .i64 (2+c),Aa .i64 (Z+1),0))/\(((za s0 Z.toNat:Int)==(za (⟨#[123,125,91,93,44,58]⟩:Bt) c.toNat))=false->(a (Aa .i64 (c+1))/\b (Aa .i64 (c+1))<b c)))/\((decide (c<(((⟨#[123,125,91,93,44,58]⟩:Bt)).size:Int)))=false->PC Tp gl 200 [Arg.mk (.int .u8) (za s0 Z.toNat),Arg.mk .str (⟨#[32,9,10,13]⟩:Bt)] [.bool] (λd:Bool=>(d=true->PC Tp gl 201 [Arg.mk .str s0,Arg.mk (.int .i64) Z,Arg.mk .str (⟨#[32,9,10,13]⟩:Bt)] [.int .i64] (λe:Int=>R (1,e,0)))/\(d=false->(((za s0 Z.toNat:Int)==34)=true->PC Tp gl 202 [Arg.mk .str s0,Arg.mk (.int .i64) Z] [.int .i64,.int .i64] (λf:Int×Int=>R (8,f.1,f.2)))/\(((za s0 Z.toNat:Int)==34)=false->PC Tp gl 200 [Arg.mk (.int .u8) (za s0 Z.toNat),Arg.mk .str (⟨#[45,48,49,50,51,52,53,54,55,56,57]⟩:Bt)] [.bool] (λg:Bool=>(g=true->PC Tp gl 201 [Arg.mk .str s0,Arg.mk (.int .i64) Z,Arg.mk .str (⟨#[45,43,46,48,49,50,51,52,53,54,55,56,57,101,69]⟩:Bt)] [.int .i64] (λi:Int=>(0<=Z/\Z<=i/\i<=s0.size)/\PC Tp gl 67 [Arg.mk .str (s0.extract Z.toNat i.toNat)] [.pair .bool (.pair .str (.int .i64)),.int .i64] (λj:(Bool×Bt×Int)×Int=>((j.2 != 0)=true->R (0,Z,j.2))/\((j.2 != 0)=false->R (9,i,0)))))/\(g=false->PC Tp gl 201 [Arg.mk .str s0,Arg.mk (.int .i64) Z,Arg.mk .str (⟨#[97,98,99,100,101,102,103,104,105,106,107,108,109,110,111,112,113,114,115,116,117,118,119,120,121,122]⟩:Bt)] [.int .i64] (λk:Int=>(0<=Z/\Z<=k/\k<=s0.size)/\(((s0.extract Z.toNat k.toNat:Bt).toList==(⟨#[116,114,117,101]⟩:Bt).toList)=true->R (10,k,0))/\(((s0.extract Z.toNat k.toNat:Bt).toList==(⟨#[116,114,117,101]⟩:Bt).toList)=false->(((s0.extract Z.toNat k.toNat:Bt).toList==(⟨#[102,97,108,115,101]⟩:Bt).toList)=true->R (11,k,0))/\(((s0.extract Z.toNat k.toNat:Bt).toList==(⟨#[102,97,108,115,101]⟩:Bt).toList)=false->(((s0.extract Z.toNat k.toNat:Bt).toList==(⟨#[110,117,108,108]⟩:Bt).toList)=true->R (12,k,0))/\(((s0.extract Z.toNat k.toNat:Bt).toList==(⟨#[110,117,108,108]⟩:Bt).toList)=false->R (0,Z,2))))))))))))):
  PC Tp gl 122 [Arg.mk .str s0,Arg.mk (.int .i64) Z] [.int .i64,.int .i64,.int .i64] R:=
 PF ⟨[],[],[(4,⟨[(9,.one (.dat (.int .i64)))],[],[],[100576]⟩)],[]⟩ [.tmp 4,.tmp 5,.tmp 6] 84 Tryz.func122 H
theorem Xr(gl:Fr)(Z:Int)(R:Int->Prop)
  (H:((Z==12)=true->R 1)/\((Z==12)=false->∀a:Bool->Prop,(∀b:Bool,((b=true->R 2)/\(b=false->((Z==9)=true->R 3)/\((Z==9)=false->((Z==8)=true->R 4)/\((Z==8)=false->R 0))))->a b)->((Z==10)=true->a (Z==10))/\((Z==10)=false->a (Z==11)))):
  PC Tp gl 123 [Arg.mk (.int .i64) Z] [.int .i64] R:=
 PF ⟨[],[],[],[(6,⟨[(6,.one (.dat .bool))],[],[],[100384]⟩)]⟩ [.tmp 2] 13 Tryz.func123 H
theorem zcn(gl:Fr)(t0:Bt)(Z:Int)(R:(Bt×Int×Int)->Prop)
  (H:((!(decide (Z>=t0.size)))=true->(0<=Z/\Z<t0.size))/\((bif (decide (Z>=t0.size))then true else((za t0 Z.toNat:Int) != 34))=true->R ((⟨#[]⟩:Bt),Z,2))/\((bif (decide (Z>=t0.size))then true else((za t0 Z.toNat:Int) != 34))=false->∃(a:Bt->Int->Prop) (b:Bt->Int->Nat),a (⟨#[]⟩:Bt) (Aa .i64 (Z+1))/\∀c:Bt,∀d:Int,a c d->((decide (d<t0.size)=true->(0<=d/\d<t0.size)/\(((za t0 d.toNat:Int)==34)=true->R (c,Aa .i64 (d+1),0))/\(((za t0 d.toNat:Int)==34)=false->(0<=d/\d<t0.size)/\(((za t0 d.toNat:Int)==92)=true->PC Tp gl 205 [Arg.mk .str t0,Arg.mk (.int .i64) d] [.str,.int .i64] (λe:Bt×Int=>((e.2==0)=true->R ((⟨#[]⟩:Bt),d,2))/\((e.2==0)=false->js (c.size+e.1.size)/\(a (c++e.1) (Aa .i64 (d+e.2))/\b (c++e.1) (Aa .i64 (d+e.2))<b c d))))/\(((za t0 d.toNat:Int)==92)=false->PC Tp gl 206 [Arg.mk .str t0,Arg.mk (.int .i64) d] [.bool] (λf:Bool=>(0<=d/\d<t0.size)/\((bif (decide ((za t0 d.toNat:Int)<32))then true else(!f))=true->R ((⟨#[]⟩:Bt),d,2))/\((bif (decide ((za t0 d.toNat:Int)<32))then true else(!f))=false->PC Tp gl 207 [Arg.mk .str t0,Arg.mk (.int .i64) d] [.int .i32,.int .i64] (λg:Int×Int=>(0<=d/\d<=(Aa .i64 (d+g.2))/\(Aa .i64 (d+g.2))<=(t0.size:Int))/\js (c.size+(t0.extract d.toNat (Aa .i64 (d+g.2)).toNat).size)/\(a (c++(t0.extract d.toNat (Aa .i64 (d+g.2)).toNat)) (Aa .i64 (d+g.2))/\b (c++(t0.extract d.toNat (Aa .i64 (d+g.2)).toNat)) (Aa .i64 (d+g.2))<b c d)))))))/\(decide (d<t0.size)=false->R ((⟨#[]⟩:Bt),(t0.size:Int),2))))):
  PC Tp gl 131 [Arg.mk .str t0,Arg.mk (.int .i64) Z] [.str,.int .i64,.int .i64] R:=
 PF ⟨[],[],[(5,⟨[(7,.one (.dat .str)),(8,.one (.dat (.int .i64)))],[],[],[100448,100512]⟩)],[]⟩ [.tmp 4,.tmp 5,.tmp 6] 88 Tryz.func131 H
theorem zem(gl:Fr)(t0:Bt)(R:(Bt×Int×Int)->Prop)
  (H:PC Tp gl 253 [Arg.mk .str t0,Arg.mk (.int .i64) 0] [.str,.int .i64,.int .i64] (λa:Bt×Int×Int=>((bif (a.2.2==0)then(decide (a.2.1<t0.size))else false)=true->R ((⟨#[]⟩:Bt),a.2.1,2))/\((bif (a.2.2==0)then(decide (a.2.1<t0.size))else false)=false->R (a.1,a.2.1,a.2.2)))):
  PC Tp gl 196 [Arg.mk .str t0] [.str,.int .i64,.int .i64] R:=
 PF ⟨[],[],[],[]⟩ [.tmp 2,.tmp 3,.tmp 4] 26 Tryz.func196 H
theorem za7(gl:Fr)(c0:Int)(l1:Bt)(R:Bool->Prop)
  (H:∃(a:Int->Prop) (b:Int->Nat),a 0/\∀c:Int,a c->((decide (c<l1.size)=true->(0<=c/\c<l1.size)/\(((za l1 c.toNat:Int)==c0)=true->R true)/\(((za l1 c.toNat:Int)==c0)=false->(a (Aa .i64 (c+1))/\b (Aa .i64 (c+1))<b c)))/\(decide (c<l1.size)=false->R false))):
  PC Tp gl 200 [Arg.mk (.int .u8) c0,Arg.mk .str l1] [.bool] R:=
 PF ⟨[],[],[(2,⟨[(5,.one (.dat (.int .i64)))],[],[],[100320]⟩)],[]⟩ [.tmp 4] 17 Tryz.func200 H
theorem zdk(gl:Fr)(s0:Bt)(Z:Int)(l2:Bt)(R:Int->Prop)
  (H:∃(a:Int->Prop) (b:Int->Nat),a Z/\∀c:Int,a c->((decide (c<s0.size)=true->(0<=c/\c<s0.size)/\PC Tp gl 200 [Arg.mk (.int .u8) (za s0 c.toNat),Arg.mk .str l2] [.bool] (λd:Bool=>((!d)=true->R c)/\((!d)=false->(a (Aa .i64 (c+1))/\b (Aa .i64 (c+1))<b c))))/\(decide (c<s0.size)=false->R c))):
  PC Tp gl 201 [Arg.mk .str s0,Arg.mk (.int .i64) Z,Arg.mk .str l2] [.int .i64] R:=
 PF ⟨[],[],[(1,⟨[(1,.one (.dat (.int .i64)))],[],[],[100064]⟩)],[]⟩ [.tmp 6] 23 Tryz.func201 H
theorem zdl(gl:Fr)(t0:Bt)(Z:Int)(R:(Int×Int)->Prop)
  (H:((bif (decide (Z<0))then true else(decide (Z>t0.size)))=true->R (0,2))/\((bif (decide (Z<0))then true else(decide (Z>t0.size)))=false->PC Tp gl 131 [Arg.mk .str t0,Arg.mk (.int .i64) Z] [.str,.int .i64,.int .i64] (λa:Bt×Int×Int=>R (a.2.1,a.2.2)))):
  PC Tp gl 202 [Arg.mk .str t0,Arg.mk (.int .i64) Z] [.int .i64,.int .i64] R:=
 PF ⟨[],[],[],[]⟩ [.tmp 4,.tmp 5] 26 Tryz.func202 H
theorem Xs(gl:Fr)(t0:Bt)(Z:Int)(R:(Bt×Int)->Prop)
  (H:(decide ((Aa .i64 (Z+1))>=(t0.size:Int))=true->R ((⟨#[]⟩:Bt),0))/\(decide ((Aa .i64 (Z+1))>=(t0.size:Int))=false->∃(a:Int->Prop) (b:Int->Nat),a 0/\∀c:Int,a c->(((decide (c<(((⟨#[34,92,47,98,102,110,114,116]⟩:Bt)).size:Int)))=true->(0<=(Aa .i64 (Z+1))/\(Aa .i64 (Z+1))<(t0.size:Int))/\(0<=c/\c<(((⟨#[34,92,47,98,102,110,114,116]⟩:Bt)).size:Int))/\(((za t0 (Aa .i64 (Z+1)).toNat:Int)==(za (⟨#[34,92,47,98,102,110,114,116]⟩:Bt) c.toNat))=true->(0<=c/\c<=(Aa .i64 (c+1))/\(Aa .i64 (c+1))<=(((⟨#[34,92,47,8,12,10,13,9]⟩:Bt)).size:Int))/\R (((⟨#[34,92,47,8,12,10,13,9]⟩:Bt)).extract c.toNat (Aa .i64 (c+1)).toNat,2))/\(((za t0 (Aa .i64 (Z+1)).toNat:Int)==(za (⟨#[34,92,47,98,102,110,114,116]⟩:Bt) c.toNat))=false->(a (Aa .i64 (c+1))/\b (Aa .i64 (c+1))<b c)))/\((decide (c<(((⟨#[34,92,47,98,102,110,114,116]⟩:Bt)).size:Int)))=false->(0<=(Aa .i64 (Z+1))/\(Aa .i64 (Z+1))<(t0.size:Int))/\(((za t0 (Aa .i64 (Z+1)).toNat:Int) != 117)=true->R ((⟨#[]⟩:Bt),0))/\(((za t0 (Aa .i64 (Z+1)).toNat:Int) != 117)=false->PC Tp gl 262 [Arg.mk .str t0,Arg.mk (.int .i64) (Aa .i64 (Z+2))] [.int .i64] (λd:Int=>((bif (decide (d<0))then true else(bif (decide (d>=56320))then(decide (d<57344))else false))=true->R ((⟨#[]⟩:Bt),0))/\((bif (decide (d<0))then true else(bif (decide (d>=56320))then(decide (d<57344))else false))=false->((bif (decide (d<55296))then true else(decide (d>=57344)))=true->PC Tp gl 263 [Arg.mk (.int .i64) d] [.str] (λe:Bt=>R (e,6)))/\((bif (decide (d<55296))then true else(decide (d>=57344)))=false->((!(decide ((Aa .i64 (Z+7))>=(t0.size:Int))))=true->(0<=(Aa .i64 (Z+6))/\(Aa .i64 (Z+6))<(t0.size:Int)))/\((!(bif (decide ((Aa .i64 (Z+7))>=(t0.size:Int)))then true else((za t0 (Aa .i64 (Z+6)).toNat:Int) != 92)))=true->(0<=(Aa .i64 (Z+7))/\(Aa .i64 (Z+7))<(t0.size:Int)))/\((bif (bif (decide ((Aa .i64 (Z+7))>=(t0.size:Int)))then true else((za t0 (Aa .i64 (Z+6)).toNat:Int) != 92))then true else((za t0 (Aa .i64 (Z+7)).toNat:Int) != 117))=true->R ((⟨#[]⟩:Bt),0))/\((bif (bif (decide ((Aa .i64 (Z+7))>=(t0.size:Int)))then true else((za t0 (Aa .i64 (Z+6)).toNat:Int) != 92))then true else((za t0 (Aa .i64 (Z+7)).toNat:Int) != 117))=false->PC Tp gl 262 [Arg.mk .str t0,Arg.mk (.int .i64) (Aa .i64 (Z+8))] [.int .i64] (λf:Int=>((bif (decide (f<56320))then true else(decide (f>=57344)))=true->R ((⟨#[]⟩:Bt),0))/\((bif (decide (f<56320))then true else(decide (f>=57344)))=false->PC Tp gl 263 [Arg.mk (.int .i64) (Aa .i64 ((Aa .i64 ((Aa .i64 (65536+(Aa .i64 (1024*(Aa .i64 (d-55296))))))+f))-56320))] [.str] (λg:Bt=>R (g,12))))))))))))):
  PC Tp gl 205 [Arg.mk .str t0,Arg.mk (.int .i64) Z] [.str,.int .i64] R:=
 PF ⟨[],[],[(6,⟨[(8,.one (.dat (.int .i64)))],[],[],[100512]⟩)],[]⟩ [.tmp 4,.tmp 5] 99 Tryz.func205 H
theorem zki(gl:Fr)(aa:Int)(Z:Int)(R:((Int×Int×Int)×Int)->Prop)
  (H:R ((0,(aa,aa)),Z)):
  PC Tp gl 255 [Arg.mk (.int .i64) aa,Arg.mk (.int .i64) Z] [.pair (.int .i64) (.pair (.int .i64) (.int .i64)),.int .i64] R:=
 PF ⟨[],[],[],[]⟩ [.cell 4 90,.tmp 5] 11 Tryz.func255 H
theorem zmy(gl:Fr)(t0:Bt)(Z:Int)(R:(Int×Int)->Prop)
  (H:((bif (decide (Z<0))then true else(decide (Z>t0.size)))=true->R (0,2))/\((bif (decide (Z<0))then true else(decide (Z>t0.size)))=false->PC Tp gl 253 [Arg.mk .str t0,Arg.mk (.int .i64) Z] [.str,.int .i64,.int .i64] (λa:Bt×Int×Int=>R (a.2.1,a.2.2)))):
  PC Tp gl 258 [Arg.mk .str t0,Arg.mk (.int .i64) Z] [.int .i64,.int .i64] R:=
 PF ⟨[],[],[],[]⟩ [.tmp 4,.tmp 5] 26 Tryz.func258 H
theorem zmz(gl:Fr)(c0:Int)(R:Bool->Prop)
  (H:R (bif (decide (c0>=97))then(decide (c0<=122))else false)):
  PC Tp gl 259 [Arg.mk (.int .u8) c0] [.bool] R:=
 PF ⟨[],[],[],[]⟩ [.tmp 2] 9 Tryz.func259 H
theorem zo8(gl:Fr)(s0:Bt)(R:Int->Prop)
  (H:((s0.toList==(⟨#[116,114,117,101]⟩:Bt).toList)=true->R 10)/\((s0.toList==(⟨#[116,114,117,101]⟩:Bt).toList)=false->((s0.toList==(⟨#[102,97,108,115,101]⟩:Bt).toList)=true->R 11)/\((s0.toList==(⟨#[102,97,108,115,101]⟩:Bt).toList)=false->((s0.toList==(⟨#[110,117,108,108]⟩:Bt).toList)=true->R 12)/\((s0.toList==(⟨#[110,117,108,108]⟩:Bt).toList)=false->R 0)))):
  PC Tp gl 260 [Arg.mk .str s0] [.int .i64] R:=
 PF ⟨[],[],[],[]⟩ [.tmp 2] 10 Tryz.func260 H
theorem zdm(gl:Fr)(t0:Bt)(Z:Int)(R:Int->Prop)
  (H:((decide (Z>(Aa .i64 ((t0.size:Int)-4))))=true->R (-1))/\((decide (Z>(Aa .i64 ((t0.size:Int)-4))))=false->∃(a:Int->Int->Prop) (b:Int->Int->Nat),a 0 Z/\∀c d:Int,a c d->((decide (d<(Aa .i64 (Z+4)))=true->(0<=d/\d<t0.size)/\((bif (decide ((Aa .i64 (za t0 d.toNat))>=48))then(decide ((Aa .i64 (za t0 d.toNat))<=57))else false)=true->(a (Aa .i64 ((Aa .i64 ((Aa .i64 (16*c))+(Aa .i64 (za t0 d.toNat))))-48)) (Aa .i64 (d+1))/\b (Aa .i64 ((Aa .i64 ((Aa .i64 (16*c))+(Aa .i64 (za t0 d.toNat))))-48)) (Aa .i64 (d+1))<b c d))/\((bif (decide ((Aa .i64 (za t0 d.toNat))>=48))then(decide ((Aa .i64 (za t0 d.toNat))<=57))else false)=false->((bif (decide ((Aa .i64 (za t0 d.toNat))>=97))then(decide ((Aa .i64 (za t0 d.toNat))<=102))else false)=true->(a (Aa .i64 ((Aa .i64 ((Aa .i64 ((Aa .i64 (16*c))+(Aa .i64 (za t0 d.toNat))))-97))+10)) (Aa .i64 (d+1))/\b (Aa .i64 ((Aa .i64 ((Aa .i64 ((Aa .i64 (16*c))+(Aa .i64 (za t0 d.toNat))))-97))+10)) (Aa .i64 (d+1))<b c d))/\((bif (decide ((Aa .i64 (za t0 d.toNat))>=97))then(decide ((Aa .i64 (za t0 d.toNat))<=102))else false)=false->((bif (decide ((Aa .i64 (za t0 d.toNat))>=65))then(decide ((Aa .i64 (za t0 d.toNat))<=70))else false)=true->(a (Aa .i64 ((Aa .i64 ((Aa .i64 ((Aa .i64 (16*c))+(Aa .i64 (za t0 d.toNat))))-65))+10)) (Aa .i64 (d+1))/\b (Aa .i64 ((Aa .i64 ((Aa .i64 ((Aa .i64 (16*c))+(Aa .i64 (za t0 d.toNat))))-65))+10)) (Aa .i64 (d+1))<b c d))/\((bif (decide ((Aa .i64 (za t0 d.toNat))>=65))then(decide ((Aa .i64 (za t0 d.toNat))<=70))else false)=false->R (-1)))))/\(decide (d<(Aa .i64 (Z+4)))=false->R c)))):
  PC Tp gl 262 [Arg.mk .str t0,Arg.mk (.int .i64) Z] [.int .i64] R:=
 PF ⟨[],[],[(5,⟨[(5,.one (.dat (.int .i64))),(6,.one (.dat (.int .i64)))],[],[],[100320,100384]⟩)],[]⟩ [.tmp 4] 60 Tryz.func262 H
theorem zdn(gl:Fr)(n0:Int)(R:Bt->Prop)
  (H:R (Dd (Aa .i32 n0))):
  PC Tp gl 263 [Arg.mk (.int .i64) n0] [.str] R:=
 PF ⟨[],[],[],[]⟩ [.tmp 2] 6 Tryz.func263 H
theorem zkj(gl:Fr)(s0:Bt)(R:(Int×Int)->Prop)
  (H:(0<=(0:Int)/\(0:Int)<(s0.size:Int))/\(((za s0 (0:Int).toNat:Int)==92)=true->PC Tp gl 315 [Arg.mk .str s0] [.int .i32,.int .i64] (λa:Int×Int=>R (a.1,a.2)))/\(((za s0 (0:Int).toNat:Int)==92)=false->PC Tp gl 151 [Arg.mk .str s0] [.int .i32,.int .i64] (λb:Int×Int=>((bif (decide (b.1<32))then true else(bif (b.1==65533)then(b.2==1)else false))=true->R (0,0))/\((bif (decide (b.1<32))then true else(bif (b.1==65533)then(b.2==1)else false))=false->R (b.1,b.2))))):
  PC Tp gl 291 [Arg.mk .str s0] [.int .i32,.int .i64] R:=
 PF ⟨[],[],[],[]⟩ [.tmp 2,.tmp 3] 30 Tryz.func291 H
theorem zgn(gl:Fr)(s0:Bt)(R:(Int×Int)->Prop)
  (H:(decide ((s0.size:Int)<2)=true->R (0,0))/\(decide ((s0.size:Int)<2)=false->(0<=(1:Int)/\(1:Int)<(s0.size:Int))/\PC Tp gl 323 [Arg.mk (.int .u8) (za s0 (1:Int).toNat)] [.int .i32,.bool] (λa:Int×Bool=>(a.2=true->R (a.1,2))/\(a.2=false->(0<=(1:Int)/\(1:Int)<(s0.size:Int))/\(((za s0 (1:Int).toNat:Int)==117)=true->PC Tp gl 324 [Arg.mk .str s0] [.int .i32,.int .i64] (λb:Int×Int=>R (b.1,b.2)))/\(((za s0 (1:Int).toNat:Int)==117)=false->R (0,0)))))):
  PC Tp gl 315 [Arg.mk .str s0] [.int .i32,.int .i64] R:=
 PF ⟨[],[],[],[]⟩ [.tmp 2,.tmp 3] 24 Tryz.func315 H
theorem zha(gl:Fr)(c0:Int)(R:(Int×Bool)->Prop)
  (H:∀a:Bool->Prop,(∀b:Bool,((b=true->R (Aa .i32 c0,true))/\(b=false->((c0==98)=true->R (8,true))/\((c0==98)=false->((c0==102)=true->R (12,true))/\((c0==102)=false->((c0==110)=true->R (10,true))/\((c0==110)=false->((c0==114)=true->R (13,true))/\((c0==114)=false->((c0==116)=true->R (9,true))/\((c0==116)=false->R (0,false))))))))->a b)->((c0==34)=true->a (c0==34))/\((c0==34)=false->((c0==92)=true->a (c0==92))/\((c0==92)=false->a (c0==47)))):
  PC Tp gl 323 [Arg.mk (.int .u8) c0] [.int .i32,.bool] R:=
 PF ⟨[],[],[],[(5,⟨[(5,.one (.dat .bool))],[],[],[100320]⟩)]⟩ [.tmp 2,.tmp 3] 21 Tryz.func323 H
theorem zen(gl:Fr)(s0:Bt)(R:(Int×Int)->Prop)
  (H:(0<=(2:Int)/\(2:Int)<=(s0.size:Int)/\(s0.size:Int)<=(s0.size:Int))/\PC Tp gl 328 [Arg.mk .str (s0.extract (2:Int).toNat (s0.size:Int).toNat)] [.int .i32,.bool] (λa:Int×Bool=>∀b:Bool->Prop,(∀c:Bool,((c=true->R (0,0))/\(c=false->((bif (decide (a.1<55296))then true else(decide (a.1>=57344)))=true->R (a.1,6))/\((bif (decide (a.1<55296))then true else(decide (a.1>=57344)))=false->(0<=(6:Int)/\(6:Int)<=(s0.size:Int)/\(s0.size:Int)<=(s0.size:Int))/\PC Tp gl 156 [Arg.mk .str (s0.extract (6:Int).toNat (s0.size:Int).toNat),Arg.mk .str (⟨#[92,117]⟩:Bt)] [.bool] (λd:Bool=>((!d)=true->R (0,0))/\((!d)=false->(0<=(8:Int)/\(8:Int)<=(s0.size:Int)/\(s0.size:Int)<=(s0.size:Int))/\PC Tp gl 328 [Arg.mk .str (s0.extract (8:Int).toNat (s0.size:Int).toNat)] [.int .i32,.bool] (λe:Int×Bool=>((bif (bif (!e.2)then true else(decide (e.1<56320)))then true else(decide (e.1>=57344)))=true->R (0,0))/\((bif (bif (!e.2)then true else(decide (e.1<56320)))then true else(decide (e.1>=57344)))=false->R (Aa .i32 ((Aa .i32 ((Aa .i32 (65536+(Aa .i32 ((Aa .i32 (a.1-55296))*1024))))+e.1))-56320),12))))))))->b c)->((!a.2)=true->b (!a.2))/\((!a.2)=false->b (bif (decide (a.1>=56320))then(decide (a.1<57344))else false)))):
  PC Tp gl 324 [Arg.mk .str s0] [.int .i32,.int .i64] R:=
 PF ⟨[],[],[],[(4,⟨[(13,.one (.dat .bool))],[],[],[100832]⟩)]⟩ [.tmp 2,.tmp 3] 58 Tryz.func324 H
theorem zkk(gl:Fr)(s0:Bt)(R:(Int×Bool)->Prop)
  (H:((!(decide ((s0.size:Int)<4)))=true->(0<=(0:Int)/\(0:Int)<=4/\(4:Int)<=(s0.size:Int)))/\∃a:Bool->Prop,((!(decide ((s0.size:Int)<4)))=true->PC Tp gl 209 [Arg.mk .str (s0.extract (0:Int).toNat (4:Int).toNat),Arg.mk .str (⟨#[43,45,95]⟩:Bt)] [.bool] a)/\∀b:Bool,((!(decide ((s0.size:Int)<4)))=true->a b)->((bif (decide ((s0.size:Int)<4))then true else b)=true->R (0,false))/\((bif (decide ((s0.size:Int)<4))then true else b)=false->(0<=(0:Int)/\(0:Int)<=4/\(4:Int)<=(s0.size:Int))/\PC Tp gl 329 [Arg.mk .str (s0.extract (0:Int).toNat (4:Int).toNat),Arg.mk (.int .i64) 16,Arg.mk (.int .i64) 32] [.int .u64,.err] (λc:Int×Bool=>R (Aa .i32 c.1,c.2)))):
  PC Tp gl 328 [Arg.mk .str s0] [.int .i32,.bool] R:=
 PF ⟨[],[],[],[]⟩ [.tmp 2,.tmp 3] 24 Tryz.func328 H
end
end Go.X
end
