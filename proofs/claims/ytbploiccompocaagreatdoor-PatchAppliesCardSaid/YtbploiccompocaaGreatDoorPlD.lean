/- A part of the proof: nothing is stated here for its own sake. -/
import Derived.Test.YtbploiccompocaaGreatDoorPlC
import Derived.Test.YtbploiccompocaaGreatDoorTie
import Derived.Test.YtbploiccompocaaGreatDoorCards
import Derived.PinnedBridge
import Derived.Lay
import Derived.HandedShaped
open _root_.Go.Addr renaming add->Af
open _root_.Array renaming ext'->Dr,getElem?_eq_getElem->AP,getElem?_toList->AN,replicate->Bn,size_push->Ai,toList->CH
open _root_.BitVec renaming ofInt->As,ofInt_natCast->DT,toNat_ofNat->D5
open _root_.Bool renaming and_eq_true->AI,and_false->Ei,and_true->CL,cond_false_right->Ba,cond_true_left->Bh,eq_false_iff->DF,eq_false_or_eq_true->Dd,eq_iff_iff->AB,false_and->DR,false_eq_true->A9,false_or->DZ,not_eq_true'->Ce,not_not->Es,or_eq_false_iff->B8,or_eq_true->Cw,true_and->Bf
open _root_.Go.Builtin renaming append_->Au
open _root_.ByteArray renaming empty->D3
open _root_.Go.Instr renaming lookup->D9,mapUpdate->CQ,storeAt->Al
open _root_.Int renaming toNat_natCast->Ad,toNat_zero->BV
open _root_.Go.IntKind renaming bits->Ar,signed->DO,wrap->Aa
open _root_.List renaming all_append->CV,all_cons->CK,all_eq_false->DK,all_eq_true->AU,append_assoc->AY,append_nil->Bc,cons_append->Be,drop->B0,dropWhile_cons->Df,drop_drop->BS,drop_eq_getElem_cons->AC,drop_eq_nil_of_le->A6,drop_length->BC,drop_take->Ed,drop_zero->AQ,eq_nil_of_length_eq_zero->Az,exists_cons_of_ne_nil->Ca,ext_getElem?->Bb,getD_eq_getElem?_getD->Ct,getElem?_drop->AH,getElem?_eq_getElem->Aj,getElem?_eq_none->Bu,getElem?_eq_some_iff->Ax,getElem?_map->B5,getElem?_take->AF,getElem_append_left->CG,getElem_append_right->Cd,getElem_mem->Ao,getElem_of_mem->A7,length->Bm,length_append->Av,length_cons->AR,length_drop->Bg,length_nil->CR,length_pos_iff->BB,length_take->AL,mem_append->Am,mem_cons->Ag,mem_flatMap->Bj,mem_of_getElem?->CM,mem_of_mem_drop->BQ,mem_of_mem_take->Bi,mem_or_eq_of_mem_set->C9,mem_range->BO,mem_singleton->Cn,nil_append->BL,nodup_append->A0,nodup_nil->Ea,range->AZ,replicate->D7,singleton_append->DD,take->BJ,take_append_drop->Bp,take_length->AE,take_of_length_le->AM,take_succ_cons->B4,take_succ_eq_append_getElem->An,take_take->Ee,take_zero->Cr
open _root_.List.cons renaming injEq->Br
open _root_.Nat renaming add_mul->Bz,add_zero->CX,le_refl->Ae,le_trans->D6,lt_of_lt_of_le->Dm,lt_or_ge->AX,min_eq_left->CU,mod_eq_of_lt->DY,mul_comm->CY,mul_one->Cf,or_lt_two_pow->DJ,sub_zero->BK,zero_add->AD,zero_le->BP,zero_mul->Da
open _root_.Go.Op renaming bytesLess->CZ
open _root_.Option.some renaming inj->Aw,injEq->Ab
open _root_.Go.Proofs.Tryz renaming func191->Eg,func221->Ep,func222->Eh,func236->Er,func237->Ef,isAgg0->Db,isAgg176->C6,isAgg21->DX,isAgg3->Cx,isAgg4->CN,isAgg5->C5,isAgg9->Cy,prog->AK,sizeOf0->C3,sizeOf176->CO,sizeOf21->Dz,sizeOf3->Cj,sizeOf4->Cu,sizeOf5->CJ,sizeOf9->Ck,underlying0->Cc,underlying129->Dt,underlying176->B7,underlying21->CP,underlying3->BH,underlying4->BI,underlying5->BZ,underlying9->Bw,zeroValue0->Ci,zeroValue176->Cg,zeroValue21->C8,zeroValue3->BM,zeroValue4->BU,zeroValue5->Cb,zeroValue9->BN
open _root_.UInt8 renaming ofNat->Dl,toNat_inj->Cz
open _root_.Go.Utf8 renaming encode->En
open _root_.Go.Value renaming agg->Ex,int->Ew,string->A5
open _root_.Go.Value.slice renaming injEq->AJ
set_option linter.unusedVariables false
set_option maxRecDepth 100000
namespace Go.X
end Go.X
namespace Go.Proofs
end Go.Proofs
open Go Go.X Go.Proofs
section
namespace Go.X
section
variable {n:Nat} {gl:Fr} {l:Bs} {R:Bool -> Prop}
theorem yz{k n:Nat}(h:k<n)(hn:n<=4611686018427387904):Aa .i64 ((k:Int)+1)=((k+1:Nat):Int):=zwn (by omega)
theorem Y4(hl:l.length<=4611686018427387904)(h:R (Z8 l)):PC Tp gl 201 [Arg.mk .str (bl l)] [.bool] R:=by
 apply zap
 simp only[zv,yq]
 refine⟨λi=>∃k:Nat,i=k/\k<=l.length/\Z8 l=(Z8 l&&(l.drop k).all qu)/\(l.drop k).all qu=l.all qu,λi=>l.length-i.toNat,⟨0,rfl,by omega,by simp[Z8];exact λh _=>h,by simp⟩,?_⟩
 rintro i ⟨k,rfl,hk,-,h2⟩
 refine⟨λhc=>?_,λhc=>?_⟩
 ·have O:k<l.length:=by simpa using hc
  simp only[Ad,zdt O]
  rw[AC O,CK]at h2
  refine⟨by omega,λ_=>by omega,λhx=>?_,λhx=>?_⟩
  ·have hd:qu l[k]=false:=by
    unfold qu
    rw[Bh]at hx
    have:=l[k].toNat_lt
    rcases Cw _ _ ▸ hx with hx|hx <;> simp at hx ⊢ <;> omega
   rw[hd]at h2
   simp only[DR]at h2
   have:Z8 l=false:=by simp[Z8,<-h2]
   rw[this]at h;exact h
  ·have hd:qu l[k]=true:=by
    unfold qu
    rw[Bh]at hx
    have:=B8.1 hx
    simp at this ⊢;omega
   rw[hd]at h2
   simp only[Bf]at h2
   rw[yz O hl]
   refine⟨⟨k+1,rfl,by omega,?_,h2⟩,by simp;omega⟩
   rw[h2,Z8];cases l.all qu <;> simp
 ·have O:k=l.length:=by(have:¬(k<l.length):=by simpa using hc);omega
  subst O
  rw[BC]at h2
  have:Z8 l=decide ((l.length:Int)>0):=by
   rw[Z8,<-h2]
   cases l <;> simp
  rw[this]at h;exact h
theorem z6d(h:l≠[]):(48<=(dec l).1/\(dec l).1<=57)->(dec l).2=1/\∃c t,l=c::t/\qu c=true/\(dec l).1=c.toNat:=by
 obtain⟨c,t,rfl⟩:=Ca h
 intro hh
 by_cases hc:c.toNat<128
 ·rw[Xm hc]at hh ⊢
  exact⟨rfl,c,t,rfl,by simp[qu];simpa using hh,rfl⟩
 ·exfalso
  unfold dec at hh
  have b0:((c::t).getD 0 0).toNat=c.toNat:=rfl
  rw[b0]at hh
  have:=c.toNat_lt
  have b1:=((c::t).getD 1 0).toNat_lt;have b2:=((c::t).getD 2 0).toNat_lt;have b3:=((c::t).getD 3 0).toNat_lt
  generalize ((c::t).getD 1 0).toNat=x1 at *
  generalize ((c::t).getD 2 0).toNat=x2 at *
  generalize ((c::t).getD 3 0).toNat=x3 at *
  generalize c.toNat=x0 at *
  unfold Lib.decodeN at hh
  rw[if_neg hc]at hh
  split at hh
  ·split at hh <;> simp only at hh <;> omega
  ·split at hh
   ·split at hh <;> simp only at hh <;> omega
   ·split at hh
    ·split at hh <;> simp only at hh <;> omega
    ·simp only at hh;omega
theorem zdv(h:R (Z8 l)):PC Tp gl 128 [Arg.mk .str (bl l)] [.bool] R:=by
 apply zf9
 refine⟨λp=>p.1=bl l/\p.2<=l.length/\(l.drop p.2).all qu=l.all qu,λp=>l.length-p.2,⟨rfl,by omega,by simp⟩,?_⟩
 rintro⟨_,p⟩ ⟨rfl,hp,h2⟩
 simp only at hp h2 ⊢
 rw[zpb,zs4]
 refine⟨λhc=>⟨hc,λhx=>?_,λhx=>?_⟩,λhc=>?_⟩
 all_goals first
  |have aa:p<l.length:=by simpa using hc
  |have aa:¬p<l.length:=by simpa using hc
 ·have Z:l.drop p≠[]:=λe=>by have:=congrArg Bm e;simp at this;omega
  have hd:¬(48<=(dec (l.drop p)).1/\(dec (l.drop p)).1<=57):=by
   rw[Bh]at hx
   rcases Cw _ _ ▸ hx with hx|hx <;> simp at hx <;> omega
  have hf:l.all qu=false:=by
   rw[<-h2]
   obtain⟨c,t,e⟩:=Ca Z
   rw[e]
   cases O:qu c with
   |false=>simp[O]
   |true=>
    exfalso;apply hd
    have:c.toNat<128:=by simp[qu]at O;omega
    rw[e,Xm this]
    simpa[qu]using O
  have:Z8 l=false:=by simp[Z8,hf]
  rw[this]at h;exact h
 ·have Z:l.drop p≠[]:=λe=>by have:=congrArg Bm e;simp at this;omega
  have hd:48<=(dec (l.drop p)).1/\(dec (l.drop p)).1<=57:=by
   rw[Bh]at hx
   have:=B8.1 hx
   simp at this;omega
  obtain⟨h1,c,t,e,O,_⟩:=z6d Z hd
  rw[zlb l p aa,h1]
  refine⟨⟨trivial,by omega,?_⟩,by omega⟩
  have e2:l.drop (p+1)=t:=by rw[<-BS,e];rfl
  rw[e2,<-h2,e];simp[O]
 ·have:l.drop p=[]:=A6 (by omega)
  rw[this]at h2
  have e:Z8 l=!(decide (l=[])):=by
   rw[Z8,<-h2];cases l <;> simp
  have:=zds l []
  rw[show(⟨#[]⟩:Bt)=bl []from rfl,this,<-e];exact h
abbrev tN:Ty:=.pair .bool (.pair .str (.int .i64))
theorem zpd{n:Nm}(h:R (Wv n)):PC Tp gl 199 [Arg.mk tN (nmB n)] [.bool] R:=by
 apply zao
 simp only[show(⟨#[]⟩:Bt)=bl []from rfl,zds]
 have e:Wv n=((n.1==false)&&(decide (n.2.1=[])&&((n.2.2==0)&&true))):=by
  unfold Wv
  rcases n with⟨_|_,_|⟨_,_⟩,e⟩ <;> simp
 rw[e]at h;exact h
theorem zgt(h:0<l.length):(((l[0]?.getD 0).toNat:Int) != 48)=(l.head? != some 48):=by
 cases l with
 |nil=>simp at h
 |cons c t=>
  rw[AB];simp
  constructor
  ·intro h1 h2;exact h1 (by rw[h2];rfl)
  ·intro h1 h2;exact h1 (Cz.1 (by(have:c.toNat=48:=by omega);rw[this];rfl))
theorem zs6(h:0<l.length):(((l[l.length-1]?.getD 0).toNat:Int) != 48)=(l.getLast? != some 48):=by
 rw[List.getLast?_eq_getElem?]
 rw[Aj (by omega)]
 rw[AB];simp
 constructor
 ·intro h1 h2;exact h1 (by rw[h2];rfl)
 ·intro h1 h2;exact h1 (Cz.1 (by(have:l[l.length-1].toNat=48:=by omega);rw[this];rfl))
theorem Wn(h:Z8 l=true):0<l.length:=by
 cases l with
 |nil=>simp[Z8]at h
 |cons=>simp
theorem zvh(h:0<n)(hn:n<=4611686018427387904):Aa .i64 ((n:Int)-1)=((n-1:Nat):Int):=by
 rw[wrap64 (by omega) (by omega)];omega
theorem zil{n:Nm}(hn:n.2.1.length<=4611686018427387904)(h:R (yr n)):PC Tp gl 169 [Arg.mk tN (nmB n)] [.bool] R:=by
 apply zbz
 refine zpd (n:=n) ⟨λh1=>?_,λh1=>?_⟩
 ·have:yr n=true:=by simp[yr,h1]
  rw[this]at h;exact h
 ·refine Y4 hn ⟨λh2=>?_,λh2=>?_,?_⟩
  ·have h3:Z8 n.2.1=true:=by simp at h2;exact h2.1
   have:=Wn h3
   simp only[zv];omega
  ·have h3:Z8 n.2.1=true:=by simp at h2;exact h2.1.1
   have:=Wn h3
   simp only[zv];rw[zvh this hn];omega
  ·have e:yr n=(bif (bif (bif (bif (bif Z8 n.2.1 then(decide (((bl n.2.1).size:Int)<=1000))else false)then((zd (bl n.2.1) (0:Int).toNat:Int) != 48)else false)then((zd (bl n.2.1) (Aa .i64 (((bl n.2.1).size:Int)-1):Int).toNat:Int) != 48)else false)then(decide (n.2.2>=(-1000000)))else false)then(decide (n.2.2<=1000000))else false):=by
    unfold yr
    rw[h1,DZ]
    simp only[zv,yq]
    cases hd:Z8 n.2.1 with
    |false=>simp
    |true=>
     have hp:=Wn hd
     rw[zvh hp hn]
     simp only[Ad,BV,zs6 hp,zgt hp,Ba,Bf,cond_true]
     congr 3
     rw[AB];simp;omega
   rw[e]at h;exact h
theorem zmz{n:Nm}(hn:n.2.1.length<=4611686018427387904)(h:R (yr n)):PC Tp gl 96 [Arg.mk tN (nmB n)] [.bool] R:=by
 apply zib
 simp only[show(⟨#[]⟩:Bt)=bl []from rfl,zds,zv,yq]
 have e:((n.1==false)&&(decide (n.2.1=[])&&((n.2.2==0)&&true)))=Wv n:=by
  unfold Wv
  rcases n with⟨_|_,_|⟨_,_⟩,e⟩ <;> simp
 rw[e]
 refine⟨λh1=>?_,λh1=>?_⟩
 ·have:yr n=true:=by simp[yr,h1]
  rw[this]at h;exact h
 ·unfold yr at h
  rw[h1,DZ]at h
  refine zdv ⟨λh2=>⟨λ_=>?_,λh3=>?_⟩,λh2=>⟨λh3=>⟨λ_=>?_,λh4=>?_⟩,λh3=>⟨?_,λh4=>⟨λ_=>?_,λh5=>?_⟩,λh4=>⟨?_,λh5=>?_,λh5=>?_⟩⟩⟩⟩
  ·have:Z8 n.2.1=false:=by simpa using h2
   rw[this]at h;simpa using h
  ·rw[h2]at h3;cases h3
  ·have:decide (n.2.1.length<=1000)=false:=by simp at h3 ⊢;omega
   rw[this]at h;simpa using h
  ·rw[h3]at h4;cases h4
  all_goals
   have hd:Z8 n.2.1=true:=by simpa using h2
   have hp:=Wn hd
   have O:decide (n.2.1.length<=1000)=true:=by simp at h3 ⊢;omega
   have eh:=zgt hp
   have el:=zs6 hp
  ·omega
  ·have:(n.2.1.head? != some 48)=false:=by
    rw[<-eh];simp at h4 ⊢;exact h4
   rw[this]at h;simpa using h
  ·rw[h4]at h5;cases h5
  ·rw[zvh hp hn];omega
  ·have:(n.2.1.getLast? != some 48)=false:=by
    rw[<-el];rw[zvh hp hn]at h5;simp at h5 ⊢;exact h5
   rw[this]at h;simpa using h
  ·have e1:(n.2.1.head? != some 48)=true:=by
    rw[<-eh];simp at h4 ⊢;exact h4
   have e2:(n.2.1.getLast? != some 48)=true:=by
    rw[<-el];rw[zvh hp hn]at h5;simp at h5 ⊢;exact h5
   rw[hd,O,e1,e2]at h
   simp only[Bf]at h
   rw[Ba]
   exact h
end
end Go.X
end
section
namespace Go.X
open Go Go.Lib
section
variable {l:Bs} {k:Nat}
theorem zdw(c:UInt8):∀l:Bs,-1<=indexByte l c/\(0<=indexByte l c↔c∈l)
 |[]=>by simp[indexByte]
 |b::l=>by
  have ih:=zdw c l
  unfold indexByte
  by_cases h:b=c
  ·simp[h]
  ·have h':¬c=b:=λe=>h e.symm
   simp only[beq_iff_eq,h,if_false,Ag,h',false_or]
   obtain⟨i1,i2⟩:=ih
   split
   ·rename_i e
    rw[e]at i2
    exact⟨by omega,by rw[<-i2]⟩
   ·rename_i e
    refine⟨by omega,?_⟩
    rw[<-i2];omega
theorem Wo(u:Nat):(decDigits u).length<=u+1:=by
 rw[decDigits]
 split
 ·simp
 ·rename_i h
  have:=Wo (u / 10)
  simp;omega
theorem itoa_len(n:Int):(itoa n).length<=n.natAbs+2:=by
 unfold itoa
 split
 ·have:=Wo n.natAbs;simp;omega
 ·have:=Wo n.toNat;omega
theorem dig_ext:∀k:Nat,k<10->(([48,49,50,51,52,53,54,55,56,57]:Bs).drop k).take (k+1-k)=[Dl (48+k)]:=by decide
theorem zdx(l:Bs)(c:UInt8):hasPrefix l [c]=(l.head?==some c):=by
 cases l with
 |nil=>rfl
 |cons b t=>simp[hasPrefix,List.isPrefixOf];rw[AB];simp;exact eq_comm
theorem za0(l:Bs)(c:UInt8):trimPrefix l [c]=if l.head?==some c then l.tail else l:=by
 unfold trimPrefix
 rw[zdx]
 split <;> simp
theorem zrg(l:Bs)(c:UInt8):zj (l++[c])=10*zj l+(c.toNat-48):=by simp[zj,List.foldl_append]
theorem wz(hk:k<l.length):zj (l.take (k+1))=10*zj (l.take k)+(l[k].toNat-48):=by
 rw[An hk,zrg]
theorem zm0{p:UInt8->Bool}(h:l.all p=true)(k:Nat):(l.take k).all p=true:=by
 rw[AU]at h ⊢
 exact λx hx=>h x (Bi hx)
theorem z1v{p:UInt8->Bool}(h:l.all p=true)(k:Nat):(l.drop k).all p=true:=by
 rw[AU]at h ⊢
 exact λx hx=>h x (BQ hx)
theorem zs7(h:l.all qu=true)(hk:k<l.length):48<=l[k].toNat/\l[k].toNat<=57:=by
 have:=AU.1 h _ (Ao hk)
 simpa[qu]using this
theorem zpe:∀(n:Nat) (l:Bs),l.length=n->l.all qu=true->zj l<10 ^ n
 |0,l,h,_=>by
  have:l=[]:=Az h
  subst this;simp[zj]
 |n+1,l,h,hd=>by
  have hl:l=l.take (n+1):=by rw[<-h,AE]
  rw[hl,wz (by omega)]
  have h1:=zpe n (l.take n) (by simp;omega) (zm0 hd n)
  have h2:=zs7 hd (k:=n) (by omega)
  rw[Nat.pow_succ];omega
theorem Qf{n:Nat}(hn:l.length<=n)(h:l.all qu=true):zj l<10 ^ n:=
 Dm (zpe _ l rfl h) (Nat.pow_le_pow_right (by omega) hn)
theorem zdy(h:Z8 l=true):l.all qu=true:=by
 unfold Z8 at h;exact(Bool.and_eq_true_iff.1 h).1
theorem Wp{p q:UInt8->Bool}(h:l.all p=true):(l.dropWhile q).all p=true:=by
 rw[AU]at h ⊢
 exact λx hx=>h x ((List.dropWhile_sublist q).mem hx)
theorem xh(l:Bs)(q:UInt8->Bool):(l.dropWhile q).length<=l.length:=(List.dropWhile_sublist q).length_le
theorem za1{q:UInt8->Bool}:∀c,(l.dropWhile q).head?=some c->q c=false:=by
 induction l with
 |nil=>simp
 |cons b t ih=>
  intro c h
  rw[Df]at h
  split at h
  ·exact ih c h
  ·rename_i hq;simp at h;subst h;exact DF.2 hq
theorem Q0(h:l.all qu=true)(O:l.dropWhile (· == 48)≠[]):Z8 (jo l)=true/\(jo l).length<=(l.dropWhile (· == 48)).length/\((jo l).head? != some 48)=true/\((jo l).getLast? != some 48)=true:=by
 unfold jo
 obtain⟨c,t,hd⟩:=Ca O
 have hc:(c==48)=false:=by
  have:=za1 (l:=l) (q:=(· == 48)) c (by rw[hd];rfl)
  simpa using this
 have key:∀(t:Bs),∃u,((c::t).reverse.dropWhile (· == 48)).reverse=c::u:=by
  intro t
  rw[List.reverse_cons]
  have hx:∀(r:Bs),∃u,(r++[c]).dropWhile (· == 48)=u++[c]:=by
   intro r
   induction r with
   |nil=>exact⟨[],by simp[hc]⟩
   |cons b r ih=>
    rw[Be,Df]
    split
    ·exact ih
    ·exact⟨b::r,rfl⟩
  obtain⟨u,e⟩:=hx t.reverse
  exact⟨u.reverse,by rw[e];simp⟩
 rw[hd]
 obtain⟨u,e⟩:=key t
 refine⟨?_,?_,?_,?_⟩
 ·rw[Z8,Bool.and_eq_true_iff]
  refine⟨?_,by rw[e];rfl⟩
  rw[List.all_reverse]
  apply Wp
  rw[List.all_reverse,<-hd]
  exact Wp h
 ·rw[List.length_reverse]
  refine D6 (xh _ _) ?_
  simp
 ·rw[e];simp;simpa using hc
 ·rw[List.getLast?_reverse]
  cases hh:((c::t).reverse.dropWhile (· == 48)).head? with
  |none=>rfl
  |some x=>
   have:=za1 (l:=(c::t).reverse) (q:=(· == 48)) x hh
   simpa using this
theorem zvi(h:l.all qu=true)(O:l.dropWhile (· == 48)≠[])(hl:l.length<=1000)(neg:Bool)(e:Int):yr (neg,jo l,e)=(decide (-1000000<=e)&&decide (e<=1000000)):=by
 obtain⟨h1,h2,h3,h4⟩:=Q0 h O
 have h5:=xh l (· == 48)
 have hp:(jo l).isEmpty=false:=by
  rw[Z8]at h1
  have:=(Bool.and_eq_true_iff.1 h1).2
  simpa using this
 unfold yr Wv
 simp only[h1,h3,h4,hp,Ei,DR,DZ,Bf]
 have:decide ((jo l).length<=1000)=true:=by simp;omega
 rw[this];simp
theorem zim{s:Bs}{x:Lit}(h:Jt s=some x):Z8 x.whole=true/\x.rest.all qu=true/\x.exp.all qu=true:=by
 obtain⟨O,rfl⟩:=zik h
 unfold zdu at O
 simp only[AI]at O
 obtain⟨⟨⟨h1,h2⟩,h3⟩,h4⟩:=O
 refine⟨h2,?_,?_⟩
 ·show(we s).2.1.all qu=true
  cases hp:(we s).2.2 with
  |true=>rw[hp]at h3;exact zdy (by simpa using h3)
  |false=>rw[show(we s).2.1=[]from(zac hp).2];rfl
 ·show(if(Zl s).2.2 then zij s else []).all qu=true
  cases hm:(Zl s).2.2 with
  |true=>rw[hm]at h1;simpa using zdy (by simpa using h1)
  |false=>rfl
theorem ze5(p:UInt8->Bool)(l:Bs):(cutAt p l).1.length+(cutAt p l).2.1.length<=l.length:=by
 induction l with
 |nil=>simp[cutAt]
 |cons c t ih=>unfold cutAt;split <;> simp <;> omega
theorem ze6{s:Bs}{x:Lit}(h:Jt s=some x):x.whole.length+x.rest.length+x.exp.length<=s.length:=by
 obtain⟨O,rfl⟩:=zik h
 have h1:(zs5 s).length<=s.length:=by unfold zs5;split <;> simp
 have h2:=ze5 isE (zs5 s)
 have h3:=ze5 zpc (Zl s).1
 have h4:(zij s).length<=(Zl s).2.1.length:=by
  unfold zij
  split
  ·simp
  ·split <;> simp
 have h5:(if(Zl s).2.2 then zij s else []).length<=(Zl s).2.1.length:=by
  split
  ·exact h4
  ·simp
 show(we s).1.length+(we s).2.1.length+(if(Zl s).2.2 then zij s else []).length<=s.length
 unfold we
 unfold Zl at *
 omega
end
end Go.X
end
section
namespace Go.X
section
variable {gl:Fr} {l:Bs}
theorem qbx(c:UInt8):(((c.toNat:Int)).toNat).toUInt8=c:=by simp
theorem z4a{l sep:Bs}{p:UInt8->Bool}(hp:∀c,p c=true↔c∈sep)(hl:l.length<=4611686018427387904){R:Bt×Bt×Bool->Prop}(h:R (bl (cutAt p l).1,bl (cutAt p l).2.1,(cutAt p l).2.2)):
  PC Tp gl 155 [Arg.mk .str (bl l),Arg.mk .str (bl sep)] [.str,.str,.bool] R:=by
 apply zmn
 simp only[zv,yq,jg]
 refine⟨λi=>∃k:Nat,i=k/\k<=l.length/\∀j (hj:j<l.length),j<k->p l[j]=false,λi=>l.length-i.toNat,⟨0,rfl,by omega,λj _ h=>by omega⟩,?_⟩
 rintro i ⟨k,rfl,hk,h2⟩
 refine⟨λhc=>?_,λhc=>?_⟩
 ·have O:k<l.length:=by simpa using hc
  simp only[Ad,zdt O]
  refine⟨by omega,Xp ?_⟩
  rw[qbx,Zk]
  have hm:=(zdw l[k] sep).2
  rw[yz O hl]
  refine⟨λhx=>⟨by omega,by omega,?_⟩,λhx=>⟨⟨k+1,rfl,by omega,λj hj ac=>?_⟩,by simp;omega⟩⟩
  ·have Z:p l[k]=true:=(hp _).2 (hm.1 (by simpa using hx))
   rw[zgs O (λj hj=>h2 j (by omega) hj) Z]at h
   simp only[Ad,BV,AQ,BK]
   rw[AM (l:=l.drop (k+1)) (by simp)]
   exact h
  ·by_cases e:j=k
   ·subst e
    cases hpj:p l[j]with
    |false=>rfl
    |true=>exact absurd (hm.2 ((hp _).1 hpj)) (by simpa using hx)
   ·exact h2 j hj (by omega)
 ·have O:¬k<l.length:=by simpa using hc
  rw[zab (λc aa=>by
   obtain⟨j,hj,rfl⟩:=A7 aa
   exact h2 j hj (by omega))]at h
  exact h
theorem zlc{c:UInt8}{R:Bt×Bool->Prop}(h:R (bl (if l.head?==some c then l.tail else l),l.head?==some c)):PC Tp gl 154 [Arg.mk .str (bl l),Arg.mk .str (bl [c])] [.str,.bool] R:=by
 refine zo8 ?_
 rw[Zk,Zk,za0,zdx];exact h
theorem zrh{c:UInt8}{R:Bt->Prop}(h:R (bl (if l.head?==some c then l.tail else l))):PC Tp gl 156 [Arg.mk .str (bl l),Arg.mk .str (bl [c])] [.str] R:=by
 refine zmx ?_
 rw[Zk,Zk,za0];exact h
theorem zin{R:Bt->Prop}(h:R (bl (l.dropWhile (· == 48)))):PC Tp gl 131 [Arg.mk .str (bl l),Arg.mk .str (bl [48])] [.str] R:=by
 refine zrc (c:=48) (by decide) ?_
 rw[Zk];exact h
theorem zvj(hl:l.length<=4611686018427387904){R:Bt->Prop}(h:R (bl (l.reverse.dropWhile (· == 48)).reverse)):PC Tp gl 132 [Arg.mk .str (bl l),Arg.mk .str (bl [48])] [.str] R:=by
 refine zo9 (c:=48) (by decide) (by rw[zv];omega) ?_
 rw[Zk];exact h
theorem z6e{s:Bs}(hs:s.length<=4611686018427387904){R:(Bool×Bool×Bt×Bt×Bt)×Bool->Prop}
  (h1:zdu s=true->R (((Y9 s).neg,(Y9 s).low,bl (Y9 s).whole,bl (Y9 s).rest,bl (Y9 s).exp),true)) (h2:zdu s=false->∀a b c d e,R ((a,b,bl c,bl d,bl e),false)):
  PC Tp gl 130 [Arg.mk .str (bl s)] [.pair .bool (.pair .bool (.pair .str (.pair .str .str))),.bool] R:=by
 apply zjx
 refine zlc (c:=45) ?_
 dsimp only
 have hS:(zs5 s).length<=s.length:=by unfold zs5;split <;> simp
 have hM:=ze5 isE (zs5 s)
 refine z4a (l:=zs5 s) (sep:=[101,69]) (p:=isE) (λc=>by simp[isE]) (by omega) ?_
 dsimp only
 have ar:(Zl s).1.length+(Zl s).2.1.length<=(zs5 s).length:=hM
 have ah:∀(e:Bs) (low:Bool),((Zl s).2.2=true->Z8 (zij s)=true/\low=Ym s/\e=zij s)->((Zl s).2.2=false->low=false/\e=[]) ->
   PC Tp gl 155 [Arg.mk .str (bl (Zl s).1),Arg.mk .str (bl [46])] [.str,.str,.bool] (λO:Bt×Bt×Bool=>PC Tp gl 128 [Arg.mk .str O.1] [.bool] (λaa:Bool=>∃aj:Bool->Prop,(((!(!aa))&&O.2.2)=true->PC Tp gl 128 [Arg.mk .str O.2.1] [.bool] aj) /\
      ∀af:Bool,(((!(!aa))&&O.2.2)=true->aj af)->((bif (!aa)then true else(bif O.2.2 then(!af)else false))=true->R ((s.head?==some 45,(low,(O.1,(O.2.1,bl e)))),false)) /\
      ((bif (!aa)then true else(bif O.2.2 then(!af)else false))=false->((!((O.1:Bt).toList==((⟨#[48]⟩:Bt):Bt).toList))=true->(0<=(0:Int)/\(0:Int)<((O.1).size:Int))) /\
       R ((s.head?==some 45,(low,(O.1,(O.2.1,bl e)))),bif ((O.1:Bt).toList==((⟨#[48]⟩:Bt):Bt).toList)then true else((zd O.1 (0:Int).toNat:Int) != 48))))):=by
  intro e low k1 k2
  have ak:(!(Zl s).2.2||Z8 (zij s))=true/\Ym s=low/\(if(Zl s).2.2 then zij s else [])=e:=by
   cases hm:(Zl s).2.2 with
   |true=>obtain⟨a,b,c⟩:=k1 hm;exact⟨by simp[a],b.symm,by simp[c]⟩
   |false=>obtain⟨a,b⟩:=k2 hm;exact⟨rfl,by unfold Ym;rw[hm,a];rfl,by simp[b]⟩
  refine z4a (l:=(Zl s).1) (sep:=[46]) (p:=zpc) (λc=>by simp[zpc]) (by omega) ?_
  refine zdv ⟨λx=>Z8 (we s).2.1=x,λ_=>zdv rfl,λy hy=>?_⟩
  dsimp only
  simp only[show(⟨#[48]⟩:Bt)=bl [48]from rfl,zds,zv,yq]
  change (_->Z8 (we s).2.1=y)at hy
  show((bif (!Z8 (we s).1)then true else(bif (we s).2.2 then(!y)else false))=true->R ((s.head?==some 45,(low,(bl (we s).1,(bl (we s).2.1,bl e)))),false)) /\
      ((bif (!Z8 (we s).1)then true else(bif (we s).2.2 then(!y)else false))=false->((!decide ((we s).1=[48]))=true->(0<=(0:Int)/\(0:Int)<((we s).1.length:Int))) /\
       R ((s.head?==some 45,(low,(bl (we s).1,(bl (we s).2.1,bl e)))),bif decide ((we s).1=[48])then true else(((((we s).1[(0:Int).toNat]?).getD 0).toNat:Int) != 48)))
  have am:Z8 (we s).1=true->(we s).2.2=true->Z8 (we s).2.1=y:=λa b=>hy (by
   show((!(!Z8 (we s).1))&&(we s).2.2)=true
   rw[a,b];rfl)
  refine⟨λhx=>h2 ?_ _ _ _ _ _,λhx=>⟨λ_=>?_,?_⟩⟩
  ·unfold zdu
   cases hd:Z8 (we s).1 with
   |false=>simp
   |true=>
    rw[hd]at hx
    cases hw:(we s).2.2 with
    |false=>rw[hw]at hx;simp at hx
    |true=>
     rw[hw]at hx
     have:=am hd hw
     rw[this]
     simp at hx;simp[hx]
  all_goals
   have hd:Z8 (we s).1=true:=by
    cases hd:Z8 (we s).1 with
    |true=>rfl
    |false=>rw[hd]at hx;simp at hx
   have hp:=Wn hd
  ·omega
  ·have h3:(!(we s).2.2||Z8 (we s).2.1)=true:=by
    cases hw:(we s).2.2 with
    |false=>rfl
    |true=>
     rw[hd,hw]at hx
     have:=am hd hw
     rw[this];simpa using hx
   have h4:(bif decide ((we s).1=[48])then true else(((((we s).1[(0:Int).toNat]?).getD 0).toNat:Int) != 48))=((we s).1==[48]||(we s).1.head? != some 48):=by
    rw[show(0:Int).toNat=0 from rfl,zgt hp,Bh,AB];simp
   have ai:zdu s=((we s).1==[48]||(we s).1.head? != some 48):=by
    unfold zdu;rw[ak.1,hd,h3];simp
   rw[h4]
   cases ho:((we s).1==[48]||(we s).1.head? != some 48)with
   |true=>
    have:=h1 (ai.trans ho)
    unfold Y9 at this
    rw[ak.2.1,ak.2.2]at this
    exact this
   |false=>exact h2 (ai.trans ho) _ _ _ _ _
 intro K hK
 refine⟨λhm=>?_,λhm=>?_⟩
 ·have ae:(Zl s).2.2=true:=hm
  refine zlc (c:=45) (l:=(Zl s).2.1) ?_
  dsimp only
  intro K2 ap
  have step:∀low e,low=Ym s->e=zij s->K2 (bl e) (s.head?==some 45) low (bl []) (bl []) (bl []):=by
   intro low e an al
   refine ap _ _ _ _ _ _ (zdv ⟨λhx=>?_,λhx=>?_⟩)
   ·refine h2 ?_ _ _ [] [] []
    unfold zdu;rw[ae,<-al]
    have:Z8 e=false:=by simpa using hx
    rw[this];rfl
   ·refine hK _ _ _ _ _ _ (ah e low (λ_=>⟨by rw[<-al];simpa using hx,an,al⟩) λh=>by rw[ae]at h;cases h)
  have ac:Ym s=((Zl s).2.1.head?==some 45):=by unfold Ym;rw[ae];rfl
  refine⟨λhx=>?_,λhx=>?_⟩
  ·have Z:((Zl s).2.1.head?==some 45)=false:=by simpa using hx
   rw[Z]
   refine zrh (c:=43) ?_
   simp only[A9,if_false]
   refine step false _ (by rw[ac,Z]) ?_
   unfold zij;rw[ac,Z];simp
  ·have Z:((Zl s).2.1.head?==some 45)=true:=by simpa using hx
   rw[Z]
   simp only[if_true]
   refine step true _ (by rw[ac,Z]) ?_
   unfold zij;rw[ac,Z];simp
 ·have ae:(Zl s).2.2=false:=hm
  have he:(Zl s).2.1=[]:=(zac ae).2
  have:=ah [] false (λh=>by rw[ae]at h;cases h) λ_=>⟨rfl,rfl⟩
  show K (bl (Zl s).2.1) _ _ _ _ _
  rw[he]
  exact hK _ _ _ _ _ _ this
theorem z9u{α β γ δ:Type}{B:α->β->γ->δ->Prop}{c:Bool}{a b:α}{x:β}{y:γ}{z:δ}(h:∀e,e=(bif c then a else b)->B e x y z):∀K:α->β->γ->δ->Prop,(∀e x y z,B e x y z->K e x y z)->(c=true->K a x y z)/\(c=false->K b x y z):=
 λK hK=>⟨λhc=>hK _ _ _ _ (h _ (by subst hc;rfl)),λhc=>hK _ _ _ _ (h _ (by subst hc;rfl))⟩
theorem w64{n:Int}(h:-4611686018427387904<=n/\n<=4611686018427387904):Aa .i64 n=n:=wrap64 (by omega) (by omega)
set_option maxHeartbeats 1000000 in
theorem zs8{s:Bs}(hs:s.length<=1152921504606846976){R:(Bool×Bt×Int)×Int->Prop}(h:R (nmB (yb s).1,(yb s).2)):PC Tp gl 98 [Arg.mk .str (bl s)] [tN,.int .i64] R:=by
 apply zic
 refine z6e (by omega) (λac=>?_) (λac a b c d e=>?_)
 rotate_left
 ·refine zin ⟨λ_=>?_,λhx=>by cases hx⟩
  have:Jt s=none:=by unfold Jt;simp[ac]
  unfold yb at h
  rw[this]at h;exact h
 ·have Z:Jt s=some (Y9 s):=by unfold Jt;simp[ac]
  have ax:=ze6 Z
  obtain⟨d1,d2,d3⟩:=zim Z
  unfold yb at h
  rw[Z]at h
  simp only at h
  generalize Y9 s=x at *
  refine zin ⟨λhx=>(by cases hx),λ_=>?_⟩
  simp only[zv]
  rw[w64 (by omega)]
  refine⟨λhx=>?_,λhx=>?_⟩
  ·rw[if_pos (by simp at hx;omega)]at h;exact h
  ·rw[if_neg (by simp at hx;omega)]at h
   refine⟨λaa=>?_,λaa=>?_⟩
   ·rw[if_pos (by simp at aa;omega)]at h;exact h
   ·rw[if_neg (by simp at aa;omega)]at h
    have am:x.whole.length+x.rest.length<=1000:=by simp at hx;omega
    have aB:x.exp.all qu=true:=d3
    generalize hE:x.exp.dropWhile (· == 48)=E at *
    have ai:E.all qu=true:=by rw[<-hE];exact Wp d3
    have al:E.length<=9:=by simp at aa;omega
    have az:zj E<10 ^ 9:=Qf al ai
    refine⟨λe _ _ _ p=>p.1=bl E/\p.2<=E.length/\e=(zj (E.take p.2):Int),λ_ _ _ _ p=>E.length-p.2,⟨rfl,by omega,by simp[zj]⟩,?_⟩
    rintro e b1 b2 b3 ⟨_,p⟩ ⟨rfl,hp,rfl⟩
    simp only at hp ⊢
    rw[zpb,zs4]
    refine⟨λhc=>⟨hc,?_⟩,λhc=>?_⟩
    ·have O:p<E.length:=by simpa using hc
     have hd:=zs7 ai O
     have au:E.drop p=E[p]::E.drop (p+1):=AC O
     rw[zlb E p O,au,Xm (by omega)]
     have aA:=Qf (n:=9) (l:=E.take p) (by simp;omega) (zm0 ai p)
     rw[zif (by omega) (by omega),w64 (n:=10*_) (by omega),w64 (n:=(_:Int)-48) (by omega),w64 (by omega)]
     simp only
     refine⟨⟨trivial,by omega,?_⟩,by omega⟩
     rw[wz O];omega
    ·have O:¬p<E.length:=by simpa using hc
     have an:p=E.length:=by omega
     subst an
     rw[AE]
     apply z9u
     intro e7 ap
     refine⟨by unfold Zm;omega,?_⟩
     rw[ju]
     refine zin ?_
     rw[show(⟨#[]⟩:Bt)=bl []from rfl]
     simp only[zds]
     have hD:(x.whole++x.rest).all qu=true:=by rw[CV,zdy d1,d2];rfl
     refine⟨λah=>?_,λah=>?_⟩
     ·rw[if_pos (by simpa using ah)]at h;exact h
     ·have af:(x.whole++x.rest).dropWhile (· == 48)≠[]:=by simpa using ah
      rw[if_neg af]at h
      have ar:=xh (x.whole++x.rest) (· == 48)
      rw[Av]at ar
      refine zvj (by omega) ?_
      have ay:=(Q0 hD af).2.1
      have ak:=zvi hD af (by rw[Av];exact am)
      simp only[zv,show((List.dropWhile (λx=>x==48) (x.whole++x.rest)).reverse.dropWhile (λx=>x==48)).reverse=jo (x.whole++x.rest)from rfl]
      have aj:e7=if x.low then-(zj E:Int)else(zj E:Int):=by rw[ap];cases x.low <;> simp;exact w64 (by omega)
      have hb:-1000000000<=e7/\e7<=1000000000:=by rw[aj];split <;> omega
      rw[w64 (n:=e7-_) (by omega),w64 (n:=e7-_+_) (by omega),w64 (by omega)]
      refine zmz (n:=(x.neg,jo (x.whole++x.rest),e7-(x.rest.length:Int)+(((x.whole++x.rest).dropWhile (· == 48)).length:Int)-((jo (x.whole++x.rest)).length:Int))) (by simp only;omega) ?_
      rw[ak]
      change R (nmB (if -1000000<=(if x.low=true then-(zj E:Int)else(zj E:Int))-(x.rest.length:Int)+(((x.whole++x.rest).dropWhile (· == 48)).length:Int)-((jo (x.whole++x.rest)).length:Int)/\(if x.low=true then-(zj E:Int)else(zj E:Int))-(x.rest.length:Int)+(((x.whole++x.rest).dropWhile (· == 48)).length:Int)-((jo (x.whole++x.rest)).length:Int)<=1000000 then((x.neg,jo (x.whole++x.rest),(if x.low=true then-(zj E:Int)else(zj E:Int))-(x.rest.length:Int)+(((x.whole++x.rest).dropWhile (· == 48)).length:Int)-((jo (x.whole++x.rest)).length:Int)),0)else((false,[],0),4)).1,_)at h
      rw[<-aj]at h
      refine⟨λae=>?_,λae=>?_⟩
      ·rw[if_neg (by simp at ae;omega)]at h;exact h
      ·rw[if_pos (by simp at ae;omega)]at h;exact h
end
section
variable {gl:Fr} {n:Int}
theorem zio{a b:Bs}(h:a.length+b.length<=4611686018427387904):Zm ((bl a).size+(bl b).size):=by
 unfold Zm;rw[zv,zv];omega
theorem zyi(hg:Pow gl){n:Nm}(hn:n.2.1.length<=4611686018427387904){R:Bt->Prop}(h:R (bl (Yl n))):PC Tp gl 56 [Arg.mk tN (nmB n)] [.str] R:=by
 apply zjs
 refine zmz hn ⟨λhx=>?_,λhx=>?_⟩
 ·have:yr n=false:=by simpa using hx
  have e:Yl n=[]:=by unfold Yl;simp[this]
  rw[e]at h;exact h
 ·have hr:yr n=true:=by simpa using hx
  obtain⟨hl,aa,af⟩:=Wm hr
  unfold Yl at h
  rw[if_pos hr]at h
  simp only[show(⟨#[]⟩:Bt)=bl []from rfl,zds]
  refine⟨λZ=>?_,λZ=>?_⟩
  ·rw[if_pos (by simpa using Z)]at h;exact h
  ·rw[if_neg (by simpa using Z)]at h
   intro K hK
   have key:∀t:Bs,t=(if n.1 then [45]else [])++n.2.1->K (bl t):=by
    intro t ht
    have ac:t.length<=1001:=by rw[ht];split <;> simp <;> omega
    rw[<-ht]at h
    refine hK _ ⟨λO=>?_,λO=>?_⟩
    ·rw[if_neg (by simpa using O)]at h
     have ae:=Go.X.itoa_len n.2.2
     refine zyh hg (by omega) (by omega) ?_
     refine⟨zio (a:=[101]) (by simp;omega),?_⟩
     rw[show(⟨#[101]⟩:Bt)=bl [101]from rfl,ju,ju]
     exact⟨zio (by simp;omega),h⟩
    ·rw[if_pos (by simpa using O),Bc]at h;exact h
   refine⟨λO=>⟨zio (a:=[45]) (by simp;omega),?_⟩,λO=>?_⟩
   ·rw[show(⟨#[45]⟩:Bt)=bl [45]from rfl,ju]
    exact key _ (by rw[if_pos (by simpa using O)])
   ·exact key _ (by rw[if_neg (by simpa using O)];rfl)
theorem qa3{k:Nat}(h:k<10):(bl [48,49,50,51,52,53,54,55,56,57]).extract k (k+1)=bl [Dl (48+k)]:=by
 rw[jg,Go.X.dig_ext k h]
theorem z1w(h:10<=n):Lib.itoa n=Lib.itoa (n / 10)++[Dl (48+(n % 10).toNat)]:=by
 unfold Lib.itoa
 rw[if_neg (by omega),if_neg (by omega),Lib.decDigits,dif_neg (by omega)]
 congr 3
 ·omega
 ·omega
theorem itoa_neg(h:n<=-10):Lib.itoa n=Lib.itoa (n.tdiv 10)++[Dl (48+(-(n.tmod 10)).toNat)]:=by
 obtain⟨m,rfl⟩:∃m:Nat,n=-(m:Int):=⟨n.natAbs,by omega⟩
 have e1:(-(m:Int)).tdiv 10=-((m / 10:Nat):Int):=by rw[Int.neg_tdiv];rfl
 have e2:(-(m:Int)).tmod 10=-((m % 10:Nat):Int):=by rw[Int.neg_tmod];rfl
 rw[e1,e2]
 unfold Lib.itoa
 rw[if_pos (by omega),if_pos (by omega)]
 have a1:(-(m:Int)).natAbs=m:=by omega
 have a2:(-((m / 10:Nat):Int)).natAbs=m / 10:=by omega
 rw[a1,a2]
 conv=>lhs;rw[Lib.decDigits,dif_neg (by omega)]
 rw[Be]
 congr 4
 omega
theorem ze7{gl:Fr}{n:Int}(h1:-9223372036854775808<=n)(h2:n<=9223372036854775807){R:Bt->Prop}(h:R (bl (Lib.itoa n))):PC Tp gl 200 [Arg.mk (.int .i64) n] [.str] R:=by
 apply Xl
 have hD:(⟨#[48,49,50,51,52,53,54,55,56,57]⟩:Bt)=bl [48,49,50,51,52,53,54,55,56,57]:=rfl
 simp only[hD]
 have Z:(bl [48,49,50,51,52,53,54,55,56,57]).size=10:=by rw[zv];rfl
 refine⟨λhx=>?_,λhx=>⟨λO=>?_,λO=>⟨λaa=>?_,λaa=>?_⟩⟩⟩
 ·have hn:0<=n/\n<10:=by simpa[Ba]using hx
  rw[w64 (by omega),Z]
  refine⟨by omega,?_⟩
  have e:(n+1).toNat=n.toNat+1:=by omega
  rw[e,qa3 (by omega)]
  have:Lib.itoa n=[Dl (48+n.toNat)]:=by unfold Lib.itoa;rw[if_neg (by omega),Lib.decDigits,dif_pos (by omega)]
  rw[<-this];exact h
 ·have hn:10<=n:=by
   have:¬(0<=n/\n<10):=by simpa[Ba]using hx
   have:n>0:=by simpa using O
   omega
  have e1:n.tdiv 10=n / 10:=Int.tdiv_eq_ediv_of_nonneg (by omega)
  have e2:n.tmod 10=n % 10:=Int.tmod_eq_emod_of_nonneg (by omega)
  rw[e1,e2,w64 (n:=n % 10+1) (by omega),w64 (n:=n / 10) (by omega),Z]
  refine⟨trivial,by omega,trivial,by omega,trivial,by omega,by omega,ze7 (n:=n / 10) (by omega) (by omega) ?_⟩
  have e:(n % 10+1).toNat=(n % 10).toNat+1:=by omega
  rw[e,qa3 (by omega)]
  refine⟨zio ?_,?_⟩
  ·have:=Go.X.itoa_len (n / 10);simp;omega
  ·rw[ju,<-z1w hn];exact h
 ·have hn:-10<n/\n<0:=by
   have:¬(0<=n/\n<10):=by simpa[Ba]using hx
   have:¬n>0:=by simpa using O
   have:n > -10:=by simpa using aa
   omega
  have hz:(0:Int)-n=-n:=by omega
  rw[hz,w64 (n:=-n) (by omega),w64 (n:=-n+1) (by omega),Z]
  have e:(-n+1).toNat=(-n).toNat+1:=by omega
  rw[e,qa3 (by omega)]
  refine⟨by omega,zio (a:=[45]) (by simp),?_⟩
  rw[show(⟨#[45]⟩:Bt)=bl [45]from rfl,ju]
  have:Lib.itoa n=[45]++[Dl (48+(-n).toNat)]:=by
   unfold Lib.itoa;rw[if_pos (by omega),Lib.decDigits,dif_pos (by omega)]
   have:n.natAbs=(-n).toNat:=by omega
   rw[this];rfl
  rw[<-this];exact h
 ·have hn:n<=-10:=by
   have:¬(0<=n/\n<10):=by simpa[Ba]using hx
   have:¬n>0:=by simpa using O
   have:¬n > -10:=by simpa using aa
   omega
  have hd:n.tdiv 10=-((-n) / 10):=by
   have:=Int.neg_tdiv (-n) 10
   rw[Int.neg_neg]at this
   rw[this,Int.tdiv_eq_ediv_of_nonneg (by omega)]
  have hm:n.tmod 10=-((-n) % 10):=by
   have:=Int.neg_tmod (-n) 10
   rw[Int.neg_neg]at this
   rw[this,Int.tmod_eq_emod_of_nonneg (by omega)]
  have hz:(0:Int)-n.tmod 10=-(n.tmod 10):=by omega
  rw[hz,w64 (n:=-(n.tmod 10)) (by omega),w64 (n:=-(n.tmod 10)+1) (by omega),w64 (n:=n.tdiv 10) (by omega),Z]
  have e:(-(n.tmod 10)+1).toNat=(-(n.tmod 10)).toNat+1:=by omega
  rw[e,qa3 (by omega)]
  refine⟨trivial,by omega,trivial,by omega,trivial,by omega,by omega,ze7 (n:=n.tdiv 10) (by omega) (by omega) ?_⟩
  refine⟨zio ?_,?_⟩
  ·have:=Go.X.itoa_len (n.tdiv 10);simp;omega
  ·rw[ju,<-itoa_neg hn];exact h
termination_by n.natAbs
decreasing_by all_goals omega
theorem zvk{n:Nm}(hn:n.2.1.length<=4611686018427387904){R:Bt->Prop}(h:R (bl (Yl n))):PC Tp gl 168 [Arg.mk tN (nmB n)] [.str] R:=by
 apply zdq
 refine zil hn ⟨λhx=>?_,λhx=>?_⟩
 ·have:yr n=false:=by simpa using hx
  have e:Yl n=[]:=by unfold Yl;simp[this]
  rw[e]at h;exact h
 ·have hr:yr n=true:=by simpa using hx
  obtain⟨hl,aa,af⟩:=Wm hr
  unfold Yl at h
  rw[if_pos hr]at h
  refine zpd (n:=n) ⟨λZ=>?_,λZ=>?_⟩
  ·have:n.2.1=[]:=by
    unfold Wv at Z
    simp at Z;exact Z.2.1
   rw[if_pos this]at h;exact h
  ·have:¬n.2.1=[]:=λe=>by have:=zii hr e;rw[this]at Z;cases Z
   rw[if_neg this]at h
   intro K hK
   have key:∀t:Bs,t=(if n.1 then [45]else [])++n.2.1->K (bl t):=by
    intro t ht
    have ac:t.length<=1001:=by rw[ht];split <;> simp <;> omega
    rw[<-ht]at h
    refine hK _ ⟨λO=>?_,λO=>?_⟩
    ·rw[if_neg (by simpa using O)]at h
     have ae:=Go.X.itoa_len n.2.2
     refine⟨zio (b:=[101]) (by simp;omega),ze7 (n:=n.2.2) (by omega) (by omega) ?_⟩
     rw[show(⟨#[101]⟩:Bt)=bl [101]from rfl,ju,ju]
     exact⟨zio (by simp;omega),by rw[AY];exact h⟩
    ·rw[if_pos (by simpa using O),Bc]at h;exact h
   refine⟨λO=>⟨zio (a:=[45]) (by simp;omega),?_⟩,λO=>?_⟩
   ·rw[show(⟨#[45]⟩:Bt)=bl [45]from rfl,ju]
    exact key _ (by rw[if_pos (by simpa using O)])
   ·exact key _ (by rw[if_neg (by simpa using O)];rfl)
theorem qby(hg:Pow gl)(h1:-9223372036854775808<=n)(h2:n<=9223372036854775807){R:Bool×Bt×Int->Prop}(h:R (nmB (yb (Lib.itoa n)).1)):PC Tp gl 57 [Arg.mk (.int .i64) n] [tN] R:=by
 apply zo6
 refine zyh hg h1 h2 (zs8 ?_ h)
 have:=Go.X.itoa_len n
 have O:∀u:Nat,u<10 ^ 20->(Lib.decDigits u).length<=20:=by
  have:∀(k u:Nat),u<10 ^ (k+1)->(Lib.decDigits u).length<=k+1:=by
   intro k
   induction k with
   |zero=>intro u hu;rw[Lib.decDigits,dif_pos (by simpa using hu)];simp
   |succ k ih=>
    intro u hu
    rw[Lib.decDigits]
    split
    ·simp
    ·have:=ih (u / 10) (by rw[Nat.pow_succ]at hu;omega)
     simp;omega
  exact this 19
 have:(Lib.itoa n).length<=21:=by
  unfold Lib.itoa
  split
  ·have:=O n.natAbs (by omega);simp;omega
  ·have:=O n.toNat (by omega);omega
 omega
end
section
variable {l:Bs} {n:Int}
theorem zyj{c:UInt8}(hn:n=(c.toNat:Int)):(bif decide ((l.length:Int)>0)then(((l[0]?.getD 0).toNat:Int)==n)else false)=(l.head?==some c):=by
 subst hn
 cases l with
 |nil=>rfl
 |cons b t=>
  have:decide (((b::t).length:Int)>0)=true:=by simp
  rw[this,cond_true]
  show((b.toNat:Int)==(c.toNat:Int))=(some b==some c)
  rw[AB]
  simp only[beq_iff_eq,Int.natCast_inj,Ab]
  exact⟨λh=>Cz.1 h,λh=>by rw[h]⟩
theorem z1x:bl ((l.drop (1:Int).toNat).take (((l.length:Int)).toNat-(1:Int).toNat))=bl l.tail:=by
 rw[Ad,show(1:Int).toNat=1 from rfl,List.drop_one,AM (by simp)]
theorem zad{c:UInt8}(d:UInt8)(hn:n=(d.toNat:Int)):((c.toNat:Int) != n)=!(c==d):=by
 subst hn
 rw[AB]
 simp only[bne_iff_ne,ne_eq,Int.natCast_inj,Ce,beq_eq_false_iff_ne]
 exact⟨λh e=>h (by rw[e]),λh e=>h (Cz.1 e)⟩
set_option maxHeartbeats 1000000 in
theorem z1y{gl:Fr}{s:Bs}(hs:s.length<=1152921504606846976){R:Bool×Bt×Bt×Bool×Bt×Bool->Prop}
  (h1:zdu s=true->R ((Y9 s).neg,bl (Y9 s).whole,bl (Y9 s).rest,(Y9 s).low,bl (if(Zl s).2.2 then(Y9 s).exp else [48]),true)) (h2:zdu s=false->∀a b c d e,R (a,bl b,bl c,d,bl e,false)):
  PC Tp gl 198 [Arg.mk .str (bl s)] [.bool,.str,.str,.bool,.str,.bool] R:=by
 apply zb0
 simp only[zv,yq,show(0:Int).toNat=0 from rfl,zyj (l:=s) (c:=45) (n:=45) rfl]
 refine⟨λhx=>by simp at hx;omega,?_⟩
 have hS:(zs5 s).length<=s.length:=by unfold zs5;split <;> simp
 have first:∀K:Bt->Prop,K (bl (zs5 s))->(((s.head?==some 45)=true->(0<=(1:Int)/\(1:Int)<=(s.length:Int)/\((s.length:Int))<=(s.length:Int))/\K ((bl s).extract (1:Int).toNat ((s.length:Int)).toNat))/\((s.head?==some 45)=false->K (bl s))):=by
  intro K hK
  unfold zs5 at hK
  refine⟨λhx=>⟨?_,?_⟩,λhx=>?_⟩
  ·cases s with
   |nil=>simp at hx
   |cons=>simp;omega
  ·rw[hx,if_pos rfl]at hK
   rw[jg,z1x];exact hK
  ·rw[hx,if_neg (by simp)]at hK;exact hK
 intro K hK
 refine first K (hK _ ?_)
 clear hK first K
 generalize aN:zs5 s=s1 at *
 simp only[zv,yq]
 have hM:cutAt isE s1=Zl s:=by rw[Zl,aN]
 refine⟨λi=>∃k:Nat,i=k/\k<=s1.length/\∀j (hj:j<s1.length),j<k->isE s1[j]=false,λi=>s1.length-i.toNat,⟨0,rfl,by omega,λj _ h=>by omega⟩,?_⟩
 rintro i ⟨k,rfl,hk,hb⟩
 have ap:∀hk:k<s1.length,(bif (bif decide ((k:Int)<(s1.length:Int))then((((s1[((k:Int)).toNat]?).getD 0).toNat:Int) != 101)else false)then((((s1[((k:Int)).toNat]?).getD 0).toNat:Int) != 69)else false)=!isE s1[k]:=by
  intro hk
  rw[Ad,zdt hk]
  have:decide ((k:Int)<(s1.length:Int))=true:=by simpa using hk
  rw[this,cond_true,zad (n:=101) 101 rfl,zad (n:=69) 69 rfl,isE]
  cases s1[k]==101 <;> simp
 refine⟨λhc=>?_,λhc=>?_,λhc=>?_,λhc=>?_⟩
 ·have:k<s1.length:=by simpa using hc
  omega
 ·have:k<s1.length:=by simp at hc;omega
  omega
 ·have aa:k<s1.length:=by simp at hc;omega
  rw[ap aa]at hc
  rw[yz aa (by omega)]
  refine⟨⟨k+1,rfl,by omega,λj hj aP=>?_⟩,by simp only[Ad];omega⟩
  by_cases e:j=k
  ·subst e;simpa using hc
  ·exact hb j hj (by omega)
 ·-- the whole and the point
  have hm:Zl s=if hk:k<s1.length then(s1.take k,s1.drop (k+1),true)else(s1,[],false):=by
   rw[<-hM]
   split
   ·rename_i aa
    rw[ap aa]at hc
    exact zgs aa (λj hj=>hb j (by omega) hj) (by simpa using hc)
   ·exact zab λc aC=>by
     obtain⟨j,hj,rfl⟩:=A7 aC
     exact hb j hj (by omega)
  have ah:s1.take k=(Zl s).1:=by
   rw[hm];split
   ·rfl
   ·rw[AM (by omega)]
  have rest:∀(e:Bs) (low:Bool),low=Ym s->e=(if(Zl s).2.2 then zij s else [48]) ->
    ∀am:Bt->Bool->Prop,(∀ae:Bt,∀Z:Bool,ae=bl e->Z=low->am ae Z)->am (bl e) low:=λe low _ _ am h=>h _ _ rfl rfl
  intro am aE
  have aB:∀(e:Bs) (low:Bool),low=Ym s->e=(if(Zl s).2.2 then zij s else [48])->am (bl e) low:=by
   intro e low aI aA
   refine aE _ _ ⟨by omega,?_⟩
   have aO:(bl s1).extract 0 ((k:Int)).toNat=bl (Zl s).1:=by rw[Ad,jg,AQ,BK,ah]
   rw[aO]
   generalize aU:(Zl s).1=m1 at *
   have aY:m1.length<=s1.length:=by rw[<-ah];simp;omega
   have hw:cutAt zpc m1=we s:=by rw[we,aU]
   simp only[zv,yq]
   refine⟨λi=>∃k:Nat,i=k/\k<=m1.length/\∀j (hj:j<m1.length),j<k->zpc m1[j]=false,λi=>m1.length-i.toNat,⟨0,rfl,by omega,λj _ h=>by omega⟩,?_⟩
   rintro i ⟨q,rfl,hq,ay⟩
   have al:∀hq:q<m1.length,(bif decide ((q:Int)<(m1.length:Int))then((((m1[((q:Int)).toNat]?).getD 0).toNat:Int) != 46)else false)=!zpc m1[q]:=by
    intro hq
    rw[Ad,zdt hq]
    have:decide ((q:Int)<(m1.length:Int))=true:=by simpa using hq
    rw[this,cond_true,zad (n:=46) 46 rfl,zpc]
   refine⟨λhc=>?_,λhc=>?_,λhc=>⟨?_,?_⟩⟩
   ·have:q<m1.length:=by simpa using hc
    omega
   ·have ac:q<m1.length:=by simp at hc;omega
    rw[al ac]at hc
    rw[yz ac (by omega)]
    refine⟨⟨q+1,rfl,by omega,λj hj aP=>?_⟩,by simp only[Ad];omega⟩
    by_cases e:j=q
    ·subst e;simpa using hc
    ·exact ay j hj (by omega)
   ·omega
   ·have aj:we s=if hq:q<m1.length then(m1.take q,m1.drop (q+1),true)else(m1,[],false):=by
     rw[<-hw]
     split
     ·rename_i ac
      rw[al ac]at hc
      exact zgs ac (λj hj=>ay j (by omega) hj) (by simpa using hc)
     ·exact zab λc aC=>by
       obtain⟨j,hj,rfl⟩:=A7 aC
       exact ay j hj (by omega)
    have aS:(bl m1).extract 0 ((q:Int)).toNat=bl (we s).1:=by
     rw[Ad,jg,AQ,BK,aj]
     split
     ·rfl
     ·rw[AM (by omega)]
    rw[aS]
    have aZ:(we s).1.length<=s.length:=by rw[aj];split <;> simp <;> omega
    have a7:(we s).2.1.length<=s.length:=by rw[aj];split <;> simp <;> omega
    have a6:e.length<=s.length+1:=by
     rw[aA]
     split
     ·rename_i a1
      have:(zij s).length<=(Zl s).2.1.length:=by
       unfold zij;split
       ·simp
       ·split <;> simp
      have:(Zl s).2.1.length<=s1.length:=by rw[hm];split <;> simp
      omega
     ·simp
    have au:∀(ai:Bt->Prop),(∀r:Bt,r=bl (if(we s).2.2 then(we s).2.1 else [48])->ai r)->((decide ((q:Int)<(m1.length:Int)))=true->(0<=(Aa .i64 ((q:Int)+1))/\(Aa .i64 ((q:Int)+1))<=(m1.length:Int)/\((m1.length:Int))<=(m1.length:Int))/\ai ((bl m1).extract (Aa .i64 ((q:Int)+1)).toNat ((m1.length:Int)).toNat))/\((decide ((q:Int)<(m1.length:Int)))=false->ai (bl [48])):=by
     intro ai af
     refine⟨λhx=>?_,λhx=>?_⟩
     ·have ac:q<m1.length:=by simpa using hx
      rw[yz ac (by omega)]
      refine⟨by omega,af _ ?_⟩
      rw[aj,dif_pos ac,Ad,Ad,jg,AM (by simp)];rfl
     ·have ac:¬q<m1.length:=by simpa using hx
      refine af _ ?_
      rw[aj,dif_neg ac];rfl
    intro ai af
    refine au ai λr hr=>af r ?_
    subst hr
    clear af au
    have ar:((q:Int)==(m1.length:Int))=!(we s).2.2:=by
     rw[aj,AB]
     split
     ·simp;omega
     ·simp;omega
    refine Y4 (l:=(we s).1) (by omega) ⟨λx=>Z8 (if(we s).2.2 then(we s).2.1 else [48])=x,λ_=>Y4 (by split <;> first|omega|simp) rfl,λy hy=>?_⟩
    refine⟨λx=>Z8 e=x,λ_=>Y4 (by omega) rfl,λz hz=>?_⟩
    rw[show(⟨#[48]⟩:Bt)=bl [48]from rfl]
    simp only[zds,zv,yq]
    generalize ax:Z8 (we s).1=d1 at *
    have aH:Z8 (if(we s).2.2 then(we s).2.1 else [48])=(!(we s).2.2||Z8 (we s).2.1):=by
     cases(we s).2.2 <;> simp;decide
    have aG:Z8 e=(!(Zl s).2.2||Z8 (zij s)):=by
     rw[aA];cases(Zl s).2.2 <;> simp;decide
    have O:zdu s=((bif (bif d1 then y else false)then z else false)&&((we s).1==[48]||(we s).1.head? != some 48)):=by
     unfold zdu
     rw[ax,<-aH,<-aG]
     cases hd:d1 with
     |false=>simp
     |true=>
      have aJ:=hy hd
      rw[aJ]
      cases hyv:y with
      |false=>simp
      |true=>
       have aL:=hz (by rw[hd,hyv];rfl)
       rw[aL];cases z <;> simp
    refine⟨λhx=>?_,?_⟩
    ·have:d1=true:=by simp at hx;exact hx.1.1.1
     have:=Wn (ax.trans this)
     omega
    ·intro aM aD
     have ak:aM (bl (we s).2.1):=by
      refine aD _ ?_
      have h4:∀hd:d1=true,(bif decide ((we s).1=[48])then true else(((((we s).1[0]?).getD 0).toNat:Int) != 48))=((we s).1==[48]||(we s).1.head? != some 48):=by
       intro hd
       rw[zgt (Wn (ax.trans hd)),Bh,AB];simp
      cases ho:zdu s with
      |true=>
       rw[ho]at O
       have hd:d1=true:=by cases d1 <;> simp at O;rfl
       rw[h4 hd]
       have aQ:(bif (bif d1 then y else false)then z else false)=true:=by
        cases hb:(bif (bif d1 then y else false)then z else false)with
        |true=>rfl
        |false=>rw[hb]at O;simp at O
       rw[aQ]at O ⊢
       rw[cond_true]
       rw[Bf]at O
       rw[<-O]
       have:=h1 ho
       unfold Y9 at this
       simp only at this
       rw[aI,aA]
       have e5:(if(Zl s).2.2 then(if(Zl s).2.2 then zij s else [])else [48])=(if(Zl s).2.2 then zij s else [48]):=by cases(Zl s).2.2 <;> rfl
       rw[e5]at this
       exact this
      |false=>
       rw[ho]at O
       have hv:(bif (bif (bif d1 then y else false)then z else false)then(bif decide ((we s).1=[48])then true else(((((we s).1[0]?).getD 0).toNat:Int) != 48))else false)=false:=by
        cases hd:d1 with
        |false=>rfl
        |true=>
         rw[h4 hd]
         rw[hd]at O
         rw[Ba];exact O.symm
       rw[hv]
       exact h2 ho _ _ _ _ _
     refine⟨λhx=>?_,λhx=>?_⟩
     ·rw[ar]at hx
      have aT:(we s).2.2=false:=by simpa using hx
      have:(we s).2.1=[]:=(zac aT).2
      rw[this]at ak;exact ak
     ·rw[ar]at hx
      have aV:(we s).2.2=true:=by simpa using hx
      rw[aV] ;exact ak
  refine⟨λhx=>?_,λhx=>?_⟩
  ·have aa:k<s1.length:=by simpa using hx
   rw[yz aa (by omega)]
   have hE:(Zl s).2.1=s1.drop (k+1):=by rw[hm,dif_pos aa]
   have az:(Zl s).2.2=true:=by rw[hm,dif_pos aa]
   have aF:(bl s1).extract ((k+1:Nat):Int).toNat ((s1.length:Int)).toNat=bl (Zl s).2.1:=by
    rw[Ad,Ad,jg,AM (by simp),hE]
   rw[aF]
   simp only[zv,yq]
   rw[zyj (l:=(Zl s).2.1) (c:=45) (n:=45) rfl,zyj (l:=(Zl s).2.1) (c:=43) (n:=43) rfl]
   have an:((Zl s).2.1.head?==some 45)=Ym s:=by unfold Ym;rw[az];rfl
   rw[an]
   refine⟨by omega,λhy=>by simp at hy;omega,λhy=>by simp at hy;omega,λhy=>⟨?_,?_⟩,λhy=>?_⟩
   ·have:0<(Zl s).2.1.length:=by
     cases hl:(Zl s).2.1 with
     |nil=>rw[<-an,hl]at hy;simp at hy
     |cons=>simp
    omega
   ·rw[jg,z1x]
    refine aB _ _ rfl ?_
    rw[az,if_pos rfl,zij]
    cases hl:Ym s with
    |true=>simp
    |false=>rw[hl]at hy;simp at hy;simp[hy]
   ·refine aB _ _ rfl ?_
    rw[az,if_pos rfl,zij]
    cases hl:Ym s with
    |true=>rw[hl]at hy;simp at hy
    |false=>rw[hl]at hy;simp at hy;simp[hy]
  ·have aa:¬k<s1.length:=by simpa using hx
   refine aB [48] false ?_ ?_
   ·unfold Ym;rw[hm,dif_neg aa];rfl
   ·rw[hm,dif_neg aa];rfl
end
section
variable {l:Bs}
theorem zfw(h:(l.head?==some 48)=false):l.dropWhile (· == 48)=l:=by
 cases l with
 |nil=>rfl
 |cons b t=>
  rw[Df,if_neg]
  simpa using h
theorem za2(h:(l.head?==some 48)=true):l.tail.dropWhile (· == 48)=l.dropWhile (· == 48):=by
 cases l with
 |nil=>rfl
 |cons b t=>
  have:b=48:=by simpa using h
  subst this;rfl
theorem zpf(l:Bs):zj (48::l)=zj l:=rfl
theorem zri(l:Bs):zj (l.dropWhile (· == 48))=zj l:=by
 induction l with
 |nil=>rfl
 |cons b t ih=>
  rw[Df]
  split
  ·rename_i h
   have:b=48:=by simpa using h
   subst this;rw[ih,zpf]
  ·rfl
theorem zyk{n:Int}(h1:0<=n)(h2:n<256):Aa .u8 n=n:=by
 unfold Aa
 have e:(2:Int) ^ Ar .u8=256:=by decide
 simp only[e]
 have hs:DO .u8=false:=rfl
 simp only[hs,DR,A9,if_false]
 omega
theorem z9v{m:Int}(hm:0<=m):(bif decide ((l.length:Int)>m)then(((l[0]?.getD 0).toNat:Int)==48)else false)=(decide ((l.length:Int)>m)&&l.head?==some 48):=by
 cases hd:decide ((l.length:Int)>m)with
 |false=>rfl
 |true=>
  have hl:0<l.length:=by simp at hd;omega
  rw[cond_true,Bf]
  have:=zyj (l:=l) (c:=48) (n:=48) rfl
  rw[show decide ((l.length:Int)>0)=true by simp;omega,cond_true]at this
  exact this
def stripR(l:Bs):Bs:=(l.reverse.dropWhile (· == 48)).reverse
theorem zrj{c:UInt8}(h:c=48):stripR (l++[c])=stripR l:=by
 subst h;unfold stripR;rw[List.reverse_append];rfl
theorem zyl{c:UInt8}(h:¬c=48):stripR (l++[c])=l++[c]:=by
 unfold stripR;rw[List.reverse_append,List.reverse_singleton,DD,Df,if_neg (by simpa using h)];simp
theorem z6f{α β γ δ:Type}{B:α->β->γ->δ->Prop}{c:Bool}{a b:α}{x:β}{y:γ}{z:δ}(h:∀e,e=(bif c then a else b)->B e x y z):∀K:α->β->γ->δ->Prop,(∀e x y z,B e x y z->K e x y z)->(c=true->K a x y z)/\(c=false->K b x y z):=
 λK hK=>⟨λhc=>hK _ _ _ _ (h _ (by subst hc;rfl)),λhc=>hK _ _ _ _ (h _ (by subst hc;rfl))⟩
set_option maxHeartbeats 1000000 in
theorem zrk{gl : Fr}{s : Bs}(hs : s.length <= 1152921504606846976){R : (Bool × Bt × Int) × Int -> Prop}(h : R (nmB (yb s).1, (yb s).2)): PC Tp gl 167 [Arg.mk .str (bl s)] [tN, .int .i64] R := by
  apply zby
  refine z1y hs (λhok => ?_) (λhok a b c d e => ?_)
  rotate_left
  · refine ⟨λ_ => ?_, λhx => by cases hx⟩
    have : Jt s = none := by unfold Jt; simp [hok]
    unfold yb at h
    rw [this] at h; exact h
  · have hlit : Jt s = some (Y9 s) := by unfold Jt; simp [hok]
    have hlen := ze6 hlit
    obtain ⟨d1, d2, d3⟩ := zim hlit
    unfold yb at h
    rw [hlit] at h
    simp only at h
    obtain ⟨E1, hE1, hE1d, hE1v⟩ : ∃ E1, (if (Zl s).2.2 then (Y9 s).exp else [48]) = E1 /\ E1.all qu = true /\ E1.dropWhile (· == 48) = (Y9 s).exp.dropWhile (· == 48) := by
      refine ⟨_, rfl, ?_, ?_⟩
      · split
        · exact d3
        · rfl
      · cases hm : (Zl s).2.2 with
        | true => rfl
        | false => simp [Y9, hm]
    have hE1l : E1.length <= s.length + 1 := by
      rw [<- hE1]; split
      · omega
      · simp only [List.length_singleton]; omega
    rw [hE1]
    generalize Y9 s = x at *
    refine ⟨λhx => (by cases hx), λ_ => ?_⟩
    simp only [zv]
    rw [w64 (by omega)]
    refine ⟨λhx => ?_, λhx => ?_⟩
    · rw [if_pos (by simp at hx; omega)] at h; exact h
    · rw [if_neg (by simp at hx; omega)] at h
      have hx' : x.whole.length + x.rest.length <= 1000 := by simp at hx; omega
      refine ⟨λe8 _ _ _ => ∃ E : Bs, e8 = bl E /\ E.all qu = true /\ E.dropWhile (· == 48) = x.exp.dropWhile (· == 48), λe8 _ _ _ => e8.size, ⟨E1, rfl, hE1d, hE1v⟩, ?_⟩
      rintro e8 b1 b2 b3 ⟨E, rfl, hEd, hEv⟩
      simp only [zv, yq, show (0 : Int).toNat = 0 from rfl, z9v (l := E) (m := 1) (by omega)]
      refine ⟨λhy => by simp at hy; omega, λhy => ?_, λhy => ?_⟩
      · have hy1 : 1 < E.length /\ (E.head? == some 48) = true := by
          have : (1 : Int) < (E.length : Int) /\ E.head? = some 48 := by simpa using hy
          exact ⟨by omega, by simp [this.2]⟩
        rw [jg, z1x]
        refine ⟨by omega, ⟨E.tail, rfl, ?_, ?_⟩, by rw [zv, List.length_tail]; omega⟩
        · rw [<- List.drop_one]; exact z1v hEd 1
        · rw [za2 hy1.2, hEv]
      · have hEx : (E.length <= 1 \/ E.dropWhile (· == 48) = E) := by
          cases hh : (E.head? == some 48) with
          | false => exact .inr (zfw hh)
          | true => rw [hh] at hy; simp at hy; exact .inl (by omega)
        have hdl := xh E (· == 48)
        have hlen9 : E.length > 9 ↔ (x.exp.dropWhile (· == 48)).length > 9 := by
          rw [<- hEv]
          rcases hEx with hx | hx
          · omega
          · rw [hx]
        refine ⟨λhz => ?_, λhz => ?_⟩
        · rw [if_pos (hlen9.1 (by simp at hz; omega))] at h; exact h
        · have hE9 : E.length <= 9 := by simp at hz; omega
          rw [if_neg (λhh => by have := hlen9.2 hh; omega)] at h
          have hval : zj (x.exp.dropWhile (· == 48)) = zj E := by rw [<- hEv, zri]
          rw [hval] at h
          have hvb : zj E < 10 ^ 9 := Qf hE9 hEd
          refine ⟨λe i _ _ _ => ∃ k : Nat, i = k /\ k <= E.length /\ e = (zj (E.take k) : Int), λ_ i _ _ _ => E.length - i.toNat, ⟨0, rfl, by omega, by simp [zj]⟩, ?_⟩
          rintro e i b1 b2 b3 ⟨k, rfl, hk, rfl⟩
          refine ⟨λhc => ?_, λhc => ?_⟩
          · have hc' : k < E.length := by simpa using hc
            have hd := zs7 hEd hc'
            simp only [Ad, zdt hc']
            have hle := Qf (n := 9) (l := E.take k) (by simp; omega) (zm0 hEd k)
            rw [zyk (by omega) (by omega), yz hc' (by omega), w64 (n := 10 * _) (by omega), w64 (n := (_ : Int) - 48) (by omega), w64 (n := _ + _) (by omega)]
            refine ⟨by omega, ⟨k + 1, rfl, by omega, ?_⟩, by simp only [Ad]; omega⟩
            rw [wz hc']; omega
          · have hc' : ¬ k < E.length := by simpa using hc
            rw [AM (by omega)]
            apply z6f
            intro e7 he7
            refine ⟨by unfold Zm; omega, ?_⟩
            rw [ju]
            have hD : (x.whole ++ x.rest).all qu = true := by rw [CV, zdy d1, d2]; rfl
            have hev : e7 = if x.low then - (zj E : Int) else (zj E : Int) := by rw [he7]; cases x.low <;> simp; exact w64 (by omega)
            rw [<- hev] at h
            have hb : -1000000000 <= e7 /\ e7 <= 1000000000 := by rw [hev]; split <;> omega
            refine ⟨λd _ _ _ => ∃ D : Bs, d = bl D /\ D.dropWhile (· == 48) = (x.whole ++ x.rest).dropWhile (· == 48) /\ D.length <= 1000, λd _ _ _ => d.size, ⟨_, rfl, rfl, by rw [Av]; exact hx'⟩, ?_⟩
            rintro d b1 b2 b3 ⟨D, rfl, hDv, hDl⟩
            simp only [zv, yq, show (0 : Int).toNat = 0 from rfl, zyj (l := D) (c := 48) (n := 48) rfl]
            refine ⟨λhy => by simp at hy; omega, λhy => ?_, λhy => ?_⟩
            · have hp : 0 < D.length := by
                cases D with
                | nil => simp at hy
                | cons => simp
              rw [jg, z1x]
              exact ⟨by omega, ⟨D.tail, rfl, by rw [za2 hy, hDv], by rw [List.length_tail]; omega⟩, by rw [zv, List.length_tail]; omega⟩
            · have hDe := zfw hy
              rw [hDv] at hDe
              rw [show (⟨#[]⟩ : Bt) = bl [] from rfl]
              simp only [zds]
              rw [hDe] at h
              refine ⟨λhz => ?_, λhz => ?_⟩
              · rw [if_pos (by simpa using hz)] at h; exact h
              · have hne : D ≠ [] := by simpa using hz
                rw [if_neg hne] at h
                have hsh : jo (x.whole ++ x.rest) = stripR D := by unfold jo stripR; rw [hDe]
                have hsl : (stripR D).length <= D.length := by
                  have := (Q0 hD (by rw [hDe]; exact hne)).2.1
                  rw [hsh, hDe] at this; exact this
                have hsne : stripR D ≠ [] := by
                  have := (Q0 hD (by rw [hDe]; exact hne)).1
                  rw [hsh] at this
                  intro e; rw [e] at this; cases this
                rw [hsh] at h
                rw [w64 (n := e7 - _) (by omega)]
                refine ⟨λe d _ _ _ => ∃ D' : Bs, d = bl D' /\ D'.length <= 1000 /\ stripR D' = stripR D /\ e + D'.length = e7 - (x.rest.length : Int) + D.length, λ_ d _ _ _ => d.size, ⟨D, rfl, hDl, rfl, rfl⟩, ?_⟩
                rintro e d b1 b2 b3 ⟨D', rfl, hl', hs', he'⟩
                have hne' : D' ≠ [] := by
                  rintro rfl
                  rw [<- hs'] at hsne; exact hsne rfl
                have hp : 0 < D'.length := BB.2 hne'
                simp only [zv, yq]
                rw [zvh hp (by omega)]
                have hlast : D' = D'.take (D'.length - 1) ++ [D'[D'.length - 1]] := by
                  rw [<- An (by omega), show D'.length - 1 + 1 = D'.length by omega, AE]
                simp only [Ad, zdt (show D'.length - 1 < D'.length by omega)]
                refine ⟨by omega, λhq => ?_, λhq => ?_⟩
                · have hc48 : D'[D'.length - 1] = 48 := Cz.1 (by (have : (D'[D'.length - 1].toNat : Int) = 48 := by simpa using hq); (have : D'[D'.length - 1].toNat = 48 := by omega); rw [this]; rfl)
                  rw [w64 (n := e + 1) (by omega), jg]
                  refine ⟨by omega, ⟨D'.take (D'.length - 1), by simp, by simp; omega, ?_, by simp; omega⟩, by rw [zv]; simp; omega⟩
                  rw [<- hs']
                  conv => rhs; rw [hlast]
                  rw [zrj hc48]
                · have hc48 : ¬ D'[D'.length - 1] = 48 := λe => by rw [e] at hq; simp at hq
                  have hfin : D' = stripR D := by
                    rw [<- hs']
                    conv => rhs; rw [hlast]
                    rw [zyl hc48, <- hlast]
                  have hee : e = e7 - (x.rest.length : Int) + (D.length : Int) - ((stripR D).length : Int) := by rw [<- hfin]; omega
                  rw [hee, hfin]
                  refine ⟨λhw => ?_, λhw => ?_⟩
                  · rw [if_neg (by rw [Bh] at hw; simp at hw; omega)] at h; exact h
                  · rw [if_pos (by rw [Bh] at hw; simp at hw; omega)] at h; exact h
end
end Go.X
end
section
namespace Go.X
open Go Go.Lib
section
variable {a b b0 b1 b2 b3 b4 b5 b6 b7:Nat}
theorem zym(l:Bs)(a:Nat):l.foldl (λn c=>10*n+(c.toNat-48)) a=a*10 ^ l.length+zj l:=by
 induction l generalizing a with
 |nil=>simp[zj]
 |cons c t ih=>
  simp only[List.foldl_cons,AR,zj]
  rw[ih,ih (10*0+(c.toNat-48)),Nat.pow_succ]
  have:(10*a+(c.toNat-48))*10 ^ t.length=a*(10 ^ t.length*10)+(c.toNat-48)*10 ^ t.length:=by
   rw[Bz,CY 10 a,Nat.mul_assoc,CY 10 (10 ^ t.length)]
  rw[this];simp;omega
theorem Q1(a b:Bs):zj (a++b)=zj a*10 ^ b.length+zj b:=by
 rw[zj,List.foldl_append,zym];rfl
theorem zpg(n:Nat):zj (D7 n 48)=0:=by
 induction n with
 |zero=>rfl
 |succ n ih=>rw[List.replicate_succ];exact ih
theorem zph:∀(l:Bs) (acc:Nat),l.all qu=true->acc*10 ^ l.length+zj l<10 ^ 19->parseUintM (2 ^ 64-1) acc l=.ok (acc*10 ^ l.length+zj l)
 |[],acc,_,_=>by simp[parseUintM,zj]
 |c::t,acc,hd,hl=>by
  rw[CK,AI]at hd
  have hc:48<=c.toNat/\c.toNat<=57:=by simpa[qu]using hd.1
  have e:zj (c::t)=(c.toNat-48)*10 ^ t.length+zj t:=by
   have:=Q1 [c] t
   rw[DD]at this
   rw[this];simp[zj]
  have e2:(acc*10+(c.toNat-48))*10 ^ t.length+zj t=acc*10 ^ (c::t).length+zj (c::t):=by
   rw[e,AR,Nat.pow_succ,Bz,Nat.mul_assoc,CY 10 (10 ^ t.length)];omega
  have hp:1<=10 ^ t.length:=Nat.one_le_pow _ _ (by decide)
  have hb:acc*10+(c.toNat-48)<=acc*10 ^ (c::t).length+zj (c::t):=by
   rw[<-e2]
   calc acc*10+(c.toNat-48)=(acc*10+(c.toNat-48))*1:=by omega
    _<=(acc*10+(c.toNat-48))*10 ^ t.length:=Nat.mul_le_mul_left _ hp
    _<=_:=by omega
  rw[parseUintM,if_pos hc,if_neg (by omega),if_neg (by omega),zph t _ hd.2 (by rw[e2];exact hl),e2]
def xl(n:Nm):Bs:=n.2.1++D7 n.2.2.toNat 48
theorem zld(n:Nm):zj (xl n)=zj n.2.1*10 ^ n.2.2.toNat:=by
 rw[xl,Q1,zpg,List.length_replicate,CX]
theorem zrl{n:Nm}(h:yr n=true):n.2.1.all qu=true:=by
 unfold yr Wv at h
 rcases Cw _ _ ▸ h with h|h
 ·simp at h;rw[h.2.1];rfl
 ·simp only[AI]at h;exact zdy h.1.1.1.1.1
theorem zle{n:Nm}(h:yr n=true):(xl n).all qu=true:=by
 rw[xl,CV,zrl h,Bf,AU]
 intro x hx
 rw[List.mem_replicate]at hx
 rw[hx.2];rfl
theorem zyn{l:Bs}(neg:Bool)(hd:l.all qu=true)(hl:l.length<=19)(O:l≠[]):
  parseIntB 64 ((if neg then [45]else [])++l)=if neg then(if zj l<=9223372036854775808 then .ok (-(zj l:Int))else .range)else(if zj l<=9223372036854775807 then .ok (zj l:Int)else .range):=by
 have hv:zj l<10 ^ 19:=Qf hl hd
 have hp:=zph l 0 hd (by rw[Da];omega)
 rw[Da,AD]at hp
 cases neg with
 |true=>
  simp only[if_true,DD]
  unfold parseIntB
  simp only[show(45:UInt8).toNat=45 from rfl,or_true,if_true]
  unfold parseUintB
  rw[if_neg O,hp]
  simp only[not_true_eq_false,false_and,if_false,true_and]
  split
  ·rename_i h;rw[if_neg (by omega)]
  ·rename_i h;rw[if_pos (by omega)]
 |false=>
  simp only[A9,if_false,BL]
  obtain⟨c,t,rfl⟩:=Ca O
  have hc:48<=c.toNat/\c.toNat<=57:=by
   rw[CK,AI]at hd
   simpa[qu]using hd.1
  unfold parseIntB
  simp only
  rw[if_neg (by omega)]
  unfold parseUintB
  rw[if_neg (by simp),hp]
  have Z:¬c.toNat=45:=by omega
  simp only[Z,not_false_eq_true,true_and,false_and,if_false]
  split
  ·rename_i h;rw[if_neg (by omega)]
  ·rename_i h;rw[if_pos (by omega)]
theorem zyo(ha:a<18446744073709551616)(hb:b<18446744073709551616):Aa .u64 (((As (Ar .u64) (a:Int)) ||| (As (Ar .u64) (b:Int))).toNat:Int)=((a ||| b:Nat):Int):=by
 have O:Ar .u64=64:=rfl
 have e:((As (Ar .u64) (a:Int)) ||| (As (Ar .u64) (b:Int))).toNat=a ||| b:=by
  rw[BitVec.toNat_or,DT,DT,D5,D5,O,DY (by omega),DY (by omega)]
 rw[e]
 have Z:a ||| b<2 ^ 64:=DJ (by omega) (by omega)
 unfold Aa
 have e1:(2:Int) ^ Ar .u64=18446744073709551616:=by decide
 simp only[e1]
 have hs:DO .u64=false:=rfl
 simp only[hs,DR,A9,if_false]
 omega
theorem z6g(ha:a<18446744073709551616)(hb:b<18446744073709551616):Aa .u64 (((As (Ar .u64) (a:Int)) &&& (As (Ar .u64) (b:Int))).toNat:Int)=((a &&& b:Nat):Int):=by
 have O:Ar .u64=64:=rfl
 have e:((As (Ar .u64) (a:Int)) &&& (As (Ar .u64) (b:Int))).toNat=a &&& b:=by
  rw[BitVec.toNat_and,DT,DT,D5,D5,O,DY (by omega),DY (by omega)]
 rw[e]
 have Z:a &&& b<2 ^ 64:=Nat.and_lt_two_pow _ (by omega)
 unfold Aa
 have e1:(2:Int) ^ Ar .u64=18446744073709551616:=by decide
 simp only[e1]
 have hs:DO .u64=false:=rfl
 simp only[hs,DR,A9,if_false]
 omega
theorem z6h{n:Int}(h1:0<=n)(h2:n<18446744073709551616):Aa .u64 n=n:=by
 unfold Aa
 have e1:(2:Int) ^ Ar .u64=18446744073709551616:=by decide
 simp only[e1]
 have hs:DO .u64=false:=rfl
 simp only[hs,DR,A9,if_false]
 omega
theorem Xq{n:Nat}(h:n<256):n.testBit 7=false↔n<128:=by
 rw[Nat.testBit_eq_decide_div_mod_eq]
 simp;omega
def MASK:Nat:=9259542123273814144
theorem z1z:∀i,i<8->MASK.testBit (8*i+7)=true:=by decide
theorem z2a{w:Nat}(h:w &&& MASK=0):∀i,i<8->w.testBit (8*i+7)=false:=by
 intro i hi
 have:=congrArg (λx=>x.testBit (8*i+7)) h
 simp only[Nat.testBit_and,z1z i hi,CL,Nat.zero_testBit]at this
 exact this
def zyp(b0 b1 b2 b3 b4 b5 b6 b7:Nat):Nat:=((((((b0 ||| b1*2 ^ 8) ||| b2*2 ^ 16) ||| b3*2 ^ 24) ||| b4*2 ^ 32) ||| b5*2 ^ 40) ||| b6*2 ^ 48) ||| b7*2 ^ 56
theorem z9w(b k j:Nat):(b*2 ^ k).testBit j=(decide (k<=j)&&b.testBit (j-k)):=by
 rw[Nat.testBit_mul_two_pow]
theorem zvl{j:Nat}:(zyp b0 b1 b2 b3 b4 b5 b6 b7).testBit j=(b0.testBit j||(decide (8<=j)&&b1.testBit (j-8))||(decide (16<=j)&&b2.testBit (j-16))||(decide (24<=j)&&b3.testBit (j-24))||(decide (32<=j)&&b4.testBit (j-32))||(decide (40<=j)&&b5.testBit (j-40))||(decide (48<=j)&&b6.testBit (j-48))||(decide (56<=j)&&b7.testBit (j-56))):=by
 unfold zyp
 simp only[Nat.testBit_or,z9w]
theorem zrm(h:∀i,i<8->(zyp b0 b1 b2 b3 b4 b5 b6 b7).testBit (8*i+7)=false)(r0:b0<256)(r1:b1<256)(r2:b2<256)(r3:b3<256)(r4:b4<256)(r5:b5<256)(r6:b6<256)(r7:b7<256):
  b0<128/\b1<128/\b2<128/\b3<128/\b4<128/\b5<128/\b6<128/\b7<128:=by
 have h0:=h 0 (by decide);have h1:=h 1 (by decide);have h2:=h 2 (by decide);have h3:=h 3 (by decide)
 have h4:=h 4 (by decide);have h5:=h 5 (by decide);have h6:=h 6 (by decide);have h7:=h 7 (by decide)
 rw[zvl]at h0 h1 h2 h3 h4 h5 h6 h7
 simp only[B8,Bool.and_eq_false_iff]at h0 h1 h2 h3 h4 h5 h6 h7
 refine⟨(Xq r0).1 ?_,(Xq r1).1 ?_,(Xq r2).1 ?_,(Xq r3).1 ?_,(Xq r4).1 ?_,(Xq r5).1 ?_,(Xq r6).1 ?_,(Xq r7).1 ?_⟩
 ·exact h0.1.1.1.1.1.1.1
 ·rcases h1.1.1.1.1.1.1.2 with h|h
  ·simp at h
  ·simpa using h
 ·rcases h2.1.1.1.1.1.2 with h|h
  ·simp at h
  ·simpa using h
 ·rcases h3.1.1.1.1.2 with h|h
  ·simp at h
  ·simpa using h
 ·rcases h4.1.1.1.2 with h|h
  ·simp at h
  ·simpa using h
 ·rcases h5.1.1.2 with h|h
  ·simp at h
  ·simpa using h
 ·rcases h6.1.2 with h|h
  ·simp at h
  ·simpa using h
 ·rcases h7.2 with h|h
  ·simp at h
  ·simpa using h
theorem zfx{l:Bs}:∀{n:Nat},n<=l.length->(∀i (hi:i<l.length),i<n->l[i].toNat<128)->xe l=xe (l.drop n)
 |0,_,_=>by simp
 |n+1,hn,h=>by
  rw[zfx (n:=n) (by omega) (λi hi O=>h i hi (by omega))]
  rw[AC (show n<l.length by omega),zla (h n (by omega) (by omega))]
end
end Go.X
end
section
namespace Go.X
section
variable {gl:Fr} {l:Bs}
def bN(l:Bs)(i:Nat):Nat:=(l[i]?.getD 0).toNat
theorem Ju(l:Bs)(i:Nat):bN l i<256:=(l[i]?.getD 0).toNat_lt
theorem zs9(l:Bs)(i:Nat):zd (bl l) i=((bN l i:Nat):Int):=yq l i
def Qs(l:Bs):Nat:=zyp (bN l 0) (bN l 1) (bN l 2) (bN l 3) (bN l 4) (bN l 5) (bN l 6) (bN l 7)
theorem jl(l:Bs):Qs l<18446744073709551616:=by
 have h:=Ju l
 have o:∀a b:Nat,a<2 ^ 64->b<2 ^ 64->a ||| b<2 ^ 64:=λa b ha hb=>DJ ha hb
 show _<2 ^ 64
 unfold Qs zyp
 refine o _ _ (o _ _ (o _ _ (o _ _ (o _ _ (o _ _ (o _ _ ?_ ?_) ?_) ?_) ?_) ?_) ?_) ?_
 ·have:=h 0;omega
 ·have:=h 1;omega
 ·have:=h 2;omega
 ·have:=h 3;omega
 ·have:=h 4;omega
 ·have:=h 5;omega
 ·have:=h 6;omega
 ·have:=h 7;omega
theorem zb3(a k:Nat)(c:Int)(hc:c=((2 ^ k:Nat):Int)):(a:Int)*c=((a*2 ^ k:Nat):Int):=by rw[hc];omega
theorem zb4(hl:8<=l.length){R:Int->Prop}(h:R (Qs l:Int)):PC Tp gl 170 [Arg.mk .str (bl l)] [.int .u64] R:=by
 apply Yi
 refine⟨λhx=>(by cases hx),λ_=>?_⟩
 simp only[zv,zs9,show(0:Int).toNat=0 from rfl,show(1:Int).toNat=1 from rfl,show(2:Int).toNat=2 from rfl,show(3:Int).toNat=3 from rfl,show(4:Int).toNat=4 from rfl,show(5:Int).toNat=5 from rfl,show(6:Int).toNat=6 from rfl,show(7:Int).toNat=7 from rfl]
 refine⟨by omega,by omega,by omega,by omega,by omega,by omega,by omega,by omega,?_⟩
 have r:=Ju l
 have r0:=r 0;have r1:=r 1;have r2:=r 2;have r3:=r 3;have r4:=r 4;have r5:=r 5;have r6:=r 6;have r7:=r 7
 have m1:=zb3 (bN l 1) 8 (2 ^ 8) (by decide);have m2:=zb3 (bN l 2) 16 (2 ^ 16) (by decide);have m3:=zb3 (bN l 3) 24 (2 ^ 24) (by decide);have m4:=zb3 (bN l 4) 32 (2 ^ 32) (by decide)
 have m5:=zb3 (bN l 5) 40 (2 ^ 40) (by decide);have m6:=zb3 (bN l 6) 48 (2 ^ 48) (by decide);have m7:=zb3 (bN l 7) 56 (2 ^ 56) (by decide)
 have o:∀a b:Nat,a<18446744073709551616->b<18446744073709551616->a ||| b<18446744073709551616:=λa b ha hb=>DJ (n:=64) ha hb
 have w:∀n:Nat,n<18446744073709551616->Aa .u64 (n:Int)=(n:Int):=λn hn=>z6h (by omega) (by omega)
 rw[w (bN l 0) (by omega),w (bN l 1) (by omega),w (bN l 2) (by omega),w (bN l 3) (by omega),w (bN l 4) (by omega),w (bN l 5) (by omega),w (bN l 6) (by omega),w (bN l 7) (by omega),m1,m2,m3,m4,m5,m6,m7]
 rw[w (bN l 1*2 ^ 8) (by omega),w (bN l 2*2 ^ 16) (by omega),w (bN l 3*2 ^ 24) (by omega),w (bN l 4*2 ^ 32) (by omega),w (bN l 5*2 ^ 40) (by omega),w (bN l 6*2 ^ 48) (by omega),w (bN l 7*2 ^ 56) (by omega)]
 have q1:bN l 0 ||| bN l 1*2 ^ 8<18446744073709551616:=o _ _ (by omega) (by omega)
 have q2:=o _ (bN l 2*2 ^ 16) q1 (by omega)
 have q3:=o _ (bN l 3*2 ^ 24) q2 (by omega)
 have q4:=o _ (bN l 4*2 ^ 32) q3 (by omega)
 have q5:=o _ (bN l 5*2 ^ 40) q4 (by omega)
 have q6:=o _ (bN l 6*2 ^ 48) q5 (by omega)
 rw[zyo (by omega) (by omega),zyo q1 (by omega),zyo q2 (by omega),zyo q3 (by omega),zyo q4 (by omega),zyo q5 (by omega),zyo q6 (by omega)]
 exact h
theorem Z5(hl:8<=l.length)(h:Qs l &&& MASK=0):xe l=xe (l.drop 8):=by
 have hs:=zrm (z2a h) (Ju l 0) (Ju l 1) (Ju l 2) (Ju l 3) (Ju l 4) (Ju l 5) (Ju l 6) (Ju l 7)
 refine zfx hl λi hi Z=>?_
 have e:∀j (hj:j<l.length),bN l j=l[j].toNat:=λj hj=>by unfold bN;rw[zdt hj]
 obtain⟨s0,s1,s2,s3,s4,s5,s6,s7⟩:=hs
 have O:i=0\/i=1\/i=2\/i=3\/i=4\/i=5\/i=6\/i=7:=by omega
 rw[<-e i hi]
 rcases O with rfl|rfl|rfl|rfl|rfl|rfl|rfl|rfl <;> assumption
theorem zm1{a b:Nat}(h:(a ||| b) &&& MASK=0):a &&& MASK=0/\b &&& MASK=0:=by
 have key:∀x y:Nat,x ||| y=0->x=0:=by
  intro x y O
  apply Nat.eq_of_testBit_eq
  intro i
  have:=congrArg (λz=>z.testBit i) O
  simp only[Nat.testBit_or,Nat.zero_testBit,B8]at this
  rw[this.1,Nat.zero_testBit]
 have e:(a ||| b) &&& MASK=(a &&& MASK) ||| (b &&& MASK):=by
  apply Nat.eq_of_testBit_eq
  intro i
  simp only[Nat.testBit_and,Nat.testBit_or,Bool.and_or_distrib_right]
 rw[e]at h
 exact⟨key _ _ h,key _ _ (by rw[Nat.or_comm];exact h)⟩
theorem zv2{n:Int}{k:Nat}(hn:n=(k:Int)):(bl l).extract n.toNat ((l.length:Int)).toNat=bl (l.drop k):=by
 subst hn
 rw[Ad,Ad,jg,AM (by simp)]
theorem Tabs.first(h:Tabs gl){c:Nat}(hc:c<256):zhs gl 0 (0+c*1) (.int .u8 (Lib.firstT c)):=by
 obtain⟨⟨cs,a,b⟩,_⟩:=h
 exact⟨cs,a,by rw[AD,Cf];exact b c hc⟩
theorem Tabs.acc(h:Tabs gl){i:Nat}(hi:i<16):zhs gl 1 (0+i*2) (.int .u8 (Lib.accLo i))/\zhs gl 1 (0+i*2+1) (.int .u8 (Lib.accHi i)):=by
 obtain⟨_,cs,a,b⟩:=h
 exact⟨⟨cs,a,by rw[AD,CY];exact(b i hi).1⟩,⟨cs,a,by rw[AD,CY];exact(b i hi).2⟩⟩
end
section
variable {m:Bs} {n b0 b1 b2 b3 lo hi:Nat}
theorem zta(h:m≠[]):dec m=Lib.decodeN m.length (bN m 0) (bN m 1) (bN m 2) (bN m 3):=by
 simp only[dec,bN,Ct]
theorem ok0(h:m≠[])(hb:128<=bN m 0/\bN m 0<194\/245<=bN m 0/\bN m 0<256):xe m=false:=by
 rw[Qe h,zta h,qch hb];rfl
theorem ok2(h:m≠[])(hb:194<=bN m 0/\bN m 0<224):xe m=(decide (2<=m.length/\128<=bN m 1/\bN m 1<=191)&&xe (m.drop 2)):=by
 rw[Qe h,zta h,qbu hb (Ju m 1)]
 by_cases hc:2<=m.length/\128<=bN m 1/\bN m 1<=191
 ·rw[if_pos hc];simp[zn3,hc]
 ·rw[if_neg hc];simp[zn3,hc]
theorem ifc{α:Type}{p q:Prop}[Decidable p][Decidable q]{a b:α}(h:p↔q):(if p then a else b)=if q then a else b:=by
 by_cases hp:p
 ·rw[if_pos hp,if_pos (h.1 hp)]
 ·rw[if_neg hp,if_neg (λhq=>hp (h.2 hq))]
theorem qbz(h:224<=b0/\b0<240)(h1:b1<256)(h2:b2<256)(Z:lo=if b0=224 then 160 else 128)(O:hi=if b0=237 then 159 else 191):Lib.decodeN n b0 b1 b2 b3=
  if 3<=n/\(lo<=b1/\b1<=hi)/\128<=b2/\b2<=191 then(((b0-224)*64+(b1-128))*64+(b2-128),3)else(65533,1):=by
 rw[qbv h h1 h2]
 refine ifc ?_
 split at Z <;> split at O <;> omega
theorem qb0(h:240<=b0/\b0<245)(h1:b1<256)(h2:b2<256)(h3:b3<256)(Z:lo=if b0=240 then 144 else 128)(O:hi=if b0=244 then 143 else 191):Lib.decodeN n b0 b1 b2 b3=
  if 4<=n/\(lo<=b1/\b1<=hi)/\(128<=b2/\b2<=191)/\128<=b3/\b3<=191 then((((b0-240)*64+(b1-128))*64+(b2-128))*64+(b3-128),4)else(65533,1):=by
 rw[qbw h h1 h2 h3]
 refine ifc ?_
 split at Z <;> split at O <;> omega
theorem ok3(h:m≠[])(hb:224<=bN m 0/\bN m 0<240)(Z:lo=if bN m 0=224 then 160 else 128)(O:hi=if bN m 0=237 then 159 else 191):
  xe m=(decide (3<=m.length/\(lo<=bN m 1/\bN m 1<=hi)/\128<=bN m 2/\bN m 2<=191)&&xe (m.drop 3)):=by
 rw[Qe h,zta h,qbz hb (Ju m 1) (Ju m 2) Z O]
 by_cases hc:3<=m.length/\(lo<=bN m 1/\bN m 1<=hi)/\128<=bN m 2/\bN m 2<=191
 ·rw[if_pos hc];simp[zn3,hc]
 ·rw[if_neg hc];simp[zn3,hc]
theorem ok4(h:m≠[])(hb:240<=bN m 0/\bN m 0<245)(Z:lo=if bN m 0=240 then 144 else 128)(O:hi=if bN m 0=244 then 143 else 191):
  xe m=(decide (4<=m.length/\(lo<=bN m 1/\bN m 1<=hi)/\(128<=bN m 2/\bN m 2<=191)/\128<=bN m 3/\bN m 3<=191)&&xe (m.drop 4)):=by
 rw[Qe h,zta h,qb0 hb (Ju m 1) (Ju m 2) (Ju m 3) Z O]
 by_cases hc:4<=m.length/\(lo<=bN m 1/\bN m 1<=hi)/\(128<=bN m 2/\bN m 2<=191)/\128<=bN m 3/\bN m 3<=191
 ·rw[if_pos hc];simp[zn3,hc]
 ·rw[if_neg hc];simp[zn3,hc]
set_option maxHeartbeats 2000000 in
theorem zj3{gl:Fr}(hg:Tabs gl){l:Bs}(hl:l.length<=4611686018427387904){R:Bool->Prop}(h:R (xe l)):PC Tp gl 141 [Arg.mk .str (bl l)] [.bool] R:=by
 apply Yh
 refine⟨λs=>∃m:Bs,s=bl m/\xe m=xe l/\m.length<=l.length,λs=>s.size,⟨l,rfl,rfl,Ae _⟩,?_⟩
 rintro s ⟨m,rfl,hm,aB⟩
 simp only[zv,zs9,show(0:Int).toNat=0 from rfl,zv2 (l:=m) (n:=1) (k:=1) rfl,zv2 (l:=m) (n:=2) (k:=2) rfl,zv2 (l:=m) (n:=3) (k:=3) rfl,zv2 (l:=m) (n:=4) (k:=4) rfl]
 refine⟨λhc=>?_,λhc=>?_⟩
 rotate_left
 ·have:m=[]:=by
   have:¬(m.length:Int)>0:=by simpa using hc
   exact Az (by omega)
  subst this
  rw[zmo]at hm
  rw[<-hm]at h;exact h
 have hp:0<m.length:=by simp at hc;omega
 have O:m≠[]:=BB.1 hp
 refine⟨by omega,λha=>⟨by omega,?_⟩,λha=>?_⟩
 ·have hb:bN m 0<128:=by simp at ha;omega
  obtain⟨c,t,rfl⟩:=Ca O
  simp only[List.drop_one,List.tail_cons]
  have ar:xe t=xe l:=by rw[<-hm];exact(zla hb).symm
  simp only[AR]at aB ⊢
  simp only[zv2 (l:=t) (n:=8) (k:=8) rfl,zv]
  refine⟨λr=>r=(Qs t:Int),λhq=>zb4 (by simp at hq;omega) rfl,λr hr=>⟨λhx=>?_,λhx=>⟨⟨t,rfl,ar,by omega⟩,by omega⟩⟩⟩
  have h8:8<t.length:=by
   cases hd:decide ((t.length:Int)>8)with
   |true=>simp at hd;omega
   |false=>rw[hd]at hx;cases hx
  have am:decide ((t.length:Int)>8)=true:=by simp;omega
  have aF:=hr am
  rw[am,cond_true,aF,show(9259542123273814144:Int)=((MASK:Nat):Int)from rfl,z6g (jl t) (by decide)]at hx
  have hz:Qs t &&& MASK=0:=by
   have:((Qs t &&& MASK:Nat):Int)=0:=by simpa using hx
   omega
  have ax:xe (t.drop 8)=xe l:=by rw[<-ar,Z5 (by omega) hz]
  have aY:(t.drop 8).length+8=t.length:=by simp;omega
  generalize t.drop 8=u at *
  simp only[zv2 (l:=u) (n:=8) (k:=8) rfl,zv2 (l:=u) (n:=16) (k:=16) rfl]
  refine⟨by omega,λhq=>by simp at hq;omega,λr=>r=(Qs u:Int),λhq=>zb4 (by simp at hq;omega) rfl,λaO aj=>⟨λr=>r=(Qs (u.drop 8):Int),λhq=>zb4 (by simp at hq ⊢;omega) rfl,λaL au=>⟨λae=>?_,λae=>⟨⟨u,rfl,ax,by omega⟩,by omega⟩⟩⟩⟩
  have aS:16<u.length:=by
   cases hd:decide ((u.length:Int)>16)with
   |true=>simp at hd;omega
   |false=>rw[hd]at ae;cases ae
  have af:decide ((u.length:Int)>16)=true:=by simp;omega
  rw[af,cond_true,aj af,au af,zyo (jl _) (jl _),show(9259542123273814144:Int)=((MASK:Nat):Int)from rfl,z6g (DJ (n:=64) (jl _) (jl _)) (by decide)]at ae
  have aC:(Qs u ||| Qs (u.drop 8)) &&& MASK=0:=by
   have:(((Qs u ||| Qs (u.drop 8)) &&& MASK:Nat):Int)=0:=by simpa using ae
   omega
  obtain⟨z1,z2⟩:=zm1 aC
  have aD:xe (u.drop 16)=xe l:=by
   rw[<-ax,Z5 (by omega) z1,Z5 (l:=u.drop 8) (by simp;omega) z2,BS]
  refine⟨by omega,λs=>∃m':Bs,s=bl m'/\xe m'=xe l/\m'.length<(c::t).length,λs=>s.size,⟨u.drop 16,rfl,aD,by simp;omega⟩,?_⟩
  rintro s ⟨v,rfl,hv,aE⟩
  simp only[AR]at aE
  simp only[zv,zv2 (l:=v) (n:=8) (k:=8) rfl,zv2 (l:=v) (n:=16) (k:=16) rfl,zv2 (l:=v) (n:=24) (k:=24) rfl,zv2 (l:=v) (n:=32) (k:=32) rfl]
  refine⟨λhq=>by simp at hq;omega,λhq=>by simp at hq;omega,λhq=>by simp at hq;omega,λr=>r=(Qs v:Int),λhq=>zb4 (by simp at hq;omega) rfl,λaU ap=>⟨λr=>r=(Qs (v.drop 8):Int),λhq=>zb4 (by simp at hq ⊢;omega) rfl,λaT an=>
   ⟨λr=>r=(Qs (v.drop 16):Int),λhq=>zb4 (by simp at hq ⊢;omega) rfl,λaN ak=>⟨λr=>r=(Qs (v.drop 24):Int),λhq=>zb4 (by simp at hq ⊢;omega) rfl,λaJ al=>⟨λZ=>?_,λZ=>⟨⟨v,rfl,hv,by omega⟩,by omega⟩⟩⟩⟩⟩⟩
  have aP:32<v.length:=by
   cases hd:decide ((v.length:Int)>32)with
   |true=>simp at hd;omega
   |false=>rw[hd]at Z;cases Z
  have aa:decide ((v.length:Int)>32)=true:=by simp;omega
  have o2:∀a b:Nat,a<18446744073709551616->b<18446744073709551616->a ||| b<18446744073709551616:=λa b ha hb=>DJ (n:=64) ha hb
  rw[aa,cond_true,ap aa,an aa,ak aa,al aa,zyo (jl _) (jl _),zyo (jl _) (jl _),zyo (o2 _ _ (jl _) (jl _)) (o2 _ _ (jl _) (jl _)),show(9259542123273814144:Int)=((MASK:Nat):Int)from rfl,
   z6g (o2 _ _ (o2 _ _ (jl _) (jl _)) (o2 _ _ (jl _) (jl _))) (by decide)]at Z
  have az:((Qs v ||| Qs (v.drop 8)) ||| (Qs (v.drop 16) ||| Qs (v.drop 24))) &&& MASK=0:=by
   have:((((Qs v ||| Qs (v.drop 8)) ||| (Qs (v.drop 16) ||| Qs (v.drop 24))) &&& MASK:Nat):Int)=0:=by simpa using Z
   omega
  obtain⟨y1,y2⟩:=zm1 az
  obtain⟨x1,x2⟩:=zm1 y1
  obtain⟨x3,x4⟩:=zm1 y2
  refine⟨by omega,⟨v.drop 32,rfl,?_,by simp;omega⟩,by simp;omega⟩
  rw[<-hv,Z5 (by omega) x1,Z5 (l:=v.drop 8) (by simp;omega) x2,BS,Z5 (l:=v.drop (8+8)) (by simp;omega) x3,BS,Z5 (l:=v.drop (8+8+8)) (by simp;omega) x4,BS]
 ·have hb:128<=bN m 0:=by simp at ha;omega
  have aH:=Ju m 0
  have hX:=Lib.firstT_cases (bN m 0)
  have aM:=Ju m 1;have aV:=Ju m 2;have aQ:=Ju m 3
  refine⟨by omega,(Lib.firstT (bN m 0):Int),by simpa using hg.first aH,?_⟩
  obtain⟨i,lo,hi,k,e2,e3,e4,e5,e6,k1,k2,k3,k4,hk⟩:∃i lo hi k:Nat,((Lib.firstT (bN m 0):Int).fdiv (2 ^ 4))=(i:Int)/\i<16/\Lib.accLo i=lo/\Lib.accHi i=hi /\
    (Aa .i64 (Aa .u8 (((As (Ar .u8) (Lib.firstT (bN m 0):Int)) &&& (As (Ar .u8) 7)).toNat:Int)):Int)=(k:Int) /\
    (k=1->xe m=false)/\(k=2->xe m=(decide (2<=m.length/\lo<=bN m 1/\bN m 1<=hi)&&xe (m.drop 2))) /\
    (k=3->xe m=(decide (3<=m.length/\(lo<=bN m 1/\bN m 1<=hi)/\128<=bN m 2/\bN m 2<=191)&&xe (m.drop 3))) /\
    (k=4->xe m=(decide (4<=m.length/\(lo<=bN m 1/\bN m 1<=hi)/\(128<=bN m 2/\bN m 2<=191)/\128<=bN m 3/\bN m 3<=191)&&xe (m.drop 4)))/\(k=1\/k=2\/k=3\/k=4):=by
   have aG:∀v,Lib.firstT (bN m 0)=v->(v=241->(128<=bN m 0/\bN m 0<194)\/(245<=bN m 0/\bN m 0<256))/\(v=2->194<=bN m 0/\bN m 0<224)/\(v=19->bN m 0=224)/\(v=3->(225<=bN m 0/\bN m 0<240/\bN m 0≠237))/\(v=35->bN m 0=237)/\(v=52->bN m 0=240)/\(v=4->241<=bN m 0/\bN m 0<244)/\(v=68->bN m 0=244)/\v≠240:=by
    intro v hv
    unfold Lib.firstT at hv
    repeat' split at hv
    all_goals omega
   have cl:=aG _ rfl
   rcases hX with hX|hX|hX|hX|hX|hX|hX|hX|hX
   ·exact absurd hX cl.2.2.2.2.2.2.2.2
   ·exact⟨15,0,0,1,by rw[hX];decide,(by decide),rfl,rfl,by rw[hX];decide,(λ_=>ok0 O (cl.1 hX)),(λe=>by omega),(λe=>by omega),(λe=>by omega),(by omega)⟩
   ·exact⟨0,128,191,2,by rw[hX];decide,(by decide),rfl,rfl,by rw[hX];decide,(λe=>by omega),(λ_=>ok2 O (cl.2.1 hX)),(λe=>by omega),(λe=>by omega),(by omega)⟩
   ·have c:=cl.2.2.1 hX
    exact⟨1,160,191,3,by rw[hX];decide,(by decide),rfl,rfl,by rw[hX];decide,(λe=>by omega),(λe=>by omega),(λ_=>ok3 O (by omega) (by rw[if_pos c]) (by rw[if_neg (by omega)])),(λe=>by omega),(by omega)⟩
   ·have c:=cl.2.2.2.1 hX
    exact⟨0,128,191,3,by rw[hX];decide,(by decide),rfl,rfl,by rw[hX];decide,(λe=>by omega),(λe=>by omega),(λ_=>ok3 O (by omega) (by rw[if_neg (by omega)]) (by rw[if_neg (by omega)])),(λe=>by omega),(by omega)⟩
   ·have c:=cl.2.2.2.2.1 hX
    exact⟨2,128,159,3,by rw[hX];decide,(by decide),rfl,rfl,by rw[hX];decide,(λe=>by omega),(λe=>by omega),(λ_=>ok3 O (by omega) (by rw[if_neg (by omega)]) (by rw[if_pos c])),(λe=>by omega),(by omega)⟩
   ·have c:=cl.2.2.2.2.2.1 hX
    exact⟨3,144,191,4,by rw[hX];decide,(by decide),rfl,rfl,by rw[hX];decide,(λe=>by omega),(λe=>by omega),(λe=>by omega),(λ_=>ok4 O (by omega) (by rw[if_pos c]) (by rw[if_neg (by omega)])),(by omega)⟩
   ·have c:=cl.2.2.2.2.2.2.1 hX
    exact⟨0,128,191,4,by rw[hX];decide,(by decide),rfl,rfl,by rw[hX];decide,(λe=>by omega),(λe=>by omega),(λe=>by omega),(λ_=>ok4 O (by omega) (by rw[if_neg (by omega)]) (by rw[if_neg (by omega)])),(by omega)⟩
   ·have c:=cl.2.2.2.2.2.2.2.1 hX
    exact⟨4,128,143,4,by rw[hX];decide,(by decide),rfl,rfl,by rw[hX];decide,(λe=>by omega),(λe=>by omega),(λe=>by omega),(λ_=>ok4 O (by omega) (by rw[if_neg (by omega)]) (by rw[if_pos c])),(by omega)⟩
  generalize Lib.firstT (bN m 0)=x at *
  rw[e2,e6]
  have ac:=hg.acc e3
  rw[e4,e5]at ac
  simp only[show(1:Int).toNat=1 from rfl,show(2:Int).toNat=2 from rfl,show(3:Int).toNat=3 from rfl]
  have ah:xe m=false->R false:=λe=>by rw[<-hm,e]at h;exact h
  refine⟨by omega,(lo:Int),by simpa using ac.1,(hi:Int),by simpa using ac.2,?_,?_⟩
  ·intro hx
   have aI:k=2:=by simp at hx;omega
   have q:=k2 aI
   refine⟨λhy=>by simp at hy;omega,λhy=>by simp at hy;omega,λhy=>ah ?_,λhy=>?_⟩
   ·simp only[Bh,Cw,decide_eq_true_eq]at hy
    rw[q,decide_eq_false (by omega)];rfl
   ·simp only[Bh,B8,decide_eq_false_iff_not]at hy
    refine⟨by omega,⟨m.drop 2,rfl,?_,by simp;omega⟩,by simp;omega⟩
    rw[<-hm,q,decide_eq_true (by omega)];simp
  ·intro hx
   refine⟨λZ=>?_,λZ=>⟨λai=>?_,λai=>?_⟩⟩
   ·have aA:k=3:=by simp at Z;omega
    have q:=k3 aA
    refine⟨λhy=>by simp at hy;omega,λhy=>by simp at hy;omega,λhy=>by simp at hy;omega,λhy=>by simp at hy;omega,λhy=>ah ?_,λhy=>?_⟩
    ·simp only[Bh,Cw,decide_eq_true_eq]at hy
     rw[q,decide_eq_false (by omega)];rfl
    ·simp only[Bh,B8,decide_eq_false_iff_not]at hy
     refine⟨by omega,⟨m.drop 3,rfl,?_,by simp;omega⟩,by simp;omega⟩
     rw[<-hm,q,decide_eq_true (by omega)];simp
   ·have ay:k=4:=by simp at ai;omega
    have q:=k4 ay
    refine⟨λhy=>by simp at hy;omega,λhy=>by simp at hy;omega,λhy=>by simp at hy;omega,λhy=>by simp at hy;omega,λhy=>by simp at hy;omega,λhy=>by simp at hy;omega,λhy=>ah ?_,λhy=>?_⟩
    ·simp only[Bh,Cw,decide_eq_true_eq]at hy
     rw[q,decide_eq_false (by omega)];rfl
    ·simp only[Bh,B8,decide_eq_false_iff_not]at hy
     refine⟨by omega,⟨m.drop 4,rfl,?_,by simp;omega⟩,by simp;omega⟩
     rw[<-hm,q,decide_eq_true (by omega)];simp
   ·refine ah (k1 ?_)
    simp at hx Z ai;omega
end
end Go.X
end
section
namespace Go.X
open Go Go.Lib
section
variable {v:Tr} {l:List Tr} {k:Nat}
mutual
def tsz:Tr->Nat | .mk _ _ _ xs=>1+Qx xs
def Qx:List Tr->Nat | []=>0|x::l=>tsz x+Qx l
end
mutual
def tdp:Tr->Nat | .mk _ _ _ xs=>Wz xs+1
def Wz:List Tr->Nat | []=>0|x::l=>max (tdp x) (Wz l)
end
mutual
def Qk(p:Tr->Bool):Tr->Bool | .mk k s ks xs=>p (.mk k s ks xs)&&zvm p xs
def zvm(p:Tr->Bool):List Tr->Bool | []=>true|x::l=>Qk p x&&zvm p l
end
mutual
def txB(m:Nat):Tr->Prop | .mk _ s ks xs=>(s.size<=m/\ks.length<=m/\∀k∈ks,k.size<=m)/\z2b m xs
def z2b(m:Nat):List Tr->Prop | []=>True|x::l=>txB m x/\z2b m l
end
theorem jy(v:Tr):tsz v=1+Qx v.items:=by cases v;rw[tsz]
theorem zfy(v:Tr):tdp v=Wz v.items+1:=by cases v;rw[tdp]
theorem ziq(p:Tr->Bool)(v:Tr):Qk p v=(p v&&zvm p v.items):=by cases v;rw[Qk]
theorem Jv(m:Nat)(v:Tr):txB m v↔(v.text.size<=m/\v.keys.length<=m/\∀k∈v.keys,k.size<=m)/\z2b m v.items:=by cases v;rw[txB]
theorem zae{m:Nat}:∀{l:List Tr},z2b m l↔∀x∈l,txB m x
 |[]=>by simp[z2b]
 |x::l=>by rw[z2b,zae];simp
theorem Q2{m:Nat}{v x:Tr}(h:txB m v)(hx:x∈v.items):txB m x:=zae.1 ((Jv m v).1 h).2 x hx
theorem Xr(p:Tr->Bool):∀l:List Tr,zvm p l=l.all (Qk p)
 |[]=>rfl
 |x::l=>by rw[zvm,Xr p l];rfl
theorem w6:∀a b:List Tr,Qx (a++b)=Qx a+Qx b
 |[],b=>by simp[Qx]
 |x::l,b=>by rw[Be,Qx,Qx,w6 l b];omega
theorem zir:∀a b:List Tr,Wz (a++b)=max (Wz a) (Wz b)
 |[],b=>by simp[Wz]
 |x::l,b=>by rw[Be,Wz,Wz,zir l b];omega
theorem ztb{x:Tr}:∀{l:List Tr},x∈l->tsz x<=Qx l
 |y::l,h=>by
  rw[Qx]
  rcases Ag.1 h with rfl|h
  ·omega
  ·have:=ztb h;omega
theorem yh{v x:Tr}(h:x∈v.items):tsz x<tsz v:=by
 have:=ztb h
 rw[jy v];omega
theorem Zt:∀l:List Tr,l.length<=Qx l
 |[]=>by simp[Qx]
 |x::l=>by
  have:=Zt l
  rw[Qx,AR,jy];omega
theorem zb5(v:Tr):0<tsz v:=by rw[jy];omega
theorem zpi(hk:k<l.length):Qx (l.take (k+1))=Qx (l.take k)+tsz l[k]:=by
 rw[An hk,w6];simp[Qx]
theorem zpj(hk:k<l.length):Wz (l.take (k+1))=max (Wz (l.take k)) (tdp l[k]):=by
 rw[An hk,zir];simp[Wz]
mutual
theorem z9x:∀v:Tr,tdp v<=tsz v
 |.mk _ _ _ xs=>by rw[tdp,tsz];have:=zm2 xs;omega
theorem zm2:∀l:List Tr,Wz l<=Qx l
 |[]=>by simp[Wz]
 |x::l=>by rw[Wz,Qx];have:=z9x x;have:=zm2 l;omega
end
def jv(ks:List Bt):Bool:=ks.all (λk=>xe (lb k))&&decide ks.Nodup
def zpk(s:Bs):Nm×Bool:=((yb s).1,(yb s).2==0&&decide (Yl (yb s).1=s))
def ztc(s:Bs):Bool:=(zpk s).2&&(zvg (zpk s).1).2&&decide (0<=(zvg (zpk s).1).1)
def zw(v:Tr):Bool:=
 if v.kind=1 then lb v.text==[]&&v.keys.isEmpty&&v.items.isEmpty
 else if v.kind=2 then(lb v.text==[116,114,117,101]||lb v.text==[102,97,108,115,101])&&v.keys.isEmpty&&v.items.isEmpty
 else if v.kind=3 then(zpk (lb v.text)).2&&v.keys.isEmpty&&v.items.isEmpty
 else if v.kind=4 then xe (lb v.text)&&v.keys.isEmpty&&v.items.isEmpty
 else if v.kind=5 then lb v.text==[]&&v.keys.isEmpty
 else if v.kind=6 then jv v.keys&&decide (v.keys.length=v.items.length)&&lb v.text==[]
 else if v.kind=7 then ztc (lb v.text)&&v.keys.isEmpty&&v.items.isEmpty
 else false
def Zi(v:Tr):Bool:=decide (tsz v<=4096)&&decide (tdp v<=32)
def qm(v:Tr):Bool:=Zi v&&Qk zw v
def qy(v:Tr):Bool:=Zi v&&Qk (λx=>decide (x.kind≠7)&&zw x) v
structure Sm (v:Tr):Prop where
 sz:tsz v<=1000000000000
 tx:txB 1048576 v
theorem Sm.item{v x:Tr}(h:Sm v)(hx:x∈v.items):Sm x:=⟨by have:=yh hx;have:=h.sz;omega,Q2 h.tx hx⟩
theorem Sm.text(h:Sm v):(lb v.text).length<=1048576:=by rw[Js];exact((Jv _ v).1 h.tx).1.1
theorem Sm.key(h:Sm v){k:Bt}(hk:k∈v.keys):(lb k).length<=1048576:=by rw[Js];exact((Jv _ v).1 h.tx).1.2.2 k hk
theorem Sm.keys(h:Sm v):v.keys.length<=1048576:=((Jv _ v).1 h.tx).1.2.1
theorem Sm.items(h:Sm v):v.items.length<=1000000000000:=by have:=Zt v.items;have:=h.sz;rw[jy]at this;omega
end
end Go.X
end
section
namespace Go.X
section
variable {gl:Fr} {l:Bs} {R:Bool -> Prop}
theorem ztd(hg:Tabs gl)(hl:l.length<=4611686018427387904){R:Int×Bool->Prop}(h:∀k,R (k,xe l)):PC Tp gl 113 [Arg.mk .str (bl l)] [.int .i64,.bool] R:=by
 apply zjt
 refine zj3 hg hl ⟨λhx=>?_,λhx=>?_⟩
 ·have:=h ((bl l).size:Int);rw[hx]at this;exact this
 ·refine⟨λp=>p.1=bl l/\p.2<=l.length/\xe (l.drop p.2)=false,λp=>l.length-p.2,⟨rfl,by omega,by simpa using hx⟩,?_⟩
  rintro⟨_,p⟩ ⟨rfl,hp,h2⟩
  simp only at hp h2 ⊢
  rw[zpb,zs4]
  refine⟨λhc=>⟨hc,hc,λhq=>?_,λhq=>⟨?_,?_⟩⟩,λhc=>?_⟩
  ·have Z:p<l.length:=by simpa using hc
   have O:l.drop p≠[]:=λe=>by have:=congrArg Bm e;simp at this;omega
   have hb:zn3 (dec (l.drop p))=false:=by
    unfold zn3
    have:¬(dec (l.drop p)).1=65533:=λe=>by rw[e]at hq;simp at hq
    simp[this]
   rw[Qe O,hb]at h2
   simp only[A9,if_false,BS]at h2
   rw[zlb l p Z]
   have hw:=Yj (l.drop p);have aa:=zx3 O
   simp only[Bg]at aa
   exact⟨⟨trivial,by omega,h2⟩,by omega⟩
  ·have Z:p<l.length:=by simpa using hc
   rw[zv];omega
  ·have Z:p<l.length:=by simpa using hc
   have O:l.drop p≠[]:=λe=>by have:=congrArg Bm e;simp at this;omega
   rw[zv,zv2 (k:=p) rfl]
   refine zyg hg ?_
   have ae:(bl (l.drop p)).size≠0:=by rw[zv];simp;omega
   have hd:Lib.decodeGo (bl (l.drop p))=dec (l.drop p):=by
    unfold Lib.decodeGo
    rw[if_neg ae,zx2,Zk,AQ]
   rw[hd]
   refine⟨λac=>?_,λac=>?_⟩
   ·have:=h (p:Int)
    have hu:xe l=false:=hx
    rw[hu]at this;exact this
   ·have hb:zn3 (dec (l.drop p))=false:=by
     unfold zn3
     have:¬(dec (l.drop p)).2=1:=λe=>by rw[e]at ac;simp at ac
     simp[this]
    rw[Qe O,hb]at h2
    simp only[A9,if_false,BS]at h2
    rw[zlb l p Z]
    have hw:=Yj (l.drop p);have aa:=zx3 O
    simp only[Bg]at aa
    exact⟨⟨trivial,by omega,h2⟩,by omega⟩
  ·have:l.drop p=[]:=A6 (by(have:¬p<l.length:=by simpa using hc);omega)
   rw[this,zmo]at h2;cases h2
theorem z2c(hg:Tabs gl)(hl:l.length<=4611686018427387904)(h:R (xe l)):PC Tp gl 75 [Arg.mk .str (bl l)] [.bool] R:=by
 apply zf7
 exact ztd hg hl λk=>h
theorem zpl(hg:Tabs gl)(hl:l.length<=4611686018427387904)(h:R (xe l)):PC Tp gl 84 [Arg.mk .str (bl l)] [.bool] R:=by
 apply zjw
 exact ztd hg hl λk=>h
theorem zpm(hl:l.length<=4611686018427387904){R:Int×Bool->Prop}(h:∀k,R (k,xe l)):PC Tp gl 76 [Arg.mk .str (bl l)] [.int .i64,.bool] R:=
 zrb (by rw[zv];omega) λk=>by rw[Zk];exact h k
theorem z4b(hl:l.length<=4611686018427387904)(h:R (xe l)):PC Tp gl 139 [Arg.mk .str (bl l)] [.bool] R:=by
 apply ze0
 exact zpm hl λk=>h
structure GL (gl:Fr):Prop where
 tabs:Tabs gl
 pow:Pow gl
 max:z3z gl
 err:zre gl
theorem Qg(s:Bs)(hs:s.length<=1152921504606846976):(yb s).1.2.1.length<=4611686018427387904:=by
 unfold yb
 split
 ·simp
 ·rename_i x hx
  have h1:=ze6 hx
  split
  ·simp
  ·split
   ·simp
   ·simp only
    generalize (if x.low=true then-(zj (x.exp.dropWhile (· == 48)):Int)else zj (x.exp.dropWhile (· == 48)))=e
    split
    ·simp
    ·rename_i O
     have h2:(jo (x.whole++x.rest)).length<=(x.whole++x.rest).length:=by
      unfold jo
      rw[List.length_reverse]
      refine D6 (xh _ _) ?_
      rw[List.length_reverse]
      exact xh _ _
     rw[Av]at h2
     split
     ·show(jo (x.whole++x.rest)).length<=_;omega
     ·simp
theorem zb6(hg:GL gl){s:Bs}(hs:s.length<=1152921504606846976){R:(Bool×Bt×Int)×Bool->Prop}(h:R (nmB (zpk s).1,(zpk s).2)):PC Tp gl 83 [Arg.mk .str (bl s)] [tN,.bool] R:=by
 apply zf8
 refine zs8 hs ?_
 refine⟨λt=>t=bl (Yl (yb s).1),λ_=>zyi hg.pow (Qg s hs) rfl,λr hr=>?_⟩
 have e:(bif ((yb s).2==0)then(r.toList==(bl s).toList)else false)=(zpk s).2:=by
  unfold zpk
  cases hc:((yb s).2==0)with
  |false=>rfl
  |true=>
   rw[hr hc,cond_true,zds];rfl
 simp only at e ⊢
 rw[e];exact h
theorem zrn{s:Bs}(hs:s.length<=1152921504606846976){R:(Bool×Bt×Int)×Bool->Prop}(h:R (nmB (zpk s).1,(zpk s).2)):PC Tp gl 138 [Arg.mk .str (bl s)] [tN,.bool] R:=by
 apply Xk
 refine zrk hs ?_
 refine⟨λt=>t=bl (Yl (yb s).1),λ_=>zvk (Qg s hs) rfl,λr hr=>?_⟩
 have e:(bif ((yb s).2==0)then(r.toList==(bl s).toList)else false)=(zpk s).2:=by
  unfold zpk
  cases hc:((yb s).2==0)with
  |false=>rfl
  |true=>
   rw[hr hc,cond_true,zds];rfl
 simp only at e ⊢
 rw[e];exact h
theorem z6i(n:Nat):Lib.repeatL [48] n=D7 n 48:=by
 induction n with
 |zero=>rfl
 |succ n ih=>rw[Lib.repeatL,ih];rfl
theorem z9y(hg:GL gl){n:Nm}(hn:n.2.1.length<=4611686018427387904){R:Int×Bool->Prop}(h:R (zvg n)):PC Tp gl 119 [Arg.mk tN (nmB n)] [.int .i64,.bool] R:=by
 apply zmm
 refine zmz hn ?_
 unfold zvg at h
 cases hr:yr n with
 |false=>
  rw[hr]at h
  exact⟨λ_=>by simpa using h,λhx=>by simp at hx⟩
 |true=>
  obtain⟨hl,aj,al⟩:=Wm hr
  rw[hr]at h
  simp only[Bf]at h
  simp only[zv]
  rw[w64 (by omega)]
  refine⟨λhx=>?_,λhx=>?_⟩
  ·rw[if_neg]at h
   ·exact h
   ·simp at hx ⊢;omega
  ·have ak:0<=n.2.2/\(n.2.1.length:Int)+n.2.2<=19:=by simp at hx;omega
   rw[if_pos (by simp;omega)]at h
   rw[<-zld]at h
   obtain⟨e,hE⟩:∃e:Nat,n.2.2=(e:Int):=⟨n.2.2.toNat,by omega⟩
   show PC Tp gl 146 [Arg.mk .str (bl [48]),Arg.mk (.int .i64) n.2.2] [.str] _
   rw[hE]
   refine zyf (by omega) (by rw[zv];simp;omega) ?_
   rw[Zk,z6i,ju]
   have ae:n.2.1++D7 e 48=xl n:=by rw[xl,hE,Ad]
   have aa:(xl n).length<=19:=by rw[<-ae];simp;omega
   have ai:=zle hr
   rw[ae]
   refine⟨zio (a:=n.2.1) (by rw[List.length_replicate];omega),?_⟩
   rw[show(⟨#[]⟩:Bt)=bl []from rfl,show(⟨#[45]⟩:Bt)=bl [45]from rfl]
   simp only[ju]
   intro K hK
   have key:∀t:Bs,t=(if n.1 then [45]else [])++xl n->K (bl t):=by
    intro t ht
    refine hK _ ⟨λhz=>?_,λhz=>?_⟩
    ·have ah:t=[]:=by
      have:=zds t []
      rw[this]at hz;simpa using hz
     rw[ah]at ht
     have af:n.1=false:=by cases hb:n.1 <;> simp[hb]at ht;rfl
     have O:xl n=[]:=by simp[af]at ht;exact ht
     rw[af,O]at h
     exact h
    ·have ac:t≠[]:=by
      intro e;rw[e,zds]at hz;simp at hz
     refine zrf hg.err (by rw[zv,ht];split <;> simp <;> omega) ?_
     rw[Zk,ht]
     have O:xl n≠[]:=by
      intro e0
      cases hb:n.1 with
      |false=>rw[ht,hb,e0]at ac;exact ac rfl
      |true=>
       have hd:n.2.1=[]:=by rw[xl]at e0;exact(List.append_eq_nil_iff.1 e0).1
       have:=zii hr hd
       unfold Wv at this;rw[hb]at this;simp at this
     unfold zih
     rw[zyn n.1 ai aa O]
     cases hb:n.1 with
     |true=>
      rw[hb]at h
      simp only[if_true]at h ⊢
      by_cases hv:zj (xl n)<=9223372036854775808
      ·rw[if_pos (by omega)]at h
       rw[if_pos hv]
       exact⟨λhq=>(by cases hq),λ_=>h⟩
      ·rw[if_neg (by omega)]at h
       rw[if_neg hv]
       exact⟨λ_=>h,λhq=>(by cases hq)⟩
     |false=>
      rw[hb]at h
      simp only[A9,if_false]at h ⊢
      by_cases hv:zj (xl n)<=9223372036854775807
      ·rw[if_pos (by omega)]at h
       rw[if_pos hv]
       exact⟨λhq=>(by cases hq),λ_=>h⟩
      ·rw[if_neg (by omega)]at h
       rw[if_neg hv]
       exact⟨λ_=>h,λhq=>(by cases hq)⟩
   refine⟨λZ=>⟨zio (a:=[45]) (by simp;omega),?_⟩,λZ=>?_⟩
   ·exact key _ (by rw[if_pos (by simpa using Z)])
   ·exact key _ (by rw[if_neg (by simpa using Z)];rfl)
end
end Go.X
end
section
namespace Go.Proofs.YtbploiccompocaaGreatDoor
open Go Go.X Go.ChangeShapes Go.WideShapes Go.ChangeAt Go.RowKit Go.Lib
open Go.ChangeMaps (open_string shut_string)
set_option linter.unusedVariables false
section
variable {H:Type} {g:Nat} {t:TypeId} {held:Bool}
theorem Tryz.own:ownKnob AK.godebug=none:=by kernel_rfl
theorem Tryz.laidOut:laidOutB AK=true:=by kernel_rfl
theorem zm3{enc:TypeId×Value->H}{a:Assume}{C:Checked}{os:Os}{f:FuncId}{fn:Func}{s:ChangeSpec}{ai:List PathCond}{apart af aa aj:Bool}{X:World->Array Value->Prop}
  (hX:∀(w w':World) (args:Array Value),w.heap=w'.heap->X w args->X w' args)
  (own:ownKnob C.prog.godebug=none) (ae:os.Started) (ak:C.prog.inits.idxOf? f=none) (ax:C.prog.funcs[f]?=some fn)
  (ah:∃(w:World) (O:Tape) (i:Input),w.os=os/\(w.forCall O i).Shaped C.prog/\i.vars=[]/\Input.okWide C.prog (w.forCall O i) .any w.heap.size f i /\
   ((s.pre enc C.prog fn ai apart (w.forCall O i).memory i.args/\X (w.forCall O i).memory i.args)/\sizedMet enc C.prog fn (OpenSpec.ofChange s) apart (w.forCall O i).memory i.args)/\a.holds C.prog (lone (Frame.enter C.prog f i.args .normal) [] (w.forCall O i)))
  (ac:∀(W:World) (base:Nat) (args:Array Value) (ds gs:List (DataW H)) (Z:List MemPlace),
   (∀(j:Nat) t v,fn.params[j]?=some t->args[j]?=some v->Value.okWide C.prog W .any base t v) ->
   DataW.Whole enc C.prog fn.params.toList s.vars apart W args.toList ds gs Z ->
   (DataW.weightsEach C.prog (fn.params.toList++s.plain.varTypes C.prog) (ds++gs)).all (·<=reachBytes)=true ->
   X W args->W.ShapedOpen C.prog ->
   Calls C.prog f args W λe W'=>∃v,e=.returned v/\s.post enc C.prog fn apart af aa aj W args v W'):
  ReturnsInHanded a C os f .any (λw args=>(s.pre enc C.prog fn ai apart w args/\X w args)/\sizedMet enc C.prog fn (OpenSpec.ofChange s) apart w args) (s.post enc C.prog fn apart af aa aj):=by
 refine returnsInHanded_of_calls own ae ak ah ?_
 intro w O i _ az _ au an ap
 obtain⟨_,_,_,ay,al,_,_,_,_,am⟩:=au
 have e:ay=fn:=Aw (al.symm.trans ax)
 subst e
 obtain⟨⟨⟨ds,gs,Z,hw,hc⟩,hx⟩,hz⟩:=an
 have ar:=DataW.Whole.of_heap (w':=w.forCall O i) (by rfl) hw
 refine(ac (w.forCall O i) w.heap.size i.args ds gs Z am ar (hz.weights hw) (hX _ _ _ (by rfl) hx) az).mono λe W' ⟨v,he,hp⟩=>?_
 subst he
 exact ChangeSpec.post_blind hp
theorem z4c{P:Program}{W:World}{n:String}{k:IntKind}{zs:List Int}{t e:TypeId}{m:Nat}(hg:P.globalNamed n=some g)(ht:(P.globals[g]?).map (·.type)=some t)(hu:P.underlying t=some (.array m e))(he:P.underlying e=some (.int k))
  (aa:P.cellsOf e=1) (ac:P.cellsOf t=m) (h:VarReads P W n (tabData k zs)):∃cs:Array Value,Fz W g=some cs/\cs.toList=zs.map λz=>Ew k z:=by
 obtain⟨g',t',cs,fuel,p,Z,ae,O,hd⟩:=h
 obtain rfl:=Aw (hg.symm.trans Z)
 obtain rfl:=Aw (ht.symm.trans ae)
 exact⟨cs,Fz.var hg O,cells_of_tab hu he aa ac hd⟩
theorem z2d{W : World}(h : VarReads Tryz.prog W "unicode/utf8.first" Pinned.utf8First): ∃ cs : Array Value, Fz W 0 = some cs ∧ ∀ c, c < 256 → cs[c]? = some (.int .u8 (Lib.firstT c)) := by
 rw[Pinned.utf8First_eq]at h
 obtain⟨cs,h1,h2⟩:=z4c (g:=0) (t:=172) (e:=5) (m:=256) (by kernel_rfl) (by kernel_rfl) (by kernel_rfl) (by kernel_rfl) (by kernel_rfl) (by kernel_rfl) h
 refine⟨cs,h1,λc hc=>?_⟩
 rw[<-AN,h2]
 simp[firstTab,hc]
theorem zyq{W : World}(h : VarReads Tryz.prog W "unicode/utf8.acceptRanges" acceptData): ∃ cs : Array Value, Fz W 1 = some cs ∧ ∀ i, i < 16 → cs[2 * i]? = some (.int .u8 (Lib.accLo i)) ∧ cs[2 * i + 1]? = some (.int .u8 (Lib.accHi i)) := by
 obtain⟨g,t,cs,fuel,p,hg,hty,hvar,hd⟩:=h
 obtain rfl := Option.some.inj ((show Tryz.prog.globalNamed "unicode/utf8.acceptRanges" = some 1 by kernel_rfl).symm.trans hg)
 obtain rfl:=Aw ((show(AK.globals[1]?).map (·.type)=some 175 by kernel_rfl).symm.trans hty)
 refine⟨cs,Fz.var hg hvar,λi hi=>?_⟩
 obtain⟨fuel',d,q,hdi,he⟩:=array_elem (show AK.underlying 175=some (.array 16 174)by kernel_rfl) hd i hi
 simp only[B5,List.getElem?_range hi,Option.map_some,Ab]at hdi
 subst hdi
 have hc:AK.cellsOf 174=2:=by kernel_rfl
 have c5:AK.cellsOf 5=1:=by kernel_rfl
 have u5:AK.underlying 5=some (.int .u8):=by kernel_rfl
 rw[hc]at he
 have hcs:=ints_of_struct Tryz.underlying174 (λj f hj=>by
  match j,hj with
  |0,hj=>simp at hj;subst hj;exact⟨u5,rfl,c5⟩
  |1,hj=>simp at hj;subst hj;exact⟨u5,rfl,c5⟩
  |j+2,hj=>simp at hj) (by rw[hc];rfl) he
 have e0:=congrArg (·[0]?) hcs
 have e1:=congrArg (·[1]?) hcs
 simp only[AF,AH]at e0 e1
 constructor
 ·rw[<-AN]
  simpa[CY]using e0
 ·rw[<-AN]
  simpa[CY]using e1
theorem z9z{W : World}{d : DataW Unit}(hd : d = tabData .u64 Lib.pow10Tab)(h : VarReads Tryz.prog W "internal/strconv.uint64pow10" d): Pow (Fz W) := by
 subst hd
 obtain⟨cs,h1,h2⟩:=z4c (g:=3) (t:=213) (e:=189) (m:=20) (by kernel_rfl) (by kernel_rfl) (by kernel_rfl) (by kernel_rfl) (by kernel_rfl) (by kernel_rfl) h
 exact⟨_,cs,by kernel_rfl,h1,by rw[<-h2]⟩
theorem z4d{W:World}{n:String}{ms:Array (String×TypeId)}{nm:String}{d:DataW Unit}(hg:AK.globalNamed n=some g)(ht:(AK.globals[g]?).map (·.type)=some t)(hu:AK.underlying t=some (.interface ms))(h:VarReads AK W n (.iface nm d)):
  ∃(cs:Array Value) (e:Value),Fz W g=some cs/\cs[0]?=some e/\(e=.nilIface\/∃te pe,e=.iface te pe):=by
 obtain⟨g',t',cs,fuel,p,Z,aa,O,hd⟩:=h
 obtain rfl:=Aw (hg.symm.trans Z)
 obtain rfl:=Aw (ht.symm.trans aa)
 obtain⟨f1,u,v,ac,_,_⟩:=iface_of_trod hu hd
 exact⟨cs,.iface u v,Fz.var hg O,by rw[<-AN,ac];rfl,.inr ⟨u,v,rfl⟩⟩
theorem z90{W:World}(h:W.ShapedOpen AK):z3z (Fz W):=by
 obtain⟨m,hm⟩:=cell_of_shapedOpen_int (P:=AK) (g:=2) (t:=3) (zero:=#[.int .i64 0]) (k:=.i64) h (by decide +kernel) (by kernel_rfl) rfl (by kernel_rfl) (by kernel_rfl) (by kernel_rfl)
 obtain⟨b,o,c,e,h1,h2⟩:=Fz.cell hm
 cases e
 exact⟨c,m,h1,h2⟩
def zpn:List (String×DataW Unit):=Rows.patchPartsRow.laid
theorem qb1{W:World}(h:laidMetH AK zpn W)(hs:W.ShapedOpen AK):GL (Fz W):=by
 have hl:laidMet AK zpn W:=by
  rw[MakeChecks.laidMetH_plain _ _ _ (by kernel_rfl)]at h;exact h
 have hr:∀(i:Nat) (n:String) (d:DataW Unit),zpn[i]?=some (n,d)->VarReads AK W n d:=λi n d e=>Go.Lib.laidMet.reads hl (CM e)
 exact {
  tabs:=⟨z2d (hr 6 _ _ rfl),zyq (by
   have e:(Rows.laid_unicode_utf8_acceptRanges:DataW Unit)=acceptData:=by kernel_rfl
   rw[<-e];exact hr 3 _ _ rfl)⟩
  pow:=z9z (by kernel_rfl) (hr 2 _ _ rfl)
  max:=z90 hs
  err:=⟨z4d (g:=4) (t:=129) (by kernel_rfl) (by kernel_rfl) Dt (hr 5 _ _ rfl),z4d (g:=5) (t:=129) (by kernel_rfl) (by kernel_rfl) Dt (hr 4 _ _ rfl)⟩ }
noncomputable def qb2(os:Os):World:=World.laidAll AK os zpn
theorem zro(os:Os)(args:Array Value):((qb2 os).forCall (λ_ _=>0) ⟨#[],args,[]⟩).Shaped AK:=World.shaped_of_ZipB (by kernel_rfl) (by kernel_rfl)
theorem z2e(os:Os)(args:Array Value):laidMetH AK zpn ((qb2 os).forCall (λ_ _=>0) ⟨#[],args,[]⟩).memory:=by
 rw[MakeChecks.laidMetH_plain _ _ _ (by kernel_rfl)];exact laidMet_laidAll _ (by kernel_rfl) (by kernel_rfl)
theorem zyr{enc:TypeId×Value->H}{W:World}{sp:Nat->Bool}(fuel:Nat)(cs:List Value)(x:DataW H×List MemPlace)(h:DataW.trod enc AK W 0 sp held fuel 25 cs=some x)(hw:zh8 AK 25 x.1):∃t:Tr,Rd (Fz W) .tree t cs:=
 z5v (tk:=3) (ts:=9) (tss:=22) (tvs:=23) Tryz.underlying25 (by kernel_rfl) ⟨rfl,rfl,rfl,rfl,rfl,rfl,rfl,rfl⟩ (by kernel_rfl) (by kernel_rfl) (by kernel_rfl) (by kernel_rfl) (by kernel_rfl) (by kernel_rfl) (by kernel_rfl) (by kernel_rfl) (by decide +kernel) (by decide +kernel) fuel cs x h hw
theorem zys{enc:TypeId×Value->H}{W:World}{sp:Nat->Bool}{fuel:Nat}{cs:List Value}{x:DataW H×List MemPlace}(h:DataW.trod enc AK W 0 sp held fuel 22 cs=some x)(hw:zh8 AK 22 x.1):∃xs:List ByteArray,Rd (Fz W) (.row .str) xs cs:=
 zx0 Tryz.underlying22 Bw (by kernel_rfl) (by decide +kernel) h hw
theorem zte{ts:List TypeId}{ds:List (DataW H)}(h:(DataW.weightsEach AK ts ds).all (·<=reachBytes)=true){j:Nat}{d:DataW H}(ht:ts[j]?=some t)(hd:ds[j]?=some d):zh8 AK t d:=λn hn=>by
 have:=AU.1 h n (DataW.weights_mem_each ht hd n hn)
 simpa using this
end
end Go.Proofs.YtbploiccompocaaGreatDoor
end
section
namespace Go.X
open Go Go.Lib
section
mutual
def tks:Tr->Nat | .mk _ _ ks xs=>1+ks.length+zlf xs
def zlf:List Tr->Nat | []=>0|x::l=>tks x+zlf l
end
theorem z92(v:Tr):tks v=1+v.keys.length+zlf v.items:=by cases v;rw[tks]
theorem zis:∀a b:List Tr,zlf (a++b)=zlf a+zlf b
 |[],b=>by simp[zlf]
 |x::l,b=>by rw[Be,zlf,zlf,zis l b];omega
theorem zyt{l:List Tr}{k:Nat}(hk:k<l.length):zlf (l.take (k+1))=zlf (l.take k)+tks l[k]:=by
 rw[An hk,zis];simp[zlf]
mutual
theorem zyu:∀v:Tr,tsz v<=tks v
 |.mk k s ks xs=>by rw[tsz,tks];have:=zpo xs;omega
theorem zpo:∀l:List Tr,Qx l<=zlf l
 |[]=>by simp[Qx,zlf]
 |x::l=>by rw[Qx,zlf];have:=zyu x;have:=zpo l;omega
end
mutual
def txS:Tr->Prop | .mk _ s ks xs=>(s.size<=2048/\∀k∈ks,k.size<=1024)/\zjk xs
def zjk:List Tr->Prop | []=>True|x::l=>txS x/\zjk l
end
theorem z95(v:Tr):txS v↔(v.text.size<=2048/\∀k∈v.keys,k.size<=1024)/\zjk v.items:=by cases v;rw[txS]
theorem ztf:∀{l:List Tr},zjk l↔∀x∈l,txS x
 |[]=>by simp[zjk]
 |x::l=>by rw[zjk,ztf];simp
mutual
theorem z4e:∀(v:Tr),tks v<=1000000->txS v->txB 1048576 v
 |.mk k s ks xs,h,g=>by
  rw[tks]at h;rw[txS]at g;rw[txB]
  exact⟨⟨by omega,by omega,λk hk=>by have:=g.1.2 k hk;omega⟩,zyv xs (by omega) g.2⟩
theorem zyv:∀(l:List Tr),zlf l<=1000000->zjk l->z2b 1048576 l
 |[],_,_=>by rw[z2b];trivial
 |x::l,h,g=>by
  rw[zlf]at h;rw[zjk]at g;rw[z2b]
  exact⟨z4e x (by omega) g.1,zyv l (by omega) g.2⟩
end
theorem Sm.few{v:Tr}(h:tks v<=1000000)(g:txS v):Sm v:=⟨by have:=zyu v;omega,z4e v h g⟩
structure PS (l:List Bt):Prop where
 n:l.length<=200
 s:∀x∈l,(lb x).length<=1024
def qs(l:List Bt):Bool:=decide (l.length<=64)&&l.all λs=>xe (lb s)
def qa4(c:UInt8):Bs:=if c=126 then [126,48]else if c=47 then [126,49]else [c]
def esc(l:Bs):Bs:=l.flatMap qa4
def z2f(l:List Bs):Bs:=l.flatMap λs=>47::esc s
theorem z6j(l:Bs):(esc l).length<=2*l.length:=by
 induction l with
 |nil=>simp[esc]
 |cons c t ih=>
  rw[esc,List.flatMap_cons,Av]
  have:(qa4 c).length<=2:=by
   by_cases h:c=126
   ·simp[qa4,h]
   ·by_cases h2:c=47 <;> simp[qa4,h,h2]
  unfold esc at ih;rw[AR];omega
theorem zrp(a b:List Bs):z2f (a++b)=z2f a++z2f b:=by unfold z2f;rw[List.flatMap_append]
theorem z2g(x:Bs):z2f [x]=47::esc x:=by simp[z2f]
end
section
variable {α:Type}
structure IsCmp {α:Type} (c:α->α->Int):Prop where
 rng:∀a b,c a b=-1\/c a b=0\/c a b=1
 eq0:∀a b,c a b=0↔a=b
 swap:∀a b,c b a=-c a b
 tr:∀a b d,c a b<=0->c b d<=0->c a d<=0
def zgb{α:Type}(c:α->α->Int):List α->List α->Int
 |[],[]=>0
 |[],_::_=>-1
 |_::_,[]=>1
 |a::l,b::m=>if c a b=0 then zgb c l m else c a b
theorem zyw{c:α->α->Int}(H:IsCmp c):IsCmp (zgb c) where
 rng:=by
  intro a
  induction a with
  |nil=>intro b;cases b <;> simp[zgb]
  |cons x a ih=>
   intro b
   cases b with
   |nil=>simp[zgb]
   |cons y b=>
    rw[zgb]
    by_cases h:c x y=0
    ·rw[if_pos h];exact ih b
    ·rw[if_neg h];exact H.rng x y
 eq0:=by
  intro a
  induction a with
  |nil=>intro b;cases b <;> simp[zgb]
  |cons x a ih=>
   intro b
   cases b with
   |nil=>simp[zgb]
   |cons y b=>
    rw[zgb,Br,<-H.eq0 x y]
    by_cases h:c x y=0
    ·rw[if_pos h];simp[h,ih]
    ·rw[if_neg h];simp[h]
 swap:=by
  intro a
  induction a with
  |nil=>intro b;cases b <;> simp[zgb]
  |cons x a ih=>
   intro b
   cases b with
   |nil=>simp[zgb]
   |cons y b=>
    rw[zgb,zgb,H.swap x y]
    by_cases h:c x y=0
    ·rw[if_pos h,if_pos (by omega)];exact ih b
    ·rw[if_neg h,if_neg (by omega)]
 tr:=by
  intro a
  induction a with
  |nil=>intro b d h1 h2;cases d <;> simp[zgb]
  |cons x a ih=>
   intro b d h1 h2
   cases b with
   |nil=>simp[zgb]at h1
   |cons y b=>
    cases d with
    |nil=>simp[zgb]at h2
    |cons z d=>
     rw[zgb]at h1 h2 ⊢
     by_cases hxy:c x y=0
     ·have:=(H.eq0 x y).1 hxy
      subst this
      rw[if_pos hxy]at h1
      by_cases hyz:c x z=0
      ·rw[if_pos hyz]at h2 ⊢;exact ih b d h1 h2
      ·rw[if_neg hyz]at h2 ⊢;exact h2
     ·rw[if_neg hxy]at h1
      by_cases hyz:c y z=0
      ·have:=(H.eq0 y z).1 hyz
       subst this
       rw[if_neg hxy];exact h1
      ·rw[if_neg hyz]at h2
       have h3:=H.tr x y z h1 h2
       by_cases hxz:c x z=0
       ·have:=(H.eq0 x z).1 hxz
        subst this
        have:=H.swap x y
        omega
       ·rw[if_neg hxz];exact h3
theorem z2h{c:α->α->Int}(H:IsCmp c)(p x y:List α):zgb c (p++x) (p++y)=zgb c x y:=by
 induction p with
 |nil=>rfl
 |cons a p ih=>rw[Be,Be,zgb,if_pos ((H.eq0 a a).2 rfl),ih]
def z0r(a b:UInt8):Int:=if a.toNat<b.toNat then -1 else if a.toNat=b.toNat then 0 else 1
theorem cmpU_is:IsCmp z0r where
 rng:=λa b=>by
  unfold z0r
  by_cases h:a.toNat<b.toNat
  ·rw[if_pos h];simp
  ·rw[if_neg h]
   by_cases h2:a.toNat=b.toNat
   ·rw[if_pos h2];simp
   ·rw[if_neg h2];simp
 eq0:=λa b=>by
  unfold z0r
  rw[<-Cz]
  by_cases h:a.toNat<b.toNat
  ·rw[if_pos h];omega
  ·rw[if_neg h]
   by_cases h2:a.toNat=b.toNat
   ·rw[if_pos h2];omega
   ·rw[if_neg h2];omega
 swap:=λa b=>by
  unfold z0r
  by_cases h:a.toNat<b.toNat
  ·rw[if_neg (by omega),if_neg (by omega),if_pos h];rfl
  ·by_cases h2:b.toNat<a.toNat
   ·rw[if_pos h2,if_neg h,if_neg (by omega)]
   ·rw[if_neg h2,if_pos (by omega),if_neg h,if_pos (by omega)];rfl
 tr:=λa b d=>by
  unfold z0r
  intro h1 h2
  by_cases h:a.toNat<d.toNat
  ·rw[if_pos h];omega
  ·rw[if_neg h]
   by_cases h':a.toNat=d.toNat
   ·rw[if_pos h'];omega
   ·exfalso
    by_cases g:a.toNat<b.toNat
    ·rw[if_neg (show¬b.toNat<d.toNat by omega),if_neg (by omega)]at h2;omega
    ·rw[if_neg g]at h1
     by_cases g2:a.toNat=b.toNat
     ·rw[if_neg (show¬b.toNat<d.toNat by omega),if_neg (by omega)]at h2;omega
     ·rw[if_neg g2]at h1;omega
def zpp:Bs->Bs->Int:=zgb z0r
theorem cmpS_is:IsCmp zpp:=zyw cmpU_is
theorem ztg:∀a b:Bs,CZ a b=decide (zpp a b=-1)
 |[],[]=>by simp[CZ,zpp,zgb]
 |[],_::_=>by simp[CZ,zpp,zgb]
 |_::_,[]=>by simp[CZ,zpp,zgb]
 |a::l,b::m=>by
  have ih:=ztg l m
  unfold zpp at ih ⊢
  rw[zgb,CZ,ih]
  by_cases h:a<b
  ·have:z0r a b=-1:=by unfold z0r;rw[if_pos (UInt8.lt_iff_toNat_lt.1 h)]
   simp[h,this]
  ·by_cases h2:a=b
   ·subst h2
    simp[(cmpU_is.eq0 a a).2 rfl,h]
   ·have:z0r a b=1:=by unfold z0r;rw[if_neg (λe=>h (UInt8.lt_iff_toNat_lt.2 e)),if_neg (λe=>h2 (Cz.1 e))]
    simp[h,h2,this]
def cmpL:List Bs->List Bs->Int:=zgb zpp
theorem cmpL_is:IsCmp cmpL:=zyw cmpS_is
theorem z6k{a b:List Bs}{k:Nat}(h:a.take k=b.take k):cmpL a b=cmpL (a.drop k) (b.drop k):=by
 have:=z2h cmpS_is (a.take k) (a.drop k) (b.drop k)
 rw[Bp,h,Bp]at this
 exact this
end
section
variable {l:Bs}
def zrq(l:Bs):Prop:=∀c∈l,c.toNat<128
theorem Xs(cs:Bs):∀l:Bs,containsAny l cs=l.any λc=>cs.contains c
 |[]=>by simp[containsAny,indexAny]
 |c::l=>by
  have ih:=Xs cs l
  have Z:=indexAny_ge cs l
  rw[List.any_cons,<-ih]
  unfold containsAny
  rw[indexAny]
  by_cases hc:cs.contains c=true
  ·rw[if_pos hc,hc];simp
  ·have O:cs.contains c=false:=by simpa using hc
   rw[if_neg hc,O,DZ]
   by_cases h1:indexAny l cs=-1
   ·simp[h1]
   ·have hb:(indexAny l cs==-1)=false:=by rw[beq_eq_false_iff_ne];exact h1
    rw[hb,if_neg (by simp),AB,decide_eq_true_eq,decide_eq_true_eq];omega
theorem zyx:∀(l:Bs) (acc:Nat),l.all qu=true->acc*10 ^ l.length+zj l<10 ^ 18->parseUint10 acc l=.ok (acc*10 ^ l.length+zj l)
 |[],acc,_,_=>by simp[parseUint10,zj]
 |c::t,acc,hd,hl=>by
  rw[CK,AI]at hd
  have hc:48<=c.toNat/\c.toNat<=57:=by simpa[qu]using hd.1
  have e:zj (c::t)=(c.toNat-48)*10 ^ t.length+zj t:=by
   have:=Q1 [c] t
   rw[DD]at this
   rw[this];simp[zj]
  have e2:(acc*10+(c.toNat-48))*10 ^ t.length+zj t=acc*10 ^ (c::t).length+zj (c::t):=by
   rw[e,AR,Nat.pow_succ,Bz,Nat.mul_assoc,CY 10 (10 ^ t.length)];omega
  have hp:1<=10 ^ t.length:=Nat.one_le_pow _ _ (by decide)
  have hb:acc*10+(c.toNat-48)<=acc*10 ^ (c::t).length+zj (c::t):=by
   rw[<-e2]
   calc acc*10+(c.toNat-48)=(acc*10+(c.toNat-48))*1:=by omega
    _<=(acc*10+(c.toNat-48))*10 ^ t.length:=Nat.mul_le_mul_left _ hp
    _<=_:=by omega
  rw[parseUint10,if_pos hc,if_neg (by omega),if_neg (by omega),zyx t _ hd.2 (by rw[e2];exact hl),e2]
theorem zrr:∀(l:Bs) (acc:Nat),l.all qu=false->∀v,parseUint10 acc l≠.ok v
 |[],acc,h,v=>by simp at h
 |c::t,acc,h,v=>by
  rw[parseUint10]
  by_cases hc:48<=c.toNat/\c.toNat<=57
  ·have hd:qu c=true:=by simp[qu,hc]
   rw[CK,hd,Bf]at h
   rw[if_pos hc]
   by_cases h1:1844674407370955162<=acc
   ·rw[if_pos h1];simp
   ·rw[if_neg h1]
    by_cases h2:18446744073709551616<=acc*10+(c.toNat-48)
    ·rw[if_pos h2];simp
    ·rw[if_neg h2];exact zrr t _ h v
  ·rw[if_neg hc];simp
theorem z6l(hd:l.all qu=true)(Z:l≠[])(hl:l.length<=9):atoiAll l=.ok (zj l:Int):=by
 have hv:zj l<10 ^ 9:=Qf hl hd
 have hp:=zyx l 0 hd (by rw[Da];omega)
 rw[Da,AD]at hp
 obtain⟨c,t,rfl⟩:=Ca Z
 have hc:48<=c.toNat/\c.toNat<=57:=by
  rw[CK,AI]at hd
  simpa[qu]using hd.1
 unfold atoiAll
 simp only
 rw[if_neg (by omega)]
 unfold parseMag
 rw[if_neg (by simp),hp]
 have O:¬c.toNat=45:=by omega
 simp only[O,not_false_eq_true,true_and,false_and,if_false]
 rw[if_neg (by omega)]
theorem z6m(hd:l.all qu=false)(hh:∀c,l.head?=some c->c.toNat≠43/\c.toNat≠45)(v:Int):atoiAll l≠.ok v:=by
 cases l with
 |nil=>simp at hd
 |cons c t=>
  have hc:=hh c rfl
  unfold atoiAll
  simp only
  rw[if_neg (by omega)]
  unfold parseMag
  rw[if_neg (by simp)]
  have:=zrr (c::t) 0 hd
  cases hp:parseUint10 0 (c::t)with
  |ok u=>exact absurd hp (this u)
  |range=>simp
  |_=>simp
theorem z6n(h:¬zrq l)(v:Int):atoiAll l≠.ok v:=by
 have O:∀m:Bs,¬zrq m->∀u,parseMag m≠.ok u:=by
  intro m hm u
  unfold parseMag
  split
  ·simp
  ·apply zrr
   rw[DF]
   intro hd
   apply hm
   intro c hc
   rw[AU]at hd
   have:=hd c hc
   simp[qu]at this;omega
 cases l with
 |nil=>exact absurd (λc hc=>by cases hc) h
 |cons c t=>
  unfold atoiAll
  simp only
  have hm:¬zrq (if c.toNat=43\/c.toNat=45 then t else c::t):=by
   split
   ·rename_i hc
    intro ht
    apply h
    intro d hd
    rcases Ag.1 hd with rfl|hd
    ·omega
    ·exact ht d hd
   ·exact h
  have:=O _ hm
  cases hp:parseMag (if c.toNat=43\/c.toNat=45 then t else c::t)with
  |ok u=>exact absurd hp (this u)
  |range=>simp
  |_=>simp
def Ql(l:Bs):Int×Bool:=if l.length<1\/9<l.length\/(1<l.length/\l.head?=some 48)then(0,false)else if l.all qu then((zj l:Int),true)else(0,false)
theorem zaf(h:(Ql l).2=true):0<=(Ql l).1/\(Ql l).1<1000000000:=by
 unfold Ql at h ⊢
 split
 ·rename_i hc;rw[if_pos hc]at h;cases h
 ·rename_i hc
  rw[if_neg hc]at h
  split
  ·rename_i hd
   have:zj l<10 ^ 9:=Qf (by omega) hd
   simp only;omega
  ·rename_i hd;rw[if_neg hd]at h;cases h
end
section
variable {v:Tr} {k:Nat}
theorem zm4(x:Bt):∀(l:List Bt) (i:Nat),(idxFromS l x i=-1/\x∉l)\/∃k:Nat,idxFromS l x i=((i+k:Nat):Int)/\k<l.length/\l[k]?=some x
 |[],i=>.inl ⟨rfl,by simp⟩
 |z::l,i=>by
  unfold idxFromS
  by_cases h:z=x
  ·rw[if_pos h];exact .inr ⟨0,rfl,by simp,by simp[h]⟩
  ·rw[if_neg h]
   rcases zm4 x l (i+1)with⟨h1,h2⟩|⟨k,h1,h2,h3⟩
   ·exact .inl ⟨h1,by simp[h2];exact λe=>h e.symm⟩
   ·exact .inr ⟨k+1,by rw[h1];congr 1;omega,by simp;omega,by simpa using h3⟩
def qd(v:Tr)(s:Bt):Int:=if v.kind=6 then idxOfS v.keys s else if v.kind=5 then(if(Ql (lb s)).2=true/\(Ql (lb s)).1<v.items.length then(Ql (lb s)).1 else -1)else -1
theorem Y5(hv:zw v=true)(s:Bt):qd v s=-1\/∃k:Nat,qd v s=k/\k<v.items.length:=by
 unfold qd
 by_cases h6:v.kind=6
 ·rw[if_pos h6]
  have hl:v.keys.length=v.items.length:=by
   unfold zw at hv
   simp[h6]at hv
   exact hv.1.2
  rcases zm4 s v.keys 0 with⟨h1,_⟩|⟨k,h1,h2,_⟩
  ·exact .inl h1
  ·exact .inr ⟨k,by unfold idxOfS;rw[h1];simp,by omega⟩
 ·rw[if_neg h6]
  by_cases h5:v.kind=5
  ·rw[if_pos h5]
   by_cases hc:(Ql (lb s)).2=true/\(Ql (lb s)).1<v.items.length
   ·rw[if_pos hc]
    have:=zaf hc.1
    exact .inr ⟨(Ql (lb s)).1.toNat,by omega,by omega⟩
   ·rw[if_neg hc];exact .inl rfl
  ·rw[if_neg h5];exact .inl rfl
def yj:Tr->List Bt->List (Nat×Tr)
 |_,[]=>[]
 |v,s::p=>if 0<=qd v s then(match v.items[(qd v s).toNat]? with
  |some x=>((qd v s).toNat,x)::yj x p
  |none=>[])else []
def lastT(v:Tr)(l:List (Nat×Tr)):Tr:=(l.getLast?.map (·.2)).getD v
theorem zlg(v:Tr)(q:Nat×Tr)(l:List (Nat×Tr)):lastT v (q::l)=lastT q.2 l:=by
 unfold lastT
 cases l with
 |nil=>rfl
 |cons x l=>rw[List.getLast?_cons_cons];cases h:(x::l).getLast? with
  |none=>simp at h
  |some y=>rfl
theorem zlh:∀(v:Tr) (p:List Bt),(yj v p).length<=p.length
 |_,[]=>by simp[yj]
 |v,s::p=>by
  unfold yj
  split
  ·split
   ·rename_i x _
    have:=zlh x p
    simp;omega
   ·simp
  ·simp
theorem zit{s:Bt}{p:List Bt}(h:qd v s<0):yj v (s::p)=[]:=by
 unfold yj;rw[if_neg (by omega)]
theorem zag{s:Bt}{p:List Bt}(h:qd v s=k)(hk:k<v.items.length):yj v (s::p)=(k,v.items[k])::yj v.items[k] p:=by
 rw[yj,if_pos (by omega),h,Ad,Aj hk]
def qb(v:Tr)(p:List Bt):Option Tr:=if(yj v p).length=p.length then some (lastT v (yj v p))else none
theorem Zu(v:Tr):qb v []=some v:=rfl
theorem zah{s:Bt}{p:List Bt}(h:qd v s<0):qb v (s::p)=none:=by
 unfold qb;rw[zit h];simp
theorem xq{s:Bt}{p:List Bt}(h:qd v s=k)(hk:k<v.items.length):qb v (s::p)=qb v.items[k] p:=by
 unfold qb
 rw[zag h hk,zlg]
 simp
theorem yx{q:Tr->Bool}{v x:Tr}(h:Qk q v=true)(hx:x∈v.items):Qk q x=true:=by
 rw[ziq,AI,Xr,AU]at h
 exact h.2 x hx
theorem qz{q:Tr->Bool}(h:Qk q v=true):q v=true:=by
 rw[ziq,AI]at h;exact h.1
end
end Go.X
end
section
namespace Go.X
open Go Go.RowKit
section
variable {h h':zb} {bs:List Nat} {v:Tr} {M:Fr} {b o n:Nat} {cs:Array Value} {vs:List Value}
def OKeys(h:zb)(ks:List Bt)(bs:List Nat)(s:Sl):Prop:=
 s.len=ks.length/\ks.length<=140737488355328/\ks.length<=s.cap/\((ks=[]/\bs=[]/\s.cap=0)\/∃b cs,bs=[b]/\s.a=some ⟨b,0,none⟩/\Blk h b cs/\s.cap<=cs.size/\cut cs 0 ks.length=ks.map A5)
inductive OT (h:zb):Tr->List Nat->List Value->Prop where
 |mk {k:Int} {s:Bt} {ks:List Bt} {xs:List Tr} {sk si:Sl} {bk bb:List Nat} {b:Nat} {cs:Array Value} {bf:Nat->List Nat}
  (hk:OKeys h ks bk sk) (hn:si.len=xs.length/\xs.length<=140737488355328/\xs.length<=si.cap)
  (hz:(xs=[]/\bb=[]/\si.cap=0)\/(bb=[b]/\si.a=some ⟨b,0,none⟩/\Blk h b cs/\si.cap*4<=cs.size))
  (hi:∀i (hx:i<xs.length),OT h xs[i] (bf i) (cut cs (i*4) 4))
  (hd:(bk++(bb++(AZ xs.length).flatMap bf)).Nodup):
  OT h (.mk k s ks xs) (bk++(bb++(AZ xs.length).flatMap bf)) [.int .i64 k,.string s,slV sk,slV si]
theorem OKeys.frame{ks:List Bt}{s:Sl}(H:OKeys h ks bs s)(hf:∀b∈bs,h'[b]?=h[b]?):OKeys h' ks bs s:=by
 obtain⟨h1,h2,h3,h4⟩:=H
 refine⟨h1,h2,h3,h4.imp id ?_⟩
 rintro⟨b,cs,rfl,e1,e2,e3⟩
 exact⟨b,cs,rfl,e1,e2.keep (hf b (by simp)),e3⟩
theorem OT.frame{cells:List Value}(H:OT h v bs cells):(∀b∈bs,h'[b]?=h[b]?)->OT h' v bs cells:=by
 induction H with
 | @mk k s ks xs sk si bk bb b cs bf hk hn hz hi hd ih=>
  intro hf
  refine OT.mk (b:=b) (cs:=cs) (hk.frame λx hx=>hf x (by simp[hx])) hn (hz.imp id ?_) (λi hx=>ih i hx λx O=>hf x ?_) hd
  ·rintro⟨rfl,e1,e2,e3⟩
   exact⟨rfl,e1,e2.keep (hf b (by simp)),e3⟩
  ·simp only[Am,Bj,BO]
   exact .inr (.inr ⟨i,hx,O⟩)
theorem OT.nodup{cells:List Value}(H:OT h v bs cells):bs.Nodup:=by
 cases H with|mk _ _ _ _ hd=>exact hd
theorem OT.lt{cells:List Value}(H:OT h v bs cells):∀b∈bs,b<h.size:=by
 induction H with
 | @mk k s ks xs sk si bk bb b cs bf hk hn hz hi hd ih=>
  intro x hx
  simp only[Am,Bj,BO]at hx
  rcases hx with hx|hx|⟨i,h1,h2⟩
  ·obtain⟨_,_,_,h4⟩:=hk
   rcases h4 with⟨_,rfl,_⟩|⟨b',cs',rfl,_,e,_⟩
   ·cases hx
   ·simp at hx;subst hx;exact e.lt
  ·rcases hz with⟨_,rfl,_⟩|⟨rfl,_,e,_⟩
   ·cases hx
   ·simp at hx;subst hx;exact e.lt
  ·exact ih i h1 x h2
theorem OT.len{cells:List Value}(H:OT h v bs cells):cells.length=4:=by cases H;rfl
theorem OT.one{cells:List Value}(H:OT h v bs cells):∀c∈cells,c.oneCell'=true:=by
 cases H with
 |mk _ _ _ _ _=>
  intro c hc
  simp at hc
  rcases hc with rfl|rfl|rfl|rfl <;> simp[Value.oneCell',slV]
theorem OT.cells{h:zb}{v:Tr}{bs:List Nat}{cells:List Value}(H:OT h v bs cells):∃sk si:Sl,cells=[.int .i64 v.kind,.string v.text,slV sk,slV si]:=by
 cases H with|mk _ _ _ _ _=>exact⟨_,_,rfl⟩
theorem OT.rd{cells:List Value}(H:OT h v bs cells)(hM:∀b∈bs,∀cs,Blk h b cs->M b=some cs):TrRd M v cells:=by
 induction H with
 | @mk k s ks xs sk si bk bb b cs bf hk hn hz hi hd ih=>
  obtain⟨k1,k2,k3,k4⟩:=hk
  have Z:RowAt M (λs cs=>cs=[.string s]) 1 ks (slV sk):=by
   refine⟨sk.a,sk.cap,by rw[slV,k1],⟨k2,k3⟩,?_⟩
   rcases k4 with⟨h0,_⟩|⟨b',cs',rfl,e1,e2,_,e3⟩
   ·exact .inl h0
   ·refine .inr ⟨b',0,cs',e1,hM b' (by simp) cs' e2,λi hx=>?_⟩
    have:(cut cs' 0 ks.length)[i]?=some (A5 ks[i]):=by rw[e3,B5,Aj hx];rfl
    unfold cut at this ⊢
    rw[AF,if_pos hx,AQ]at this
    have O:=(Ax.1 this).1
    rw[AD,Cf,AC O,B4,Cr]
    rw[Aj O]at this
    rw[Aw this]
  have ac:slV si=.slice si.a xs.length si.cap:=by rw[slV,hn.1]
  rw[ac]
  refine TrRd.mk (b:=b) (o:=0) (cs:=cs) Z hn.2 (hz.imp (·.1) ?_) λi hx=>?_
  ·rintro⟨rfl,e1,e2,_⟩
   exact⟨e1,hM b (by simp) cs e2⟩
  ·rw[AD]
   exact ih i hx λx aa cs' e=>hM x (by
    simp only[Am,Bj,BO]
    exact .inr (.inr ⟨i,hx,aa⟩)) cs' e
def MxL(M:Fr)(h:zb)(bs:List Nat):Fr:=λi=>if i∈bs then(match h[i]? with
 |some (.cells cs _ _)=>some cs
 |_=>none)else M i
theorem MxL.ag{M:Fr}{h:zb}(ag:AgM M h)(bs:List Nat):AgM (MxL M h bs) h:=by
 intro b c e
 unfold MxL at e
 split at e
 ·split at e
  ·rename_i cs T m hb
   cases e;exact⟨T,m,hb⟩
  ·cases e
 ·exact ag b c e
theorem MxL.later{h0 h:zb}(ag:AgM M h0)(k:Keep h0.size h0 h)(hb:∀b∈bs,h0.size<=b):Later h0 M h (MxL M h bs) where
 keep:=k
 le:=λb c e=>by
  have:=ag.lt e
  unfold MxL;rw[if_neg (λhm=>by have:=hb b hm;omega)];exact e
 old:=λb hlt=>by unfold MxL;rw[if_neg (λhm=>by have:=hb b hm;omega)]
 ag:=MxL.ag (ag.keep k) bs
theorem MxL.at(hb:b∈bs)(e:Blk h b cs):MxL M h bs b=some cs:=by
 obtain⟨T,e⟩:=e
 unfold MxL;rw[if_pos hb,e]
theorem OT.rdv{cells:List Value}(H:OT h v bs cells):RdV (MxL M h bs) .tree v (.agg cells.toArray):=by
 unfold RdV
 simp only[zcl,if_true]
 exact⟨cells,rfl,H.rd λb hb cs e=>MxL.at hb e⟩
def upd(cs:Array Value)(o:Nat)(vs:List Value):Array Value:=(cs.toList.take o++vs++cs.toList.drop (o+vs.length)).toArray
theorem y0(h:o+vs.length<=cs.size):(upd cs o vs).size=cs.size:=by
 unfold upd;simp;omega
theorem jw(h:o+vs.length<=cs.size)(q:Nat):(upd cs o vs).toList[q]?=if q<o then cs.toList[q]? else if q<o+vs.length then vs[q-o]? else cs.toList[q]?:=by
 unfold upd
 exact Q7 (by simpa using h) q
theorem zu{o n i:Nat}:(cut cs o n)[i]?=if i<n then cs.toList[o+i]? else none:=by
 unfold cut
 rw[AF]
 split
 ·rw[AH]
 ·rfl
theorem ziu(h:o+vs.length<=cs.size):cut (upd cs o vs) o vs.length=vs:=by
 apply Bb
 intro i
 rw[zu]
 split
 ·rw[jw h,if_neg (by omega),if_pos (by omega)];congr 1;omega
 ·rw[Bu (by omega)]
theorem Jw{o p n:Nat}(h:o+vs.length<=cs.size)(O:p+n<=o\/o+vs.length<=p):cut (upd cs o vs) p n=cut cs p n:=by
 apply Bb
 intro i
 rw[zu,zu]
 split
 ·rw[jw h]
  split
  ·rfl
  ·rw[if_neg (by omega)]
 ·rfl
theorem xr{P:Program}{t:TypeId}(hi:ji P t=true)(H:Blk h b cs){v:Value}(hc:v.cells.toList=vs)(hs:je P t=vs.length)(hl:o+vs.length<=cs.size)(h1:∀u∈vs,u.oneCell'=true){K:zb->Prop}
  (hK:∀h':zb,Blk h' b (upd cs o vs)->h'.size=h.size->(∀j,j≠b->h'[j]?=h[j]?)->K h'):XRunU P (Al t (.pointer (some ⟨b,o,none⟩)) v) h K:=by
 intro B d
 obtain⟨T,e⟩:=H
 have O:v.cells.size=vs.length:=by rw[<-hc];simp
 obtain⟨h',r1,r2,r3,r4⟩:=zbi (P:=P) hi hs e O hl (by rw[hc];exact h1) B d
 refine⟨d,h',r1,hK h' ⟨T,?_⟩ r3 r4⟩
 rw[r2]
 unfold upd
 rw[hc]
theorem Blk.ofKeep(H:Blk h b cs)(k:Keep h.size h h'):Blk h' b cs:=H.keepN k H.lt
end
section
variable {n k rb:Nat} {h:zb}
def zrs(v:Tr)(k:Nat)(x:Tr):Tr:=.mk v.kind v.text v.keys (v.items.set k x)
theorem ziv{bf:Nat->List Nat}:((AZ n).flatMap bf).Nodup↔(∀i,i<n->(bf i).Nodup)/\∀i j,i<j->j<n->∀x∈bf i,∀y∈bf j,x≠y:=by
 unfold List.Nodup
 rw[List.pairwise_flatMap,List.pairwise_iff_getElem]
 constructor
 ·rintro⟨h1,h2⟩
  refine⟨λi hi=>h1 i (by simpa using hi),λi j O hj=>?_⟩
  have:=h2 i j (by simp;omega) (by simpa using hj) O
  simpa using this
 ·rintro⟨h1,h2⟩
  refine⟨λi hi=>h1 i (by simpa using hi),λi j hi hj O=>?_⟩
  simp at hi hj
  simpa using h2 i j O hj
theorem zth{cs:Array Value}{o n:Nat}(h:o+n<=cs.size):upd cs o (cut cs o n)=cs:=by
 have hl:(cut cs o n).length=n:=by unfold cut;simp;omega
 apply Dr
 apply Bb
 intro q
 rw[jw (by rw[hl];exact h)]
 split
 ·rfl
 ·split
  ·rw[zu,if_pos (by omega)];congr 1;omega
  ·rfl
theorem OT.put1{v:Tr}{bs:List Nat}{cells:List Value}(H:OT h v bs cells)(hk:k<v.items.length):
  ∃(b:Nat) (cs:Array Value) (si:Sl) (bx:List Nat),cells[3]?=some (slV si)/\si.a=some ⟨b,0,none⟩/\si.len=v.items.length/\Blk h b cs/\v.items.length*4<=cs.size/\b∈bs/\OT h v.items[k] bx (cut cs (k*4) 4)/\b∉bx/\(∀c∈bx,c∈bs) /\
   ∀(h':zb) (x':Tr) (cells':List Value) (b':List Nat),(∀c∈bs,c∉bx->c≠b->h'[c]?=h[c]?)->Blk h' b (upd cs (k*4) cells')->OT h' x' b' cells'->(∀c∈b',c∈bx\/c∉bs)->∃bn,OT h' (zrs v k x') bn cells/\∀c∈bn,c∈bs\/c∈b':=by
 cases H with
 | @mk kd s ks xs sk si bk bb b cs bf hkk hn hz hi hd=>
  have hk:k<xs.length:=hk
  rcases hz with⟨h0,_⟩|⟨rfl,e1,hb,an⟩
  ·rw[h0]at hk;simp at hk
  have aA:xs.length*4<=cs.size:=by have:=hn.2.2;omega
  rw[A0]at hd
  obtain⟨ay,ar,ai⟩:=hd
  rw[A0]at ar
  obtain⟨aF,aC,aE⟩:=ar
  have nf:=ziv.1 aC
  have ae:∀i,i<xs.length->b∉bf i:=λi hi hm=>aE b (by simp) b (Bj.2 ⟨i,by simpa using hi,hm⟩) rfl
  have af:∀i,i<xs.length->∀c∈bf i,c∈bk++([b]++(AZ xs.length).flatMap bf):=λi hi c hc=>by
   simp only[Am,Bj,BO]
   exact .inr (.inr ⟨i,hi,hc⟩)
  refine⟨b,cs,si,bf k,rfl,e1,hn.1,hb,aA,by simp,hi k hk,ae k hk,af k hk,λh' x' cells' b' hf aB ho ah=>?_⟩
  have aD:cells'.length=4:=ho.len
  have au:∀c∈b',∀i,i<xs.length->i≠k->c∉bf i:=λc hc i Z az hm=>by
   rcases ah c hc with hx|hx
   ·rcases Nat.lt_or_gt_of_ne az with aa|aa
    ·exact nf.2 i k aa hk c hm c hx rfl
    ·exact nf.2 k i aa Z c hx c hm rfl
   ·exact hx (af i Z c hm)
  have ap:b∉b':=λhm=>by
   rcases ah b hm with hx|hx
   ·exact ae k hk hx
   ·exact hx (by simp)
  have aj:∀c∈bk,c∉b':=λc hc hm=>by
   rcases ah c hm with hx|hx
   ·exact ai c hc c (by rw[Am];exact .inr (Bj.2 ⟨k,by simpa using hk,hx⟩)) rfl
   ·exact hx (by simp[hc])
  have al:∀c∈bk,c≠b:=λc hc e=>ai c hc b (by simp) e
  have am:∀c∈bk,∀i,i<xs.length->c∉bf i:=λc hc i Z hm=>ai c hc c (by rw[Am];exact .inr (Bj.2 ⟨i,by simpa using Z,hm⟩)) rfl
  have ac:(xs.set k x').length=xs.length:=by simp
  have hu:k*4+cells'.length<=cs.size:=by omega
  refine⟨bk++([b]++(AZ (xs.set k x').length).flatMap (λi=>if i=k then b' else bf i)),?_,λc hc=>?_⟩
  ·refine OT.mk (b:=b) (cs:=upd cs (k*4) cells') (hkk.frame λc hc=>hf c (by simp[hc]) (am c hc k hk) (al c hc)) (by rw[ac];exact hn) (.inr ⟨rfl,e1,aB,by rw[y0 hu];exact an⟩) (λi hx=>?_) ?_
   ·rw[ac]at hx
    by_cases O:i=k
    ·subst O
     rw[if_pos rfl]
     have:=ziu hu
     rw[aD]at this
     rw[this,List.getElem_set_self];exact ho
    ·rw[if_neg O,List.getElem_set_ne (by omega),Jw hu (by omega)]
     refine(hi i hx).frame λc hc=>hf c (af i hx c hc) (λhm=>?_) (λe=>ae i hx (e ▸ hc))
     rcases Nat.lt_or_gt_of_ne O with aa|aa
     ·exact nf.2 i k aa hk c hc c hm rfl
     ·exact nf.2 k i aa hx c hm c hc rfl
   ·rw[ac,A0]
    refine⟨ay,?_,λx hx y hy=>?_⟩
    ·rw[A0]
     refine⟨by simp,ziv.2 ⟨λi Z=>?_,λi j ax hj x hx y hy e=>?_⟩,λx hx y hy=>?_⟩
     ·by_cases O:i=k
      ·rw[if_pos O];exact ho.nodup
      ·rw[if_neg O];exact nf.1 i Z
     ·subst e
      by_cases O:i=k
      ·rw[if_pos O]at hx
       rw[if_neg (by omega)]at hy
       exact au x hx j hj (by omega) hy
      ·rw[if_neg O]at hx
       by_cases ak:j=k
       ·rw[if_pos ak]at hy
        exact au x hy i (by omega) O hx
       ·rw[if_neg ak]at hy
        exact nf.2 i j ax hj x hx x hy rfl
     ·simp at hx;subst hx
      obtain⟨i,Z,hy⟩:=Bj.1 hy
      simp at Z
      intro e;subst e
      by_cases O:i=k
      ·rw[if_pos O]at hy;exact ap hy
      ·rw[if_neg O]at hy;exact ae i Z hy
    ·intro e;subst e
     rw[Am]at hy
     rcases hy with hy|hy
     ·simp at hy;exact al x hx hy
     ·obtain⟨i,Z,hy⟩:=Bj.1 hy
      simp at Z
      by_cases O:i=k
      ·rw[if_pos O]at hy;exact aj x hx hy
      ·rw[if_neg O]at hy;exact am x hx i Z hy
  ·rw[ac,Am,Am]at hc
   rcases hc with hc|hc|hc
   ·exact .inl (by simp[hc])
   ·exact .inl (by simp at hc;simp[hc])
   ·obtain⟨i,Z,hc⟩:=Bj.1 hc
    simp at Z
    by_cases O:i=k
    ·rw[if_pos O]at hc;exact .inr hc
    ·rw[if_neg O]at hc;exact .inl (af i Z c hc)
def Foc(h:zb)(base rb:Nat)(p:Addr)(x:Tr)(T:Tr->Tr):Prop:=
 ∃(b o:Nat) (cs:Array Value) (bx:List Nat),p=⟨b,o,none⟩/\Blk h b cs/\o+4<=cs.size/\OT h x bx (cut cs o 4)/\b∉bx/\base<=b/\(∀c∈bx,base<=c) /\
  ∀(h':zb) (x':Tr) (cells':List Value) (b':List Nat),(∀c,c≠b->c∉bx->c<h.size->h'[c]?=h[c]?)->Blk h' b (upd cs o cells')->OT h' x' b' cells'->(∀c∈b',c∈bx\/h.size<=c) ->
   ∃cs' O,Blk h' rb cs'/\cs'.size=4/\OT h' (T x') O cs'.toList/\∀c∈O,base<=c/\c≠rb
theorem Foc.step{base rb:Nat}{p:Addr}{x:Tr}{T:Tr->Tr}(H:Foc h base rb p x T)(hk:k<x.items.length):
  ∃(si:Sl) (a:Addr),zm h (p.add 3)=some (slV si)/\si.a=some a/\si.len=x.items.length/\Foc h base rb (a.add (k*4)) x.items[k] (λy=>T (zrs x k y)):=by
 obtain⟨b,o,cs,bx,rfl,hb,ho,ot,ah,ap,Z,aa⟩:=H
 obtain⟨b2,aB,si,am,e3,ea,el,al,aC,ac,an,au,O,ai⟩:=ot.put1 hk
 refine⟨si,⟨b2,0,none⟩,?_,ea,el,b2,k*4,aB,am,by rw[zo,AD],al,by omega,an,au,Z b2 ac,λc hc=>Z c (O c hc),λh' x' cells' b' hf ay ak af=>?_⟩
 ·rw[zo]
  refine hb.cell ?_
  rw[zu,if_pos (by omega)]at e3
  rw[<-AN];exact e3
 ·have ax:b≠b2:=λe=>ah (e ▸ ac)
  obtain⟨bn,ar,ae⟩:=ai h' x' cells' b' (λc hc aA az=>hf c az aA (ot.lt c hc)) ay ak (λc hc=>(af c hc).imp id λhx hm=>by have:=ot.lt c hm;omega)
  refine aa h' (zrs x k x') (cut cs o 4) bn (λc hc aj aa=>hf c (λe=>aj (e ▸ ac)) (λhm=>aj (O c hm)) aa) ?_ ar λc hc=>?_
  ·rw[zth ho]
   exact hb.keep (hf b ax (λhm=>ah (O b hm)) hb.lt)
  ·rcases ae c hc with hx|hx
   ·exact .inl hx
   ·rcases af c hx with hy|hy
    ·exact .inl (O c hy)
    ·exact .inr hy
theorem Foc.put{base rb:Nat}{p:Addr}{x:Tr}{T:Tr->Tr}(H:Foc h base rb p x T){h1:zb}(k:Keep h.size h h1){w:Tr}{bw:List Nat}{cw:List Value}(ow:OT h1 w bw cw)(aa:∀c∈bw,h.size<=c):
  ∃(b o:Nat) (cs:Array Value),p=⟨b,o,none⟩/\base<=b/\b<h.size/\Blk h1 b cs/\o+4<=cs.size/\∀h2:zb,Blk h2 b (upd cs o cw)->h2.size=h1.size->(∀j,j≠b->h2[j]?=h1[j]?) ->
   ∃cs' ae,Blk h2 rb cs'/\cs'.size=4/\OT h2 (T w) ae cs'.toList/\∀c∈ae,base<=c/\c≠rb:=by
 obtain⟨b,o,cs,bx,rfl,hb,ho,ot,ak,Z,ai,O⟩:=H
 have ah:=hb.lt
 refine⟨b,o,cs,rfl,Z,ah,hb.ofKeep k,ho,λh2 af aj ac=>?_⟩
 refine O h2 w cw bw (λc hc _ O=>(ac c hc).trans (k.get c O)) af (ow.frame λc hc=>ac c (λe=>by have:=aa c hc;omega)) λc hc=>.inr (aa c hc)
theorem Foc.keep{h h':zb}{base rb:Nat}{p:Addr}{x:Tr}{T:Tr->Tr}(H:Foc h base rb p x T)(k:Keep h.size h h'):Foc h' base rb p x T:=by
 obtain⟨b,o,cs,bx,rfl,hb,ho,ot,aj,O,Z,af⟩:=H
 have hz:=k.size
 refine⟨b,o,cs,bx,rfl,hb.ofKeep k,ho,ot.frame λc hc=>k.get c (ot.lt c hc),aj,O,Z,λh2 x' cells' b' hf aa ac ah=>af h2 x' cells' b' (λc hc ae ai=>(hf c hc ae (by omega)).trans (k.get c ai)) aa ac λc hc=>(ah c hc).imp id λhx=>by omega⟩
end
end Go.X
end
section
namespace Go.X
open Go Go.Lib
section
variable {v w:Tr}
def Qh:Tr->List Bt->Tr->Tr
 |_,[],w=>w
 |v,s::p,w=>if 0<=qd v s then(match v.items[(qd v s).toNat]? with
  |some x=>zrs v (qd v s).toNat (Qh x p w)
  |none=>v)else v
theorem zgu{s:Bt}{p:List Bt}{k:Nat}(h:qd v s=k)(hk:k<v.items.length):Qh v (s::p) w=zrs v k (Qh v.items[k] p w):=by
 rw[Qh,if_pos (by omega),h,Ad,Aj hk]
theorem Yn{s:Bt}{p:List Bt}(h:(yj v (s::p)).length=(s::p).length):∃(k:Nat) (hk:k<v.items.length),qd v s=k/\yj v (s::p)=(k,v.items[k])::yj v.items[k] p/\(yj v.items[k] p).length=p.length:=by
 unfold yj at h
 split at h
 ·rename_i h0
  split at h
  ·rename_i x hx
   obtain⟨hk,e⟩:=Ax.1 hx
   refine⟨(qd v s).toNat,hk,by omega,zag (by omega) hk,?_⟩
   rw[e];simpa using h
  ·simp at h
 ·simp at h
theorem zgv:∀(l:List Tr) (k:Nat) (h:k<l.length) (y:Tr),Qx (l.set k y)+tsz l[k]=Qx l+tsz y
 |x::l,0,_,y=>by simp[Qx];omega
 |x::l,k+1,h,y=>by
  have:=zgv l k (by simpa using h) y
  simp[Qx];omega
theorem zyy(w:Tr):∀(p:List Bt) (v:Tr),tsz (Qh v p w)<=tsz v+tsz w
 |[],v=>by rw[Qh];omega
 |s::p,v=>by
  rw[Qh]
  split
  ·split
   ·rename_i x hx
    obtain⟨hk,e⟩:=Ax.1 hx
    have h1:=zyy w p x
    have h2:=zgv v.items _ hk (Qh x p w)
    rw[e]at h2
    rw[jy,jy v]
    show 1+Qx (v.items.set _ _)<=_
    omega
   ·omega
  ·omega
theorem ze8{m:Nat}{w:Tr}(hw:txB m w):∀(p:List Bt) (v:Tr),txB m v->txB m (Qh v p w)
 |[],v,_=>by rw[Qh];exact hw
 |s::p,v,hv=>by
  rw[Qh]
  split
  ·split
   ·rename_i x hx
    obtain⟨hk,e⟩:=Ax.1 hx
    have hm:x∈v.items:=e ▸ Ao hk
    have h1:=ze8 hw p x (Q2 hv hm)
    have h2:=(Jv m v).1 hv
    refine(Jv m _).2 ⟨h2.1,zae.2 λy hy=>?_⟩
    rcases C9 hy with hy|rfl
    ·exact zae.1 h2.2 y hy
    ·exact h1
   ·exact hv
  ·exact hv
theorem Y6(h:qm v=true):tsz v<=4096:=by
 unfold qm Zi at h
 simp at h
 omega
theorem z6o(hv:Sm v)(hw:Sm w)(h1:tsz v+tsz w<=1000000000000)(p:List Bt):Sm (Qh v p w):=⟨by have:=zyy w p v;omega,ze8 hw.tx p v hv.tx⟩
def zT:Tr:=.mk 0 ⟨#[]⟩ [] []
def Jx(v:Tr)(p:List Bt):Tr×Bool:=if qm v&&qs p then(match qb v p with
 |some x=>(x,true)
 |none=>(zT,false))else(zT,false)
end
end Go.X
end
section
namespace Go.X
section
variable {gl:Fr} {R:Bool -> Prop}
theorem zm5{D:Bs}(k:Nat):zj (D.take k)<=zj D:=by
 conv=>rhs;rw[<-Bp k D,Q1]
 have:1<=10 ^ (D.drop k).length:=Nat.one_le_pow _ _ (by decide)
 calc zj (D.take k)=zj (D.take k)*1:=by omega
  _<=zj (D.take k)*10 ^ (D.drop k).length:=Nat.mul_le_mul_left _ this
  _<=_:=by omega
set_option maxHeartbeats 1000000 in
theorem zyz{n:Nm}(hn:n.2.1.length<=4611686018427387904){R:Int×Bool->Prop}(h:R (zvg n)):PC Tp gl 140 [Arg.mk tN (nmB n)] [.int .i64,.bool] R:=by
 apply ze1
 refine zil hn ?_
 unfold zvg at h
 cases hr:yr n with
 |false=>
  rw[hr]at h
  exact⟨λ_=>by simpa using h,λhx=>by simp at hx⟩
 |true=>
  obtain⟨hl,am,au⟩:=Wm hr
  rw[hr]at h
  simp only[Bf]at h
  simp only[zv,yq]
  rw[w64 (by omega)]
  refine⟨λhx=>?_,λhx=>?_⟩
  ·rw[if_neg]at h
   ·exact h
   ·simp at hx ⊢;omega
  ·have ar:0<=n.2.2/\(n.2.1.length:Int)+n.2.2<=19:=by simp at hx;omega
   rw[if_pos (by simp;omega)]at h
   rw[<-zld]at h
   have aj:=zle hr
   have ai:((xl n).length:Int)=(n.2.1.length:Int)+n.2.2:=by rw[xl,Av,List.length_replicate];omega
   rw[<-ai]
   have ak:∀k (hk:k<(xl n).length),k<n.2.1.length->n.2.1[k]?.getD 0=(xl n)[k]:=by
    intro k hk ac
    rw[zdt ac];simp only[xl];rw[CG ac]
   have ah:∀k (hk:k<(xl n).length),¬k<n.2.1.length->(xl n)[k]=48:=by
    intro k hk ac
    simp only[xl];rw[Cd (by omega),List.getElem_replicate]
   generalize xl n=D at *
   refine⟨λv i=>∃k:Nat,i=k/\k<=D.length/\v=-(zj (D.take k):Int)/\zj (D.take k)<=9223372036854775808,λ_ i=>D.length-i.toNat,⟨0,rfl,by omega,by simp[zj],by simp[zj]⟩,?_⟩
   rintro v i ⟨k,rfl,hk,rfl,hv⟩
   refine⟨λhc=>?_,λhc=>?_⟩
   ·have O:k<D.length:=by simp at hc;omega
    have hd:=zs7 aj O
    have step:∀d:Int,d=(D[k].toNat:Int)-48->(True/\(10:Int)≠0 /\
      ((decide ((-(zj (D.take k):Int))<(Aa .i64 ((Aa .i64 ((-9223372036854775808)+d)).tdiv 10))))=true->R (0,false)) /\
      ((decide ((-(zj (D.take k):Int))<(Aa .i64 ((Aa .i64 ((-9223372036854775808)+d)).tdiv 10))))=false ->
       ((∃k':Nat,(Aa .i64 ((k:Int)+1))=k'/\k'<=D.length/\(Aa .i64 ((Aa .i64 (10*(-(zj (D.take k):Int))))-d))=-(zj (D.take k'):Int)/\zj (D.take k')<=9223372036854775808) /\
        D.length-(Aa .i64 ((k:Int)+1)).toNat<D.length-((k:Int)).toNat))):=by
     intro d ap
     have an:0<=d/\d<=9:=by omega
     obtain⟨m,hm⟩:∃m:Nat,(-9223372036854775808+d:Int)=-(m:Int):=⟨(9223372036854775808-d).toNat,by omega⟩
     have e1:(-(m:Int)).tdiv 10=-((m / 10:Nat):Int):=by rw[Int.neg_tdiv];rfl
     rw[wrap64 (n:=-9223372036854775808+d) (by omega) (by omega),hm,e1,wrap64 (n:=-((m / 10:Nat):Int)) (by omega) (by omega)]
     refine⟨trivial,by omega,λhq=>?_,λhq=>?_⟩
     ·have Z:-(zj (D.take k):Int) < -((m / 10:Nat):Int):=by simpa using hq
      have al:9223372036854775808<zj (D.take (k+1)):=by rw[wz O];omega
      have:=zm5 (D:=D) (k+1)
      cases hb:n.1 with
      |true=>rw[hb]at h;simp only[if_true]at h;rw[if_neg (by omega)]at h;exact h
      |false=>rw[hb]at h;simp only[A9,if_false]at h;rw[if_neg (by omega)]at h;exact h
     ·have Z:¬-(zj (D.take k):Int) < -((m / 10:Nat):Int):=by simpa using hq
      have af:zj (D.take (k+1))<=9223372036854775808:=by rw[wz O];omega
      have ae:=af
      rw[wz O]at ae
      rw[yz O (by omega),wrap64 (n:=10*_) (by omega) (by omega),wrap64 (n:=10*_-d) (by omega) (by omega)]
      refine⟨⟨k+1,rfl,by omega,?_,af⟩,by simp only[Ad];omega⟩
      rw[wz O];omega
    intro K hK
    simp only[Ad]
    refine⟨λhq=>⟨by simp at hq;omega,hK _ (step _ ?_)⟩,λhq=>hK _ (step _ ?_)⟩
    ·have Z:k<n.2.1.length:=by simp at hq;omega
     rw[ak k O Z,zyk (by omega) (by omega),w64 (by omega)]
    ·have Z:¬k<n.2.1.length:=by simp at hq;omega
     rw[ah k O Z];rfl
   ·have O:k=D.length:=by simp at hc;omega
    subst O
    rw[AE]at hv ⊢
    refine⟨λhb=>?_,λhb=>⟨λhq=>?_,λhq=>?_⟩⟩
    ·have aa:n.1=true:=hb
     rw[aa]at h
     simp only[if_true]at h
     rw[if_pos (by omega)]at h;exact h
    ·have aa:n.1=false:=hb
     rw[aa]at h
     simp only[A9,if_false]at h
     rw[if_neg (by simp at hq;omega)]at h;exact h
    ·have aa:n.1=false:=hb
     rw[aa]at h
     simp only[A9,if_false]at h
     rw[if_pos (by simp at hq;omega)]at h
     rw[wrap64 (n:=0 - -(zj D:Int)) (by omega) (by simp at hq;omega)]
     have:(0:Int) - -(zj D:Int)=zj D:=by omega
     rw[this];exact h
theorem z6p(hg:GL gl){s:Bs}(hs:s.length<=1152921504606846976)(h:R (ztc s)):PC Tp gl 85 [Arg.mk .str (bl s)] [.bool] R:=by
 apply zml
 refine zb6 hg hs (z9y hg (n:=(zpk s).1) (Qg s hs) ?_)
 simp only[Ba]
 exact h
theorem qj(v:Tr):Tr.mk v.kind v.text v.keys v.items=v:=by cases v;rfl
theorem Yo{l:List Tr}{k:Nat}(h:k<l.length):l[((k:Int)).toNat]?=some l[k]:=by rw[Ad,Aj h]
theorem zy0{gl:Fr}(v:Tr)(hv:tsz v<=1000000000000){R:Int->Prop}(h:R (tsz v:Int)):PC Tp gl 78 [Arg.mk .tree v] [.int .i64] R:=by
 apply zmk
 have aa:=Zt v.items
 have Z:=jy v
 refine⟨λn i=>∃k:Nat,i=k/\k<=v.items.length/\n=((1+Qx (v.items.take k):Nat):Int),λ_ i=>v.items.length-i.toNat,⟨0,rfl,by omega,by simp[Qx]⟩,?_⟩
 rintro n i ⟨k,rfl,hk,rfl⟩
 refine⟨λhc=>?_,λhc=>?_⟩
 ·have O:k<v.items.length:=by simp at hc;omega
  refine⟨v.items[k],⟨by omega,Yo O⟩,?_⟩
  rw[qj]
  have hm:v.items[k]∈v.items:=Ao O
  have ac:=yh hm
  have ae:Qx (v.items.take (k+1))<=Qx v.items:=by
   have:=w6 (v.items.take (k+1)) (v.items.drop (k+1))
   rw[Bp]at this;omega
  have ht:=zpi O
  refine zy0 (v.items[k]) (by omega) ?_
  rw[yz O (by omega),w64 (by omega)]
  exact⟨⟨k+1,rfl,by omega,by omega⟩,by simp only[Ad];omega⟩
 ·have O:k=v.items.length:=by simp at hc;omega
  subst O
  rw[AE,<-Z];exact h
termination_by tsz v
theorem zm6{gl:Fr}(v:Tr)(hv:tsz v<=1000000000000){R:Int->Prop}(h:R (tsz v:Int)):PC Tp gl 65 [Arg.mk .tree v] [.int .i64] R:=by
 apply zdl
 have aa:=Zt v.items
 have Z:=jy v
 refine⟨λn i=>∃k:Nat,i=k/\k<=v.items.length/\n=((1+Qx (v.items.take k):Nat):Int),λ_ i=>v.items.length-i.toNat,⟨0,rfl,by omega,by simp[Qx]⟩,?_⟩
 rintro n i ⟨k,rfl,hk,rfl⟩
 refine⟨λhc=>?_,λhc=>?_⟩
 ·have O:k<v.items.length:=by simp at hc;omega
  refine⟨v.items[k],⟨by omega,Yo O⟩,?_⟩
  rw[qj]
  have hm:v.items[k]∈v.items:=Ao O
  have ac:=yh hm
  have ae:Qx (v.items.take (k+1))<=Qx v.items:=by
   have:=w6 (v.items.take (k+1)) (v.items.drop (k+1))
   rw[Bp]at this;omega
  have ht:=zpi O
  refine zm6 (v.items[k]) (by omega) ?_
  rw[yz O (by omega),w64 (by omega)]
  exact⟨⟨k+1,rfl,by omega,by omega⟩,by simp only[Ad];omega⟩
 ·have O:k=v.items.length:=by simp at hc;omega
  subst O
  rw[AE,<-Z];exact h
termination_by tsz v
theorem zti{gl:Fr}(v:Tr)(hv:tsz v<=1000000000000){R:Int->Prop}(h:R (tdp v:Int)):PC Tp gl 79 [Arg.mk .tree v] [.int .i64] R:=by
 apply zjv
 have Z:=Zt v.items
 have af:=jy v
 have ae:=zm2 v.items
 have ac:=zfy v
 refine⟨λn i=>∃k:Nat,i=k/\k<=v.items.length/\n=((Wz (v.items.take k):Nat):Int),λ_ i=>v.items.length-i.toNat,⟨0,rfl,by omega,by simp[Wz]⟩,?_⟩
 rintro n i ⟨k,rfl,hk,rfl⟩
 refine⟨λhc=>?_,λhc=>?_⟩
 ·have O:k<v.items.length:=by simp at hc;omega
  refine⟨v.items[k],⟨by omega,Yo O⟩,?_⟩
  rw[qj]
  have hm:v.items[k]∈v.items:=Ao O
  have aa:=yh hm
  have ht:=zpj O
  refine zti (v.items[k]) (by omega) ?_
  rw[yz O (by omega)]
  refine⟨⟨k+1,rfl,by omega,?_⟩,by simp only[Ad];omega⟩
  rw[ht];split <;> omega
 ·have O:k=v.items.length:=by simp at hc;omega
  subst O
  rw[AE,w64 (by omega)]
  have:((Wz v.items:Nat):Int)+1=(tdp v:Int):=by omega
  rw[this];exact h
termination_by tsz v
theorem ziw{gl:Fr}(v:Tr)(hv:tsz v<=1000000000000){R:Int->Prop}(h:R (tdp v:Int)):PC Tp gl 66 [Arg.mk .tree v] [.int .i64] R:=by
 apply zbw
 have Z:=Zt v.items
 have af:=jy v
 have ae:=zm2 v.items
 have ac:=zfy v
 refine⟨λn i=>∃k:Nat,i=k/\k<=v.items.length/\n=((Wz (v.items.take k):Nat):Int),λ_ i=>v.items.length-i.toNat,⟨0,rfl,by omega,by simp[Wz]⟩,?_⟩
 rintro n i ⟨k,rfl,hk,rfl⟩
 refine⟨λhc=>?_,λhc=>?_⟩
 ·have O:k<v.items.length:=by simp at hc;omega
  refine⟨v.items[k],⟨by omega,Yo O⟩,?_⟩
  rw[qj]
  have hm:v.items[k]∈v.items:=Ao O
  have aa:=yh hm
  have ht:=zpj O
  refine ziw (v.items[k]) (by omega) ?_
  rw[yz O (by omega)]
  refine⟨⟨k+1,rfl,by omega,?_⟩,by simp only[Ad];omega⟩
  rw[ht];split <;> omega
 ·have O:k=v.items.length:=by simp at hc;omega
  subst O
  rw[AE,w64 (by omega)]
  have:((Wz v.items:Nat):Int)+1=(tdp v:Int):=by omega
  rw[this];exact h
termination_by tsz v
theorem ztj{v:Tr}(hv:Sm v)(h:R (Zi v)):PC Tp gl 44 [Arg.mk .tree v] [.bool] R:=by
 apply zju
 rw[qj]
 refine zy0 v hv.sz ⟨λr=>r=(tdp v:Int),λ_=>zti v hv.sz rfl,λr hr=>?_⟩
 have e:(bif decide ((tsz v:Int)<=4096)then decide (r<=32)else false)=Zi v:=by
  unfold Zi
  cases hc:decide ((tsz v:Int)<=4096)with
  |false=>(have:decide (tsz v<=4096)=false:=by simp at hc ⊢;omega);rw[this];rfl
  |true=>
   have:decide (tsz v<=4096)=true:=by simp at hc ⊢;omega
   rw[this,hr hc,cond_true,Bf,AB];simp;omega
 rw[e];exact h
end
section
theorem XF{vs:List Value}{f:FuncId}{fn:Func}{h:zb}{R:Value->zb->Prop}{F:Prop}(pl:Plan)(rs:List ResultVar)(n:Nat)(hf:AK.funcs[f]?=some fn)(H:F)(hb:J8 fn=true:=by kernel_rfl)(hr:fn.results.toList=rs:=by kernel_rfl)(hn:fn.ntmps=n:=by kernel_rfl)(hz:Nat.ble vs.length n=true:=by kernel_rfl)(e:F=W Tp n pl (codeOf fn) (qat Tp rs R) (zwm 0 vs) h:=by kernel_rfl):XC Tp f vs.toArray h R:=zuh Tryz.mixed pl vs hf hb hr hn hz (Eq.mp e H)
theorem zj4(O:Sl)(n1:Int)(h:zb)(R:Value->zb->Prop)
  (H:let b:=h.push (.map #[] 0);∃(c:Int->zb->Prop) (d:Int->zb->Nat),c 0 b/\∀e:Int,∀f:zb,c e f->((decide (e<O.len)=true->∃g,(O.a=some g/\0<=e/\e<O.len)/\∃i,zm f (g.add (e.toNat*1))=some (.string i)/\∃j,QExec Tp (D9 123 (.map (some h.size)) (.string i) false) f (.bool j)/\∃k:Value->zb->Prop,((!j)=true->XC Tp 84 #[.string i] f (λl m=>∃n,l=.bool n/\k (.bool n) m))/\((!j)=false->∃o,k (.bool o) f)/\((!j)=true->∀p q,k p q->∃r,p=.bool r)/\∀s:Bool,∀t,k (.bool s) t->((bif j then true else(!s))=true->R (.bool false) t)/\((bif j then true else(!s))=false->XRunU Tp (CQ 123 (.map (some h.size)) (.string i) (.bool true)) t (λu=>(c (Aa .i64 (e+1)) u/\d (Aa .i64 (e+1)) u<d e f))))/\(decide (e<O.len)=false->R (.bool ((O.len:Int)==n1)) f))):
  XC Tp 82 #[.slice O.a O.len O.cap,.int .i64 n1] h R:=
 XF ⟨[],[(3,[(13,.one (.int .i64))])],[]⟩ [.tmp 4] 32 Tryz.func82 H
theorem wh(s0:Sl)(aa:FuncId)(Z:Array Value)(O:Array Value)(h:zb)(R:Value->zb->Prop)
  (H:XC Tp 118 #[slV s0,.func (.func aa) Z O] h (λb c=>∃d,b=.int .i64 d/\R (.bool (decide (d>=0))) c)):
  XC Tp 80 #[.slice s0.a s0.len s0.cap,.func (.func aa) Z O] h R:=
 XF ⟨[],[],[]⟩ [.tmp 4] 9 Tryz.func80 H
theorem w8(s0:Sl)(O:FuncId)(aa:Array Value)(Z:Array Value)(h:zb)(R:Value->zb->Prop)
  (H:∃(b:Int->zb->Prop) (c:Int->zb->Nat),b 0 h/\∀d:Int,∀e:zb,b d e->((decide (d<s0.len)=true->∃f,(s0.a=some f/\0<=d/\d<s0.len)/\∃g i j k,ze e (f.add (d.toNat*4)) 0 [.int .i64 g,.string i,slV j,slV k]/\ya Tp O=true/\XC Tp O (aa++#[.agg #[.int .i64 g,.string i,slV j,slV k]]++Z) e (λl m=>∃n,l=.bool n/\(n=true->R (.int .i64 d) m)/\(n=false->(b (Aa .i64 (d+1)) m/\c (Aa .i64 (d+1)) m<c d e))))/\(decide (d<s0.len)=false->R (.int .i64 (-1)) e))):
  XC Tp 118 #[.slice s0.a s0.len s0.cap,.func (.func O) aa Z] h R:=
 XF ⟨[],[(2,[(8,.one (.int .i64))])],[]⟩ [.tmp 4] 19 Tryz.func118 H
theorem zgc(b:Int)(c:Bt)(d:Sl)(e:Sl)(c1:Addr)(h:zb)(R:Value->zb->Prop)
  (H:let f:=h.push (.cells #[.int .i64 b,.string c,slV d,slV e] 25);∃g i j k,ze f ⟨h.size,0,none⟩ 0 [.int .i64 g,.string i,slV j,slV k]/\∃l:Value,zm f c1=some l/\XC Tp 45 #[.agg #[.int .i64 g,.string i,slV j,slV k],l] f (λm n=>∃o,m=.bool o/\R (.bool (!o)) n)):
  XC Tp 81 #[.agg #[.int .i64 b,.string c,.slice d.a d.len d.cap,.slice e.a e.len e.cap],.pointer (some c1)] h R:=
 XF ⟨[],[],[]⟩ [.tmp 3] 8 Tryz.func81 H
theorem zj5(b:Int)(c:Bt)(d:Sl)(e:Sl)(aa:FuncId)(Z:Array Value)(O:Array Value)(h:zb)(R:Value->zb->Prop)
  (H:let f:=h.push (.cells #[.int .i64 b,.string c,slV d,slV e] 25);let g:=f.push (.cells #[.func (.func aa) Z O] 44);∃i:Value,zm g ⟨f.size,0,none⟩=some i/\∃j k l m,ze g ⟨h.size,0,none⟩ 0 [.int .i64 j,.string k,slV l,slV m]/\z8k Tp i #[.agg #[.int .i64 j,.string k,slV l,slV m]] (λn o=>XC Tp n o g (λp q=>∃r,p=.bool r/\∃s,(r=true->zm q (Af ⟨h.size,0,none⟩ 3)=some (slV s))/\∃t:Value->zb->Prop,(r=true->XC Tp 80 #[slV s,.func (.func 81) #[] #[.pointer (some ⟨f.size,0,none⟩)]] q (λu v=>∃w,u=.bool w/\t (.bool w) v))/\(r=false->∃x,t (.bool x) q)/\(r=true->∀y z,t y z->∃A,y=.bool A)/\∀B:Bool,∀C,t (.bool B) C->R (.bool (bif r then(!B)else false)) C))):
  XC Tp 45 #[.agg #[.int .i64 b,.string c,.slice d.a d.len d.cap,.slice e.a e.len e.cap],.func (.func aa) Z O] h R:=
 XF ⟨[],[],[]⟩ [.tmp 4] 15 Tryz.func45 H
theorem zm7(b:Int)(c:Bt)(d:Sl)(e:Sl)(h:zb)(R:Value->zb->Prop)
  (H:let f:=h.push (.cells #[.int .i64 b,.string c,slV d,slV e] 25);∃g i j k,ze f ⟨h.size,0,none⟩ 0 [.int .i64 g,.string i,slV j,slV k]/\XC Tp 44 #[.agg #[.int .i64 g,.string i,slV j,slV k]] f (λl m=>∃n,l=.bool n/\∃o p q r,(n=true->ze m ⟨h.size,0,none⟩ 0 [.int .i64 o,.string p,slV q,slV r])/\∃s:Value->zb->Prop,(n=true->XC Tp 45 #[.agg #[.int .i64 o,.string p,slV q,slV r],.func (.func 47) #[] #[]] m (λt u=>∃v,t=.bool v/\s (.bool v) u))/\(n=false->∃w,s (.bool w) m)/\(n=true->∀x y,s x y->∃z,x=.bool z)/\∀A:Bool,∀B,s (.bool A) B->R (.bool (bif n then A else false)) B)):
  XC Tp 42 #[.agg #[.int .i64 b,.string c,.slice d.a d.len d.cap,.slice e.a e.len e.cap]] h R:=
 XF ⟨[],[],[]⟩ [.tmp 2] 9 Tryz.func42 H
theorem xt(s0:Sl)(aa:FuncId)(Z:Array Value)(O:Array Value)(h:zb)(R:Value->zb->Prop)
  (H:XC Tp 112 #[slV s0,.func (.func aa) Z O] h (λb c=>∃d,b=.int .i64 d/\R (.bool (decide (d>=0))) c)):
  XC Tp 73 #[.slice s0.a s0.len s0.cap,.func (.func aa) Z O] h R:=
 XF ⟨[],[],[]⟩ [.tmp 4] 9 Tryz.func73 H
theorem Zv(s0:Sl)(O:FuncId)(aa:Array Value)(Z:Array Value)(h:zb)(R:Value->zb->Prop)
  (H:∃(b:Int->zb->Prop) (c:Int->zb->Nat),b 0 h/\∀d:Int,∀e:zb,b d e->((decide (d<s0.len)=true->∃f,(s0.a=some f/\0<=d/\d<s0.len)/\∃g,zm e (f.add (d.toNat*1))=some (.string g)/\ya Tp O=true/\XC Tp O (aa++#[.string g]++Z) e (λi j=>∃k,i=.bool k/\(k=true->R (.int .i64 d) j)/\(k=false->(b (Aa .i64 (d+1)) j/\c (Aa .i64 (d+1)) j<c d e))))/\(decide (d<s0.len)=false->R (.int .i64 (-1)) e))):
  XC Tp 112 #[.slice s0.a s0.len s0.cap,.func (.func O) aa Z] h R:=
 XF ⟨[],[(2,[(8,.one (.int .i64))])],[]⟩ [.tmp 4] 19 Tryz.func112 H
theorem zdz(s0:Bt)(h:zb)(R:Value->zb->Prop)
  (H:XC Tp 75 #[.string s0] h (λa b=>∃c,a=.bool c/\R (.bool (!c)) b)):
  XC Tp 74 #[.string s0] h R:=
 XF ⟨[],[],[]⟩ [.tmp 2] 6 Tryz.func74 H
theorem zgd(O:Sl)(h:zb)(R:Value->zb->Prop)
  (H:∃b:Value->zb->Prop,(decide ((O.len:Int)<=64)=true->XC Tp 73 #[slV O,.func (.func 74) #[] #[]] h (λc d=>∃e,c=.bool e/\b (.bool e) d))/\(decide ((O.len:Int)<=64)=false->∃f,b (.bool f) h)/\(decide ((O.len:Int)<=64)=true->∀g i,b g i->∃j,g=.bool j)/\∀k:Bool,∀l,b (.bool k) l->R (.bool (bif (decide ((O.len:Int)<=64))then(!k)else false)) l):
  XC Tp 37 #[.slice O.a O.len O.cap] h R:=
 XF ⟨[],[],[]⟩ [.tmp 2] 11 Tryz.func37 H
theorem zj6(b:Int)(c:Bt)(d:Sl)(e:Sl)(h:zb)(R:Value->zb->Prop)
  (H:let f:=h.push (.cells #[.int .i64 b,.string c,slV d,slV e] 25);let g:=f.push (.cells #[.int .i64 0,.string (⟨#[]⟩:Bt),.slice none 0 0,.slice none 0 0] 25);∃i,zm g (Af ⟨h.size,0,none⟩ 2)=some (slV i)/\∃j,zm g (Af ⟨h.size,0,none⟩ 3)=some (slV j)/\XC Tp 99 #[slV i] g (λk l=>∃m,k=slV m/\Keep g.size g l/\XC Tp 100 #[slV j] l (λn o=>∃p,n=slV p/\XRunU Tp (Al 22 (.pointer (some (Af ⟨h.size,0,none⟩ 2))) (slV m)) o (λq=>XRunU Tp (Al 23 (.pointer (some (Af ⟨h.size,0,none⟩ 3))) (slV p)) q (λr=>∃s,zm r (Af ⟨h.size,0,none⟩ 3)=some (slV s)/\∃(t:Int->zb->Prop) (u:Int->zb->Nat),t 0 r/\∀v:Int,∀w:zb,t v w->((decide (v<s.len)=true->∃x,(s.a=some x/\0<=v/\v<s.len)/\∃y z A B,ze w (x.add (v.toNat*4)) 0 [.int .i64 y,.string z,slV A,slV B]/\let C:=w.push (.cells #[.int .i64 0,.string (⟨#[]⟩:Bt),.slice none 0 0,.slice none 0 0] 25);XRunU Tp (Al 25 (.pointer (some ⟨w.size,0,none⟩)) (.agg #[.int .i64 y,.string z,slV A,slV B])) C (λD=>∃E,zm D (Af ⟨h.size,0,none⟩ 3)=some (slV E)/\∃F G I J,ze D ⟨w.size,0,none⟩ 0 [.int .i64 F,.string G,slV I,slV J]/\∃L,(E.a=some L/\0<=v/\v<E.len)/\XC Tp 58 #[.agg #[.int .i64 F,.string G,slV I,slV J]] D (λM N=>∃O P Q S,M=.agg #[.int .i64 O,.string P,slV Q,slV S]/\Keep D.size D N/\XRunU Tp (Al 25 (.pointer (some (L.add (v.toNat*4)))) (.agg #[.int .i64 O,.string P,slV Q,slV S])) N (λT=>(t (Aa .i64 (v+1)) T/\u (Aa .i64 (v+1)) T<u v w)))))/\(decide (v<s.len)=false->∃U V W X,ze w ⟨h.size,0,none⟩ 0 [.int .i64 U,.string V,slV W,slV X]/\XRunU Tp (Al 25 (.pointer (some ⟨f.size,0,none⟩)) (.agg #[.int .i64 U,.string V,slV W,slV X])) w (λY=>∃Z aa ab ac,ze Y ⟨f.size,0,none⟩ 0 [.int .i64 Z,.string aa,slV ab,slV ac]/\R (.agg #[.int .i64 Z,.string aa,slV ab,slV ac]) Y)))))))):
  XC Tp 58 #[.agg #[.int .i64 b,.string c,.slice d.a d.len d.cap,.slice e.a e.len e.cap]] h R:=
 XF ⟨[(1,2000),(5,2000)],[(3,[(16,.one (.int .i64))])],[]⟩ [.cell 2 25] 29 Tryz.func58 H
theorem Qt(s0:Sl)(h:zb)(R:Value->zb->Prop)
  (H:(s0.a.isNone=true->R (.slice none 0 0) h)/\(s0.a.isNone=false->let b:=h.push (.cells #[] 9);XRun Tp (Au #[22,22] 22 #[.slice (some ⟨h.size,0,none⟩) 0 0,slV s0]) b (λc d=>∃e,c=slV e/\R (slV e) d))):
  XC Tp 99 #[.slice s0.a s0.len s0.cap] h R:=
 XF ⟨[],[],[]⟩ [.tmp 2] 8 Tryz.func99 H
theorem Za(s0:Sl)(h:zb)(R:Value->zb->Prop)
  (H:(s0.a.isNone=true->R (.slice none 0 0) h)/\(s0.a.isNone=false->let b:=h.push (.cells #[] 25);XRun Tp (Au #[23,23] 23 #[.slice (some ⟨h.size,0,none⟩) 0 0,slV s0]) b (λc d=>∃e,c=slV e/\R (slV e) d))):
  XC Tp 100 #[.slice s0.a s0.len s0.cap] h R:=
 XF ⟨[],[],[]⟩ [.tmp 2] 8 Tryz.func100 H
theorem zd0(b:Int)(c:Bt)(d:Sl)(e:Sl)(h:zb)(R:Value->zb->Prop)
  (H:let f:=h.push (.cells #[.int .i64 b,.string c,slV d,slV e] 25);let g:=f.push (.cells #[.int .i64 0,.string (⟨#[]⟩:Bt),.slice none 0 0,.slice none 0 0] 25);∃i j k l,ze g ⟨h.size,0,none⟩ 0 [.int .i64 i,.string j,slV k,slV l]/\XC Tp 42 #[.agg #[.int .i64 i,.string j,slV k,slV l]] g (λm n=>∃o,m=.bool o/\((!o)=true->XRunU Tp (Al 25 (.pointer (some ⟨f.size,0,none⟩)) (.agg #[.int .i64 0,.string (⟨#[]⟩:Bt),.slice none 0 0,.slice none 0 0])) n (λp=>∃q r s t,ze p ⟨f.size,0,none⟩ 0 [.int .i64 q,.string r,slV s,slV t]/\R (.agg #[.int .i64 q,.string r,slV s,slV t]) p))/\((!o)=false->∃u v w x,ze n ⟨h.size,0,none⟩ 0 [.int .i64 u,.string v,slV w,slV x]/\XC Tp 58 #[.agg #[.int .i64 u,.string v,slV w,slV x]] n (λy z=>∃A B C D,y=.agg #[.int .i64 A,.string B,slV C,slV D]/\XRunU Tp (Al 25 (.pointer (some ⟨f.size,0,none⟩)) (.agg #[.int .i64 A,.string B,slV C,slV D])) z (λE=>∃F G I J,ze E ⟨f.size,0,none⟩ 0 [.int .i64 F,.string G,slV I,slV J]/\R (.agg #[.int .i64 F,.string G,slV I,slV J]) E))))):
  XC Tp 32 #[.agg #[.int .i64 b,.string c,.slice d.a d.len d.cap,.slice e.a e.len e.cap]] h R:=
 XF ⟨[],[],[]⟩ [.cell 2 25] 9 Tryz.func32 H
theorem zb7(b:Int)(c:Bt)(d:Sl)(e:Sl)(h:zb)(R:Value->zb->Prop)
  (H:let f:=h.push (.cells #[.int .i64 b,.string c,slV d,slV e] 25);∃(g:Int->zb->Prop) (i:Int->zb->Nat),g 0 f/\∀j:Int,∀k:zb,g j k->(∃l,zm k (Af ⟨h.size,0,none⟩ 2)=some (slV l)/\(decide (j<l.len)=true->∃m,zm k (Af ⟨h.size,0,none⟩ 2)=some (slV m)/\∃n,(m.a=some n/\0<=j/\j<m.len)/\XRunU Tp (Al 9 (.pointer (some (n.add (j.toNat*1)))) (.string (⟨#[115,112,111,105,108,116]⟩:Bt))) k (λo=>(g (Aa .i64 (j+1)) o/\i (Aa .i64 (j+1)) o<i j k)))/\(decide (j<l.len)=false->∃(p:Int->zb->Prop) (q:Int->zb->Nat),p 0 k/\∀r:Int,∀s:zb,p r s->(∃t,zm s (Af ⟨h.size,0,none⟩ 3)=some (slV t)/\(decide (r<t.len)=true->∃u,zm s (Af ⟨h.size,0,none⟩ 3)=some (slV u)/\∃v,(u.a=some v/\0<=r/\r<u.len)/\∃w x y z,ze s (v.add (r.toNat*4)) 0 [.int .i64 w,.string x,slV y,slV z]/\XC Tp 16 #[.agg #[.int .i64 w,.string x,slV y,slV z]] s (λA B=>A=.tuple #[]/\∃C,zm B (Af ⟨h.size,0,none⟩ 3)=some (slV C)/\∃D,(C.a=some D/\0<=r/\r<C.len)/\XRunU Tp (Al 3 (.pointer (some (Af (D.add (r.toNat*4)) 0))) (.int .i64 (-7))) B (λE=>(p (Aa .i64 (r+1)) E/\q (Aa .i64 (r+1)) E<q r s))))/\(decide (r<t.len)=false->R (.tuple #[]) s))))):
  XC Tp 16 #[.agg #[.int .i64 b,.string c,.slice d.a d.len d.cap,.slice e.a e.len e.cap]] h R:=
 XF ⟨[],[(2,[(2,.one (.int .i64))]),(6,[(3,.one (.int .i64))])],[]⟩ [] 33 Tryz.func16 H
theorem zix(b:Int)(c:Bt)(d:Sl)(e:Sl)(O:Sl)(h:zb)(R:Value->zb->Prop)
  (H:let f:=h.push (.cells #[.int .i64 b,.string c,slV d,slV e] 25);let g:=f.push (.cells #[slV O] 22);R (.func (.func 116) #[] #[.pointer (some ⟨f.size,0,none⟩),.pointer (some ⟨h.size,0,none⟩)]) g):
  XC Tp 77 #[.agg #[.int .i64 b,.string c,.slice d.a d.len d.cap,.slice e.a e.len e.cap],.slice O.a O.len O.cap] h R:=
 XF ⟨[],[],[]⟩ [.tmp 4] 6 Tryz.func77 H
end
section
variable {gl M:Fr} {F:FuncId} {A C:Array Value} {h:zb}
theorem zy1:MapT Tp 123 9 4 (.bool false):=⟨by kernel_rfl,by kernel_rfl,⟨Tryz.t4,by kernel_rfl,by kernel_rfl⟩⟩
set_option maxHeartbeats 1000000 in
theorem z2i(hg:GL gl){ks:List Bt}{n:Int}(hk:∀k∈ks,(lb k).length<=1048576){R:Bool->Prop}(h:R (jv ks&&decide ((ks.length:Int)=n))):PC Tp gl 82 [Arg.mk (.row .str) ks,Arg.mk (.int .i64) n] [.bool] R:=by
 intro hp M vs hM ag ha
 match vs,ha with
 |[u,w],⟨h1,h2,_⟩=>
  obtain⟨s,rfl,hr⟩:=zdg h1
  have hw:=zdf h2
  subst hw
  have hr:Rd M (.row .str) ks [slV s]:=hr
  obtain⟨am,aG,aH⟩:=rowLen hr
  apply PX.of
  apply zj4 s n
  intro g0
  have kg:Keep hp.size hp g0:=Keep.push _ _ (Ae _)
  have sg:g0.size=hp.size+1:=Ai _
  have mg:MapAt g0 hp.size []:=MapAt.new hp
  clear_value g0
  refine⟨λi h4=>∃k:Nat,i=k/\k<=ks.length/\hp.size<h4.size/\(∃M4,Later hp M h4 M4/\M4 hp.size=none)/\(∃l,MapAt h4 hp.size l/\∀x,z0l l x (.bool false)=.bool (decide (x∈ks.take k)))/\jv (ks.take k)=true,λi _=>ks.length-i.toNat,
   ⟨0,rfl,by omega,by omega,⟨M,Later.same ag kg,ag.none (Ae _)⟩,⟨[],mg,λx=>rfl⟩,by simp[jv]⟩,?_⟩
  rintro i h4 ⟨k,rfl,aF,ah,⟨M4,L4,an⟩,⟨l,aj,ap⟩,ae⟩
  refine⟨λhc=>?_,λhc=>?_⟩
  ·have aa:k<ks.length:=by simp at hc;omega
   have aD:=Rd.mono L4.le hr
   refine zbo L4.ag aD aa rfl rfl ?_
   have au:=zhm zy1 aj ks[k] false
   rw[ap]at au
   refine⟨decide (ks[k]∈ks.take k),au,?_⟩
   have Z:=zpl hg.tabs (l:=lb ks[k]) (R:=λb=>b=xe (lb ks[k])) (by have:=hk _ (Ao aa);omega) rfl
   rw[zaq]at Z
   generalize hd:decide (ks[k]∈ks.take k)=d
   refine⟨λv h5=>∃b,v=.bool b/\(d=false->b=xe (lb ks[k]))/\hp.size<h5.size/\(∃M5,Later hp M h5 M5/\M5 hp.size=none)/\MapAt h5 hp.size l,λhn=>?_,λhn=>⟨true,true,rfl,λe=>(by rw[e]at hn;cases hn),ah,⟨M4,L4,an⟩,aj⟩,λ_ v h5 ⟨b,e,_⟩=>⟨b,e⟩,?_⟩
   ·refine Z.go (vs:=[.string ks[k]]) (hM.trans L4.le) L4.ag (yo (rdStr _) ww) λv h5 M5 r L5 ar ay=>⟨r,zay ar,r,rfl,λ_=>ay,by have:=L5.keep.size;omega,⟨M5,L4.trans L5,by rw[L5.old _ ah,an]⟩,aj.keep (L5.keep.get _ ah)⟩
   ·rintro b h5 ⟨b',e,hb,aE,⟨M5,L5,ax⟩,aC⟩
    cases e
    have ak:ks.take (k+1)=ks.take k++[ks[k]]:=An aa
    have al:jv (ks.take (k+1))=(!d&&xe (lb ks[k])):=by
     have O:=ae
     unfold jv at O ⊢
     rw[AI,decide_eq_true_eq]at O
     rw[ak,CV,O.1,<-hd]
     have:decide (BJ k ks++[ks[k]]).Nodup=!decide (ks[k]∈ks.take k):=by
      rw[AB]
      simp only[decide_eq_true_eq,Ce,decide_eq_false_iff_not,A0]
      constructor
      ·rintro⟨_,_,h3⟩ ac
       exact h3 _ ac _ (by simp) rfl
      ·intro ac
       exact⟨O.2,by simp,λa ha b hb e=>ac (by simp at hb;rw[<-hb,<-e];exact ha)⟩
     rw[this];simp[Bool.and_comm]
    refine⟨λhx=>?_,λhx=>?_⟩
    ·refine⟨M5,_,L5,zax.2 (rdBool _),?_⟩
     have hf:jv (ks.take (k+1))=false:=by
      rw[al]
      cases d with
      |true=>rfl
      |false=>rw[hb rfl]at hx;simpa using hx
     have aA:jv ks=false:=by
      cases hks:jv ks with
      |false=>rfl
      |true=>
       unfold jv at hks hf
       rw[AI,decide_eq_true_eq]at hks
       have h1:((ks.take (k+1)).all λk=>xe (lb k))=true:=by
        rw[AU]at hks ⊢
        exact λx hx=>hks.1 x (Bi hx)
       have h2:(ks.take (k+1)).Nodup:=hks.2.sublist (List.take_sublist _ _)
       rw[h1,decide_eq_true h2]at hf;cases hf
     rw[aA]at h;exact h
    ·have ai:d=false:=by cases d with
      |true=>simp at hx
      |false=>rfl
     have az:xe (lb ks[k])=true:=by rw[<-hb ai];rw[ai]at hx;simpa using hx
     refine zwq zy1 aC ks[k] (.bool true) λh6 m6 s6 o6=>?_
     rw[yz aa (by omega)]
     refine⟨⟨k+1,rfl,by omega,by omega,⟨M5,⟨⟨by have:=L5.keep.size;omega,λi hi=>by rw[o6 i (by omega)];exact L5.keep.get i hi⟩,L5.le,L5.old,?_⟩,ax⟩,⟨_,m6,λx=>?_⟩,by rw[al,ai,az];rfl⟩,by simp only[Ad];omega⟩
     ·intro b c e
      have aB:b≠hp.size:=λe2=>by rw[e2,ax]at e;cases e
      obtain⟨T,m,e'⟩:=L5.ag b c e
      exact⟨T,m,by rw[o6 b aB];exact e'⟩
     ·unfold z0l
      rw[zwp,ak]
      by_cases af:ks[k]=x
      ·subst af
       rw[if_pos rfl]
       simp only[Am,Cn,or_true,decide_true,Option.getD_some]
      ·rw[if_neg af]
       have:=ap x
       unfold z0l at this
       rw[this]
       congr 1
       rw[AB,decide_eq_true_eq,decide_eq_true_eq,Am,Cn]
       exact⟨.inl,λe=>e.elim id λe=>absurd e.symm af⟩
  ·have aa:k=ks.length:=by simp at hc;omega
   subst aa
   rw[AE]at ae
   refine⟨M4,_,L4,zax.2 (rdBool _),?_⟩
   rw[ae,Bf]at h
   have:(((s.len:Nat):Int)==n)=decide ((ks.length:Int)=n):=by rw[am,AB];simp
   rw[this];exact h
def Beh(gl:Fr)(F:FuncId)(A C:Array Value)(h:zb)(M:Fr)(t:Ty)(x:El t)(b:Bool):Prop:=
 ya Tp F=true/\∀h' M' u,Later h M h' M'->RdV M' t x u->PX Tp F (A++#[u]++C) h' M' [.bool] (λr=>r=b)
theorem z96(ag:AgM M h){xs:List Tr}{s:Sl}(hr:Rd M (.row .tree) xs [slV s]){p:Tr->Bool}(hb:∀x∈xs,Beh gl F A C h M .tree x (p x)):
  PX Tp 80 #[slV s,.func (.func F) A C] h M [.bool] (λr=>r=xs.any p):=by
 apply PX.of
 apply wh s F A C
 apply w8 s F A C
 obtain⟨ae,af,ah⟩:=rowLen hr
 refine⟨λi h4=>∃k:Nat,i=k/\k<=xs.length/\(∃M4,Later h M h4 M4)/\(xs.take k).any p=false,λi _=>xs.length-i.toNat,⟨0,rfl,by omega,⟨M,Later.refl ag⟩,by simp⟩,?_⟩
 rintro i h4 ⟨k,rfl,hk,⟨M4,L4⟩,Z⟩
 refine⟨λhc=>?_,λhc=>?_⟩
 ·have O:k<xs.length:=by simp at hc;omega
  obtain⟨a,sk,si,e1,e2,e3,e4⟩:=zfv L4.ag (Rd.mono L4.le hr) O
  refine⟨a,⟨e1,by omega,by omega⟩,xs[k].kind,xs[k].text,sk,si,by rw[Ad];exact e2,(hb _ (Ao O)).1,?_⟩
  refine((hb _ (Ao O)).2 h4 M4 _ L4 (yd e3 e4)).go λv h5 M5 r L5 aa ac=>⟨r,zay aa,λhx=>?_,λhx=>?_⟩
  ·refine⟨(k:Int),rfl,M5,_,L4.trans L5,zax.2 (rdBool _),?_⟩
   have:xs.any p=true:=List.any_eq_true.2 ⟨xs[k],Ao O,by rw[<-ac];exact hx⟩
   rw[this];simp
  ·rw[yz O (by omega)]
   refine⟨⟨k+1,rfl,by omega,⟨M5,L4.trans L5⟩,?_⟩,by simp only[Ad];omega⟩
   rw[An O,List.any_append,Z]
   simp only[List.any_cons,List.any_nil,<-ac,hx];rfl
 ·have O:k=xs.length:=by simp at hc;omega
  subst O
  rw[AE]at Z
  refine⟨-1,rfl,M4,_,L4,zax.2 (rdBool _),?_⟩
  rw[Z];rfl
theorem qb3(ag:AgM M h){xs:List Bt}{s:Sl}(hr:Rd M (.row .str) xs [slV s]){p:Bt->Bool}(hb:∀x∈xs,Beh gl F A C h M .str x (p x)):
  PX Tp 73 #[slV s,.func (.func F) A C] h M [.bool] (λr=>r=xs.any p):=by
 apply PX.of
 apply xt s F A C
 apply Zv s F A C
 obtain⟨ae,af,ah⟩:=rowLen hr
 refine⟨λi h4=>∃k:Nat,i=k/\k<=xs.length/\(∃M4,Later h M h4 M4)/\(xs.take k).any p=false,λi _=>xs.length-i.toNat,⟨0,rfl,by omega,⟨M,Later.refl ag⟩,by simp⟩,?_⟩
 rintro i h4 ⟨k,rfl,hk,⟨M4,L4⟩,Z⟩
 refine⟨λhc=>?_,λhc=>?_⟩
 ·have O:k<xs.length:=by simp at hc;omega
  refine zbo L4.ag (Rd.mono L4.le hr) O rfl rfl ⟨(hb _ (Ao O)).1,?_⟩
  refine((hb _ (Ao O)).2 h4 M4 _ L4 (rdStr _)).go λv h5 M5 r L5 aa ac=>⟨r,zay aa,λhx=>?_,λhx=>?_⟩
  ·refine⟨(k:Int),rfl,M5,_,L4.trans L5,zax.2 (rdBool _),?_⟩
   have:xs.any p=true:=List.any_eq_true.2 ⟨xs[k],Ao O,by rw[<-ac];exact hx⟩
   rw[this];simp
  ·rw[yz O (by omega)]
   refine⟨⟨k+1,rfl,by omega,⟨M5,L4.trans L5⟩,?_⟩,by simp only[Ad];omega⟩
   rw[An O,List.any_append,Z]
   simp only[List.any_cons,List.any_nil,<-ac,hx];rfl
 ·have O:k=xs.length:=by simp at hc;omega
  subst O
  rw[AE]at Z
  refine⟨-1,rfl,M4,_,L4,zax.2 (rdBool _),?_⟩
  rw[Z];rfl
end
section
variable {l ks:List Bt} {k:Nat} {gl:Fr} {v:Tr} {R:Bool -> Prop} {F:FuncId}
theorem qcb:decide (((l.length:Nat):Int)>0)=!l.isEmpty:=by cases l <;> simp
theorem z97{l:List Tr}:decide (((l.length:Nat):Int)>0)=!l.isEmpty:=by cases l <;> simp
theorem z4f(s:Bt):(s.toList==(⟨#[]⟩:Bt).toList)=(lb s==[]):=by
 have:=zds (lb s) []
 rw[zaq]at this
 rw[show(⟨#[]⟩:Bt)=bl []from rfl,this,AB];simp
theorem z2j(s:Bt)(l:Bs):(s.toList==(bl l).toList)=(lb s==l):=by
 have:=zds (lb s) l
 rw[zaq]at this
 rw[this,AB];simp
theorem z4g{k n:Int}:(k==n)=decide (k=n):=by rw[AB];simp
set_option maxHeartbeats 1000000 in
theorem zy2(hg:GL gl)(hv:Sm v)(h:R (zw v)):PC Tp gl 47 [Arg.mk .tree v] [.bool] R:=by
 apply zmj
 have ht:(lb v.text).length<=1152921504606846976:=by have:=hv.text;omega
 have key:∀b,b=zw v->R b:=λb hb=>by rw[hb];exact h
 have hd:=zb6 hg (s:=lb v.text) (R:=λr=>R r.2\/v.kind≠3) ht
 have ae:=zpl hg.tabs (l:=lb v.text) (R:=λr=>r=xe (lb v.text)) (by omega) rfl
 have af:=z6p hg (s:=lb v.text) (R:=λr=>r=ztc (lb v.text)) ht rfl
 have ac:=zb6 hg (s:=lb v.text) (R:=λr=>r.2=(zpk (lb v.text)).2) ht rfl
 rw[zaq]at ae af ac
 simp only[z4g,qcb,z97,show(⟨#[116,114,117,101]⟩:Bt)=bl [116,114,117,101]from rfl,show(⟨#[102,97,108,115,101]⟩:Bt)=bl [102,97,108,115,101]from rfl,z2j]
 unfold zw at key
 refine⟨λh5=>key _ ?_,λh5=>⟨λh6=>?_,λh6=>⟨λhx=>key _ ?_,λhx=>?_⟩⟩⟩
 ·have:v.kind=5:=by simpa using h5
  simp[this,Bool.and_comm]
 ·have O:v.kind=6:=by simpa using h6
  refine z2i hg (λk hk=>hv.key hk) (key _ ?_)
  simp only[O]
  rw[Ba]
  have:decide ((v.keys.length:Int)=(v.items.length:Int))=decide (v.keys.length=v.items.length):=by rw[AB,decide_eq_true_eq,decide_eq_true_eq];omega
  rw[this];rfl
 ·have aa:v.kind≠5:=by simpa using h5
  have O:v.kind≠6:=by simpa using h6
  have Z:(v.keys.isEmpty&&v.items.isEmpty)=false:=by
   cases hk:v.keys.isEmpty <;> cases hi:v.items.isEmpty <;> simp[hk,hi]at hx ⊢
  simp only[aa,O,if_false,Bool.and_assoc,Z,Ei]
  simp
 ·have aa:v.kind≠5:=by simpa using h5
  have O:v.kind≠6:=by simpa using h6
  have Z:v.keys.isEmpty=true/\v.items.isEmpty=true:=by
   cases hk:v.keys.isEmpty <;> cases hi:v.items.isEmpty <;> simp[hk,hi]at hx ⊢
  simp only[aa,O,if_false,Z.1,Z.2,CL]at key
  refine⟨λh1=>key _ ?_,λh1=>⟨λh2=>key _ ?_,λh2=>⟨λh3=>?_,λh3=>⟨λh4=>?_,λh4=>⟨λh7=>?_,λh7=>key _ ?_⟩⟩⟩⟩⟩
  ·have:v.kind=1:=by simpa using h1
   simp[this]
  ·have:v.kind=2:=by simpa using h2
   simp[this]
  ·have:v.kind=3:=by simpa using h3
   exact ac.mono λr hr=>key _ (by rw[hr];simp[this])
  ·have:v.kind=4:=by simpa using h4
   exact ae.mono λr hr=>key _ (by rw[hr];simp[this])
  ·have:v.kind=7:=by simpa using h7
   exact af.mono λr hr=>key _ (by rw[hr];simp[this])
  ·have ai:v.kind≠1:=by simpa using h1
   have al:v.kind≠2:=by simpa using h2
   have ah:v.kind≠3:=by simpa using h3
   have ak:v.kind≠4:=by simpa using h4
   have aj:v.kind≠7:=by simpa using h7
   simp[ai,al,ah,ak,aj]
theorem zge(h:k<l.length):l[((k:Int)).toNat]?=some l[k]:=by rw[Ad,Aj h]
theorem zb8(hk:k<ks.length):jv (ks.take (k+1))=(jv (ks.take k)&&(xe (lb ks[k]) && !decide (ks[k]∈ks.take k))):=by
 unfold jv
 rw[An hk,CV]
 have:decide (BJ k ks++[ks[k]]).Nodup=(decide (BJ k ks).Nodup && !decide (ks[k]∈ks.take k)):=by
  rw[AB]
  simp only[decide_eq_true_eq,AI,Ce,decide_eq_false_iff_not,A0]
  constructor
  ·rintro⟨h1,_,h3⟩
   exact⟨h1,λO=>h3 _ O _ (by simp) rfl⟩
  ·rintro⟨h1,O⟩
   exact⟨h1,by simp,λa ha b hb e=>O (by simp at hb;rw[<-hb,<-e];exact ha)⟩
 rw[this]
 simp only[CK,List.all_nil,CL]
 cases(List.all (BJ k ks) λk=>xe (lb k)) <;> cases xe (lb ks[k]) <;> simp
theorem zli(k:Nat)(h:jv (ks.take k)=false):jv ks=false:=by
 cases hks:jv ks with
 |false=>rfl
 |true=>
  unfold jv at hks h
  rw[AI,decide_eq_true_eq]at hks
  have h1:((ks.take k).all λk=>xe (lb k))=true:=by
   rw[AU]at hks ⊢
   exact λx hx=>hks.1 x (Bi hx)
  have h2:(ks.take k).Nodup:=hks.2.sublist (List.take_sublist _ _)
  rw[h1,decide_eq_true h2]at h;cases h
set_option maxHeartbeats 1000000 in
theorem z2k(hg:GL gl)(hv:Sm v)(h:R (zw v)):PC Tp gl 106 [Arg.mk .tree v] [.bool] R:=by
 refine PC.bd λaz=>?_
 have aE:v.keys.length<=140737488355328:=(az ⟨.tree,v⟩ (by simp)).1
 apply zdo
 have ht:(lb v.text).length<=1152921504606846976:=by have:=hv.text;omega
 have key:∀b,b=zw v->R b:=λb hb=>by rw[hb];exact h
 have ak:=z4b (gl:=gl) (l:=lb v.text) (R:=λr=>r=xe (lb v.text)) (by omega) rfl
 have ai:=zrn (gl:=gl) (s:=lb v.text) (R:=λr=>r=(nmB (zpk (lb v.text)).1,(zpk (lb v.text)).2)) ht rfl
 rw[zaq]at ak ai
 simp only[z4g,qcb,z97,show(⟨#[116,114,117,101]⟩:Bt)=bl [116,114,117,101]from rfl,show(⟨#[102,97,108,115,101]⟩:Bt)=bl [102,97,108,115,101]from rfl,z2j]
 have au:∀n:Int,(v.kind != n)=!decide (v.kind=n):=λn=>by rw[bne,z4g]
 simp only[au]
 refine⟨λhx=>key _ ?_,λhx=>?_⟩
 ·unfold zw
  rcases Dd v.keys.isEmpty with hk|hk <;> rcases Dd v.items.isEmpty with hi|hi <;> simp[hk,hi]at hx ⊢
  all_goals grind
 ·intro K hK
  have O:(v.kind≠6->v.keys.isEmpty=true)/\(v.kind≠6->v.kind≠5->v.items.isEmpty=true):=by
   rcases Dd v.keys.isEmpty with hk|hk <;> rcases Dd v.items.isEmpty with hi|hi <;> simp[hk,hi]at hx ⊢ <;> grind
  unfold zw at key
  have af:∀b,(b=true↔v.kind=1\/v.kind=5)->K b:=by
   intro b hb
   refine hK b ⟨λap=>key _ ?_,λac=>?_⟩
   ·rcases hb.1 ap with h1|h5
    ·have a:=O.1 (by omega);have c:=O.2 (by omega) (by omega)
     simp[h1,a,c]
    ·have a:=O.1 (by omega)
     simp[h5,a]
   ·have al:v.kind≠1/\v.kind≠5:=by
     constructor
     ·intro e;rw[hb.2 (.inl e)]at ac;cases ac
     ·intro e;rw[hb.2 (.inr e)]at ac;cases ac
    refine⟨λh2=>key _ ?_,λh2=>⟨λh3=>?_,λh3=>⟨λh4=>?_,λh4=>⟨λh7=>?_,λh7=>⟨λh6=>?_,λh6=>key _ ?_⟩⟩⟩⟩⟩
    ·have:v.kind=2:=by simpa using h2
     have a:=O.1 (by omega);have c:=O.2 (by omega) (by omega)
     simp[this,a,c]
    ·have:v.kind=3:=by simpa using h3
     have a:=O.1 (by omega);have c:=O.2 (by omega) (by omega)
     exact ai.mono λr hr=>key _ (by rw[hr];simp[this,a,c])
    ·have:v.kind=4:=by simpa using h4
     have a:=O.1 (by omega);have c:=O.2 (by omega) (by omega)
     exact ak.mono λr hr=>key _ (by rw[hr];simp[this,a,c])
    ·have:v.kind=7:=by simpa using h7
     have a:=O.1 (by omega);have c:=O.2 (by omega) (by omega)
     refine ai.mono λr hr=>?_
     rw[hr]
     refine zyz (n:=(zpk (lb v.text)).1) (Qg _ ht) (key _ ?_)
     simp only[Ba]
     rw[if_neg (by omega),if_neg (by omega),if_neg (by omega),if_neg (by omega),if_neg (by omega),if_neg (by omega),if_pos this,a,c,CL,CL]
     unfold ztc;rfl
    ·have aj:v.kind=6:=by simpa using h6
     simp only[aj]at key
     have aa:∀b,b=(jv v.keys&&decide (v.keys.length=v.items.length)&&lb v.text==[])->R b:=key
     refine⟨λi=>∃k:Nat,i=k/\k<=v.keys.length/\jv (v.keys.take k)=true,λi=>v.keys.length-i.toNat,⟨0,rfl,by omega,by simp[jv]⟩,?_⟩
     rintro i ⟨k,rfl,hk,ah⟩
     refine⟨λhc=>?_,λhc=>?_⟩
     ·have Z:k<v.keys.length:=by simp at hc;omega
      refine⟨v.keys[k],⟨by omega,zge Z⟩,?_⟩
      have hu:=z4b (gl:=gl) (l:=lb v.keys[k]) (R:=λr=>r=xe (lb v.keys[k])) (by have:=hv.key (Ao Z);omega) rfl
      rw[zaq]at hu
      refine hu.mono λr hr=>⟨λhq=>aa _ ?_,λhq=>?_⟩
      ·have:jv v.keys=false:=zli (k+1) (by rw[zb8 Z,<-hr];simp at hq;simp[hq])
       simp[this]
      ·have aA:xe (lb v.keys[k])=true:=by rw[<-hr];simpa using hq
       refine⟨λi=>∃j:Nat,i=j/\j<=k/\v.keys[k]∉v.keys.take j,λi=>k-i.toNat,⟨0,rfl,by omega,by simp⟩,?_⟩
       rintro i ⟨j,rfl,hj,ae⟩
       refine⟨λhd=>?_,λhd=>?_⟩
       ·have aB:j<k:=by simp at hd;omega
        refine⟨v.keys[j],⟨by omega,zge (by omega)⟩,v.keys[k],⟨by omega,zge Z⟩,λhe=>aa _ ?_,λhe=>?_⟩
        ·have aD:v.keys[j]=v.keys[k]:=by
          have:=z2j v.keys[j] (lb v.keys[k])
          rw[zaq]at this
          rw[this]at he
          exact zk9.1 (by simpa using he)
         have:jv v.keys=false:=zli (k+1) (by
          rw[zb8 Z]
          have hm:v.keys[k]∈v.keys.take k:=by
           rw[<-aD,List.mem_take_iff_getElem]
           exact⟨j,by omega,rfl⟩
          simp[hm])
         simp[this]
        ·have am:v.keys[j]≠v.keys[k]:=by
          intro e
          rw[e]at he
          simp at he
         rw[yz aB (by omega)]
         refine⟨⟨j+1,rfl,by omega,?_⟩,by simp only[Ad];omega⟩
         rw[An (by omega),Am,Cn]
         exact λe=>e.elim ae λe=>am e.symm
       ·have an:j=k:=by simp at hd;omega
        subst an
        rw[yz Z (by omega)]
        refine⟨⟨j+1,rfl,by omega,?_⟩,by simp only[Ad];omega⟩
        rw[zb8 Z,ah,aA,decide_eq_false ae];rfl
     ·have Z:k=v.keys.length:=by simp at hc;omega
      subst Z
      rw[AE]at ah
      refine aa _ ?_
      rw[ah,Ba,Bf,Bool.and_comm]
      congr 1
      rw[AB,decide_eq_true_eq,decide_eq_true_eq];omega
    ·have aC:v.kind≠2:=by simpa using h2
     have ar:v.kind≠3:=by simpa using h3
     have ay:v.kind≠4:=by simpa using h4
     have ax:v.kind≠7:=by simpa using h7
     have aj:v.kind≠6:=by simpa using h6
     simp[al.1,al.2,aC,ar,ay,ax,aj]
  refine⟨λh1=>af _ (by simp at h1;simp[h1]),λh1=>af _ (by simp at h1;simp[h1])⟩
theorem ziy{gl:Fr}(hg:GL gl)(O:Bool)(v:Tr)(hv:Sm v){R:Bool->Prop}(h:R (Qk (λx=>zw x&&(O||decide (x.kind≠7))) v)):PC Tp gl 67 [Arg.mk .tree v,Arg.mk .bool O] [.bool] R:=by
 apply zbx
 rw[qj]
 have ae:=hv.items
 rw[ziq,Xr]at h
 refine z2k hg hv ⟨λhx=>?_,λhx=>?_⟩
 ·have:(zw v&&(O||decide (v.kind≠7)))=false:=by
   rw[z4g]at hx
   cases hn:zw v <;> cases O <;> simp[hn]at hx ⊢
   exact hx
  rw[this]at h;exact h
 ·have ht:(zw v&&(O||decide (v.kind≠7)))=true:=by
   rw[z4g]at hx
   cases hn:zw v <;> cases O <;> simp[hn]at hx ⊢
   exact hx
  rw[ht,Bf]at h
  refine⟨λi=>∃k:Nat,i=k/\k<=v.items.length/\(v.items.take k).all (Qk (λx=>zw x&&(O||decide (x.kind≠7))))=true,λi=>v.items.length-i.toNat,⟨0,rfl,by omega,by simp⟩,?_⟩
  rintro i ⟨k,rfl,hk,aa⟩
  refine⟨λhc=>?_,λhc=>?_⟩
  ·have Z:k<v.items.length:=by simp at hc;omega
   refine⟨v.items[k],⟨by omega,Yo Z⟩,?_⟩
   rw[qj]
   have hm:v.items[k]∈v.items:=Ao Z
   have ac:=yh hm
   refine ziy hg O v.items[k] (hv.item hm) ⟨λhq=>?_,λhq=>?_⟩
   ·have:v.items.all (Qk (λx=>zw x&&(O||decide (x.kind≠7))))=false:=by
     rw[DK]
     exact⟨_,hm,by simpa using hq⟩
    rw[this]at h;exact h
   ·rw[yz Z (by omega)]
    refine⟨⟨k+1,rfl,by omega,?_⟩,by simp only[Ad];omega⟩
    rw[An Z,CV,aa,Bf,CK,List.all_nil,CL]
    simpa using hq
  ·have Z:k=v.items.length:=by simp at hc;omega
   subst Z
   rw[AE]at aa
   rw[aa]at h;exact h
termination_by tsz v
theorem zlj{p q:Tr->Bool}(h:∀x,p x=q x)(v:Tr):Qk p v=Qk q v:=by
 have:p=q:=funext h
 rw[this]
theorem zgw(hg:GL gl)(hv:Sm v)(h:R (qm v)):PC Tp gl 107 [Arg.mk .tree v] [.bool] R:=by
 apply zdj
 rw[qj]
 refine zm6 v hv.sz ⟨λr=>r=(tdp v:Int),λ_=>ziw v hv.sz rfl,λr hr=>⟨λb=>b=Qk zw v,λ_=>ziy hg true v hv (zlj (λx=>by simp) v),λb hb=>?_⟩⟩
 have e:(bif decide ((tsz v:Int)<=4096)then decide (r<=32)else false)=Zi v:=by
  unfold Zi
  cases hc:decide ((tsz v:Int)<=4096)with
  |false=>(have:decide (tsz v<=4096)=false:=by simp at hc ⊢;omega);rw[this];rfl
  |true=>
   have:decide (tsz v<=4096)=true:=by simp at hc ⊢;omega
   rw[this,hr hc,cond_true,Bf,AB];simp;omega
 rw[e]at hb ⊢
 unfold qm at h
 cases hs:Zi v with
 |false=>rw[hs]at h;exact h
 |true=>rw[hs]at h;rw[cond_true,hb hs];exact h
theorem z2l(hF:ya Tp F=true){p:Tr->Bool}(hp:∀x,Sm x->PC Tp gl F [Arg.mk .tree x] [.bool] (λr=>r=p x))(n:Nat):∀(v:Tr),tsz v<=n->Sm v->∀{h:zb} {M:Fr} {u:Value},Fr.le gl M->AgM M h->RdV M .tree v u ->
  PX Tp 45 #[u,.func (.func F) #[] #[]] h M [.bool] (λr=>r=Qk p v):=by
 induction n with
 |zero=>intro v hn;have:=zb5 v;omega
 |succ n ih=>
 intro v hn hv h M u hM ag hu
 have aA:=hu
 obtain⟨sk,si,rfl,rk,ri⟩:=yp hu
 apply PX.of
 apply zj5 v.kind v.text sk si F #[] #[]
 intro h1 h2
 have L1:Later h M h1 M:=Later.push ag _
 have Z:Later h1 M h2 (Mx M h1.size #[.func (.func F) #[] #[]]):=Later.frz L1.ag _ _
 have s1:h1.size=h.size+1:=Ai _
 have s2:h2.size=h1.size+1:=Ai _
 have ae:ze h2 ⟨h.size,0,none⟩ 0 [.int .i64 v.kind,.string v.text,slV sk,slV si]:=z1r (h':=h2) (by have:=Z.keep;rw[s1]at this;exact this)
 have aj:∀h':zb,Keep h2.size h2 h'->zm h' (Af ⟨h.size,0,none⟩ 3)=some (slV si):=λh' k=>by
  refine z5t (h:=h) (T:=25) (cs:=[.int .i64 v.kind,.string v.text,slV sk,slV si]) ?_ rfl
  have:=Z.keep.trans k (by omega)
  rw[s1]at this;exact this
 have aa:zm h2 ⟨h1.size,0,none⟩=some (.func (.func F) #[] #[]):=Z.ag.cell (zxx _ _ _) rfl
 have an:(Mx M h1.size #[.func (.func F) #[] #[]]) h1.size=some #[.func (.func F) #[] #[]]:=zxx _ _ _
 have L2:=L1.trans Z
 clear_value h1 h2
 generalize (Mx M h1.size #[.func (.func F) #[] #[]])=M2 at *
 refine⟨_,aa,v.kind,v.text,sk,si,ae,hF,?_⟩
 refine(hp v hv).go (vs:=[.agg #[.int .i64 v.kind,.string v.text,slV sk,slV si]]) (hM.trans L2.le) L2.ag (yo (RdV.mono L2.le aA) ww) λw h3 M3 r L3 ai hr=>?_
 refine⟨r,zay ai,si,λ_=>aj h3 L3.keep,?_⟩
 have O:=L2.trans L3
 refine⟨λw h4=>∃b,w=.bool b/\(r=true->b=!(zvm p v.items))/\∃M4,Later h M h4 M4,λaB=>?_,λah=>⟨true,true,rfl,λe=>(by rw[e]at ah;cases ah),M3,O⟩,λ_ w h4 ⟨b,e,_⟩=>⟨b,e⟩,?_⟩
 ·have az:Rd M3 (.row .tree) v.items [slV si]:=Rd.mono O.le ri
  have am:M3 h1.size=some #[.func (.func F) #[] #[]]:=L3.le _ _ an
  refine(z96 (gl:=gl) L3.ag az (p:=λx=>!(Qk p x)) λx hx=>⟨by kernel_rfl,λh' M' u' L' ay=>?_⟩).go λw h4 M4 b L4 ac ak=>⟨b,zay ac,b,rfl,λ_=>?_,M4,O.trans L4⟩
  ·have aC:=yh hx
   obtain⟨sk',si',rfl,ar,ap⟩:=yp ay
   apply PX.of
   show XC Tp 81 #[.agg #[.int .i64 x.kind,.string x.text,slV sk',slV si'],.pointer (some ⟨h1.size,0,none⟩)] h' _
   apply zgc x.kind x.text sk' si'
   intro g1
   have G1:Later h' M' g1 M':=Later.push L'.ag _
   have al:ze g1 ⟨h'.size,0,none⟩ 0 [.int .i64 x.kind,.string x.text,slV sk',slV si']:=z1r (Keep.refl _ _)
   have ax:zm g1 ⟨h1.size,0,none⟩=some (.func (.func F) #[] #[]):=G1.ag.cell (L'.le _ _ am) rfl
   clear_value g1
   refine⟨x.kind,x.text,sk',si',al,_,ax,?_⟩
   refine(ih x (by omega) (hv.item hx) (h:=g1) (M:=M') ((hM.trans O.le).trans L'.le) G1.ag (yd ar ap)).go λw h5 M5 b L5 af au=>⟨b,zay af,M5,_,G1.trans L5,zax.2 (rdBool _),by rw[au]⟩
  ·rw[ak,Xr,AB];simp
 ·rintro b h4 ⟨b',e,hb,M4,L4⟩
  cases e
  refine⟨M4,_,L4,zax.2 (rdBool _),?_⟩
  rw[ziq,<-hr]
  cases r with
  |false=>rfl
  |true=>rw[hb rfl];simp
theorem ztk(hF:ya Tp F=true){p:Tr->Bool}(hp:∀x,Sm x->PC Tp gl F [Arg.mk .tree x] [.bool] (λr=>r=p x))(v:Tr)(hv:Sm v){h:zb}{M:Fr}{u:Value}(hM:Fr.le gl M)(ag:AgM M h)(hu:RdV M .tree v u):
  PX Tp 45 #[u,.func (.func F) #[] #[]] h M [.bool] (λr=>r=Qk p v):=z2l hF hp (tsz v) v (Ae _) hv hM ag hu
theorem ziz(hg:GL gl)(hv:Sm v)(hR:R (qm v)):PC Tp gl 42 [Arg.mk .tree v] [.bool] R:=by
 intro h M vs hM ag ha
 match vs,ha with
 |[u],⟨hu,_⟩=>
  have hu:RdV M .tree v u:=hu
  have af:=hu
  obtain⟨sk,si,rfl,rk,ri⟩:=yp hu
  apply PX.of
  apply zm7 v.kind v.text sk si
  intro h1
  have L1:Later h M h1 M:=Later.push ag _
  have s1:h1.size=h.size+1:=Ai _
  have Z:∀h':zb,Keep h1.size h1 h'->ze h' ⟨h.size,0,none⟩ 0 [.int .i64 v.kind,.string v.text,slV sk,slV si]:=λh' k=>z1r (h':=h') (by rw[s1]at k;exact k)
  clear_value h1
  refine⟨v.kind,v.text,sk,si,Z h1 (Keep.refl _ _),?_⟩
  have ah:PC Tp gl 44 [Arg.mk .tree v] [.bool] (λr=>r=Zi v):=ztj hv rfl
  refine ah.go (vs:=[.agg #[.int .i64 v.kind,.string v.text,slV sk,slV si]]) (hM.trans L1.le) L1.ag (yo (RdV.mono L1.le af) ww) λw h2 M2 r L2 ac hr=>?_
  refine⟨r,zay ac,v.kind,v.text,sk,si,λ_=>Z h2 L2.keep,?_⟩
  have O:=L1.trans L2
  refine⟨λw h4=>∃b,w=.bool b/\(r=true->b=Qk zw v)/\∃M4,Later h M h4 M4,λaj=>?_,λae=>⟨true,true,rfl,λe=>(by rw[e]at ae;cases ae),M2,O⟩,λ_ w h4 ⟨b,e,_⟩=>⟨b,e⟩,?_⟩
  ·refine(ztk (F:=47) (by kernel_rfl) (p:=zw) (λx hx=>zy2 hg hx rfl) v hv (hM.trans O.le) L2.ag (RdV.mono O.le af)).go λw h3 M3 b L3 aa ai=>⟨b,zay aa,b,rfl,λ_=>ai,M3,O.trans L3⟩
  ·rintro b h4 ⟨b',e,hb,M4,L4⟩
   cases e
   refine⟨M4,_,L4,zax.2 (rdBool _),?_⟩
   unfold qm at hR
   rw[<-hr]at hR
   cases r with
   |false=>exact hR
   |true=>rw[cond_true,hb rfl];exact hR
end
section
variable {h:zb} {e:TypeId} {M:Fr} {K:Value -> zb -> Prop} {cs:Array Value} {k:Nat} {vs:List Value}
theorem elemStr:ElemT Tp 22 9 (.string ⟨#[]⟩) 1 16:=⟨by kernel_rfl,⟨Tryz.t9,by kernel_rfl,by kernel_rfl,by kernel_rfl,by kernel_rfl⟩,rfl,by omega⟩
theorem elemTree:ElemT Tp 23 25 (.agg #[.int .i64 0,.string ⟨#[]⟩,.slice none 0 0,.slice none 0 0]) 4 72:=⟨by kernel_rfl,⟨Tryz.t25,by kernel_rfl,by kernel_rfl,by kernel_rfl,by kernel_rfl⟩,rfl,by omega⟩
theorem zpq{h h':zb}{sz:Nat}(k:Keep (h.size+1) (h.push (.cells #[] e)) h')(base:Nat)(hb:base<=h.size):Owns h' base e sz ⟨some ⟨h.size,0,none⟩,0,0⟩ []:=by
 refine⟨by simp,.inr ⟨h.size,0,#[],rfl,hb,?_,Ae _,BP _,by simp,by simp⟩⟩
 show h'[h.size]?=_
 rw[k.get _ (by omega)];exact wu _ _
theorem z2m(ag:AgM M h){ks:List Bt}{s:Sl}(hr:Rd M (.row .str) ks [slV s])(hx:ks.length*16<=140737488355328)
  (hK:∀(s':Sl) (h':zb),Keep h.size h h'->s'.len=ks.length->Owns h' h.size 9 1 s' (ks.map A5)->K (slV s') h'):XC Tp 99 #[slV s] h K:=by
 obtain⟨O,ac,ae⟩:=rowLen hr
 obtain⟨s2,e2,_,_,cells,hc,ha⟩:=Rd.rowC ag hr
 simp only[slV,AJ]at e2
 have Z:s2.a=s.a:=e2.1.symm
 have:=zfu hc
 subst this
 rw[Z]at ha
 apply Qt s
 refine⟨λhn=>?_,λhn=>?_⟩
 ·have aa:ks=[]:=by
   rcases ha with h0|⟨b,o,e1,_⟩
   ·simpa using h0
   ·rw[e1]at hn;cases hn
  subst aa
  exact hK ⟨none,0,0⟩ h (Keep.refl _ _) rfl (Owns.nil _ _ _ _)
 ·intro g
  have kg:Keep h.size h g:=Keep.push _ _ (Ae _)
  have sg:g.size=h.size+1:=Ai _
  have og:Owns g h.size 9 1 ⟨some ⟨h.size,0,none⟩,0,0⟩ []:=zpq (Keep.refl _ _) _ (Ae _)
  clear_value g
  refine zen elemStr og (src:=⟨s.a,s.len,s.cap⟩) (news:=ks.map A5) (n:=h.size) (ha.keep kg) (by simp[O]) (by simp[Value.oneCell']) (by simp only;omega) (by simp only;omega) (by omega) λs' h' e1 e2 e3 e4 e5=>⟨s',rfl,hK s' h' ?_ (by simp at e1;omega) (by simpa using e2)⟩
  refine⟨by omega,λi hi=>(e3 i (by omega) λp hp=>?_).trans (kg.get i hi)⟩
  simp only[Ab]at hp
  subst hp;simp only;omega
theorem zy3(ag:AgM M h){xs:List Tr}{s:Sl}(hr:Rd M (.row .tree) xs [slV s])(hx:xs.length*72<=140737488355328)
  (hK:∀(s':Sl) (h':zb) (cells:List Value),Keep h.size h h'->s'.len=xs.length->Owns h' h.size 25 4 s' cells->RowC M .tree xs cells->K (slV s') h'):XC Tp 100 #[slV s] h K:=by
 obtain⟨Z,ae,af⟩:=rowLen hr
 obtain⟨s2,e2,_,_,cells,hc,ha⟩:=Rd.rowC ag hr
 simp only[slV,AJ]at e2
 have aa:s2.a=s.a:=e2.1.symm
 rw[aa]at ha
 have O:cells.length=xs.length*4:=hc.1
 apply Za s
 refine⟨λhn=>?_,λhn=>?_⟩
 ·have ac:cells=[]:=by
   rcases ha with h0|⟨b,o,e1,_⟩
   ·exact h0
   ·rw[e1]at hn;cases hn
  subst ac
  have:xs.length=0:=by simp at O;omega
  exact hK ⟨none,0,0⟩ h [] (Keep.refl _ _) (by simp[this]) (Owns.nil _ _ _ _) hc
 ·intro g
  have kg:Keep h.size h g:=Keep.push _ _ (Ae _)
  have sg:g.size=h.size+1:=Ai _
  have og:Owns g h.size 25 4 ⟨some ⟨h.size,0,none⟩,0,0⟩ []:=zpq (Keep.refl _ _) _ (Ae _)
  clear_value g
  refine zen elemTree og (src:=⟨s.a,s.len,s.cap⟩) (news:=cells) (n:=h.size) (ha.keep kg) (by rw[O,Z]) hc.one (by simp only;omega) (by simp only;omega) (by omega) λs' h' e1 e2 e3 e4 e5=>⟨s',rfl,hK s' h' cells ?_ (by simp at e1;omega) (by simpa using e2) hc⟩
  refine⟨by omega,λi hi=>(e3 i (by omega) λp hp=>?_).trans (kg.get i hi)⟩
  simp only[Ab]at hp
  subst hp;simp only;omega
theorem Owns.blk{base:Nat}{sz:Nat}{s:Sl}{cells:List Value}(H:Owns h base e sz s cells):(s.len=0/\cells=[]/\s.cap=0)\/∃b cs,s.a=some ⟨b,0,none⟩/\base<=b/\Blk h b cs/\s.cap*sz<=cs.size/\cut cs 0 (s.len*sz)=cells/\s.len<=s.cap:=by
 rcases H.2 with⟨hv,h0⟩|⟨g,cap,O,hv,hb,hg,Z,hm,aa,ht⟩
 ·left
  have:=H.1
  rw[h0,Da]at this
  simp only[AJ]at hv
  exact⟨h0,Az this,hv.2.2⟩
 ·right
  simp only[AJ]at hv
  refine⟨g,O,hv.1,hb,⟨e,hg⟩,?_,by unfold cut;rw[AQ];exact ht,by rw[hv.2.2];exact Z⟩
  rw[aa,hv.2.2];exact Ae _
theorem z98{n i k:Nat}(h:i+k<=n):(B0 i (cut cs 0 n)).take k=cut cs i k:=by
 unfold cut
 rw[AQ,Ed,Ee,CU (by omega)]
theorem zj7{h:zb}{b:Nat}{cs:Array Value}(H:Blk h b cs):∀{vs:List Value} {o i:Nat},cut cs (o+i) vs.length=vs->ze h ⟨b,o,none⟩ i vs
 |[],_,_,_=>trivial
 |v::vs,o,i,e=>by
  unfold cut at e
  have O:o+i<cs.toList.length:=by
   rcases AX (o+i) cs.toList.length with hh|hh
   ·exact hh
   ·rw[A6 hh]at e;simp at e
  rw[AC O,AR,B4]at e
  injection e with e1 e2
  refine⟨?_,zj7 H (i:=i+1) e2⟩
  refine H.cellAdd ?_
  rw[AP (by simpa using O),<-e1];simp
theorem zrt:cut vs.toArray 0 vs.length=vs:=by unfold cut;simp
theorem z6q:ji Tp 25=true:=by kernel_rfl
theorem z6r:je Tp 25=4:=by kernel_rfl
theorem ztl:ji Tp 22=true:=by kernel_rfl
theorem z4h:je Tp 22=1:=by kernel_rfl
theorem zlk:ji Tp 23=true:=by kernel_rfl
theorem zll:je Tp 23=1:=by kernel_rfl
def zc(k:Int)(s:Bt)(sk si:Sl):List Value:=[.int .i64 k,.string s,slV sk,slV si]
theorem ze9(k:Int)(s:Bt)(sk si:Sl):∀u∈zc k s sk si,u.oneCell'=true:=by
 intro u hu
 simp[zc]at hu
 rcases hu with rfl|rfl|rfl|rfl <;> simp[Value.oneCell',slV]
theorem Xt(k:Int)(s:Bt)(sk si:Sl):(Ex #[.int .i64 k,.string s,slV sk,slV si]).cells.toList=zc k s sk si:=rfl
theorem zru(h:cs.size=vs.length):upd cs 0 vs=vs.toArray:=by
 unfold upd
 rw[Cr,BL,AD,<-h]
 have:cs.toList.drop cs.size=[]:=A6 (by simp)
 rw[this,Bc]
theorem qa{b:Nat}(H:Blk h b cs)(hn:cs.size=4)(k:Int)(s:Bt)(sk si:Sl){K:zb->Prop}
  (hK:∀h':zb,Blk h' b (zc k s sk si).toArray->h'.size=h.size->(∀j,j≠b->h'[j]?=h[j]?)->K h'):XRunU Tp (Al 25 (.pointer (some ⟨b,0,none⟩)) (.agg #[.int .i64 k,.string s,.slice sk.a sk.len sk.cap,.slice si.a si.len si.cap])) h K:=
 xr (vs:=zc k s sk si) z6q H (Xt k s sk si) z6r (by rw[hn];exact Ae _) (ze9 k s sk si) λh' e1 e2 e3=>hK h' (by rw[zru (by rw[hn];rfl)]at e1;exact e1) e2 e3
theorem Wq{bf:Nat->List Nat}{k x:Nat}:x∈(AZ k).flatMap bf↔∃j,j<k/\x∈bf j:=by simp[Bj]
structure CI (h2 h':zb) (M:Fr) (v:Tr) (b1 b2:Nat) (s1 s2:Sl) (bk bb:List Nat) (b:Nat) (cs:Array Value) (bf:Nat->List Nat) (k:Nat):Prop where
 ag:AgM M h'
 box1:Blk h' b1 (zc v.kind v.text s1 s2).toArray
 box2:∃c2:Array Value,Blk h' b2 c2/\c2.size=4
 keys:OKeys h' v.keys bk s1
 hz:(v.items=[]/\bb=[]/\s2.cap=0)\/(bb=[b]/\s2.a=some ⟨b,0,none⟩/\Blk h' b cs/\s2.cap*4<=cs.size)
 did:∀i (hx:i<v.items.length),i<k->OT h' v.items[i] (bf i) (cut cs (i*4) 4)
 todo:∀i (hx:i<v.items.length),k<=i->RdV M .tree v.items[i] (.agg (cut cs (i*4) 4).toArray)
 nd:(bk++(bb++(AZ k).flatMap bf)).Nodup
 big:∀x∈bk++(bb++(AZ k).flatMap bf),h2.size<=x
set_option maxHeartbeats 4000000 in
theorem ztm(n:Nat):∀(v:Tr),tsz v<=n->Sm v->∀{h:zb} {M:Fr} {u:Value},AgM M h->RdV M .tree v u ->
  XC Tp 58 #[u] h λw h'=>Keep h.size h h'/\∃bs sk si,w=.agg #[.int .i64 v.kind,.string v.text,slV sk,slV si]/\OT h' v bs (zc v.kind v.text sk si)/\∀b∈bs,h.size<=b:=by
 induction n with
 |zero=>intro v hn;have:=zb5 v;omega
 |succ n ih=>
 intro v hn hv h M u ag hu
 obtain⟨sk,si,rfl,rk,ri⟩:=yp hu
 have bm:=hv.items
 have bo:=hv.keys
 apply zj6 v.kind v.text sk si
 intro h1 h2
 have kh:Keep h.size h h2:=(Keep.push h (.cells (zc v.kind v.text sk si).toArray 25) (Ae _)).trans (Keep.push h1 _ (Ae _)) (by show h.size<=h1.size;simp[h1])
 have s1:h1.size=h.size+1:=Ai _
 have s2:h2.size=h1.size+1:=Ai _
 have b1:Blk h2 h.size (zc v.kind v.text sk si).toArray:=by
  have:Blk h1 h.size (zc v.kind v.text sk si).toArray:=Blk.new _ _ _
  exact this.ofKeep (Keep.push _ _ (Ae _))
 have b2:Blk h2 h1.size (zc 0 ⟨#[]⟩ ⟨none,0,0⟩ ⟨none,0,0⟩).toArray:=Blk.new _ _ _
 clear_value h1 h2
 have aE:=ag.keep kh
 refine⟨sk,b1.cellAdd (o:=0) (k:=2) rfl,si,b1.cellAdd (o:=0) (k:=3) rfl,?_⟩
 refine z2m aE rk (by omega) λc1 h3 k3 l3 o3=>⟨c1,rfl,k3,?_⟩
 have aV:=aE.keep k3
 refine zy3 aV ri (by omega) λc2 h4 cells k4 l4 o4 rc=>⟨c2,rfl,?_⟩
 have aF:=(b1.ofKeep k3).ofKeep k4
 have az:=(b2.ofKeep k3).ofKeep k4
 have z3:=k3.size
 have z4:=k4.size
 rw[show Af ⟨h.size,0,none⟩ 2=⟨h.size,2,none⟩from zo _ _ _,show Af ⟨h.size,0,none⟩ 3=⟨h.size,3,none⟩from zo _ _ _]
 refine xr (vs:=[slV c1]) ztl aF rfl z4h (by simp[zc]) (by simp[Value.oneCell',slV]) λh5 aB z5 f5=>?_
 refine xr (vs:=[slV c2]) zlk aB rfl zll (by simp[zc,upd]) (by simp[Value.oneCell',slV]) λh6 ah z6 f6=>?_
 have be:upd (upd (zc v.kind v.text sk si).toArray 2 [slV c1]) 3 [slV c2]=(zc v.kind v.text c1 c2).toArray:=by simp[upd,zc]
 rw[be]at ah
 have aa:∀j,j≠h.size->h6[j]?=h4[j]?:=λj hj=>(f6 j hj).trans (f5 j hj)
 refine⟨c2,ah.cell (o:=3) rfl,?_⟩
 have au:Keep h.size h h6:=⟨by omega,λi hi=>by rw[aa i (by omega),k4.get i (by omega),k3.get i (by omega)];exact kh.get i hi⟩
 obtain⟨bk,aj,aI,aA,aQ⟩:∃bk,OKeys h6 v.keys bk c1/\bk.Nodup/\(∀x∈bk,h2.size<=x)/\(∀x∈bk,x<h3.size):=by
  rcases Owns.blk o3 with⟨h0,hc,am⟩|⟨b,cs,e1,e2,e3,e4,e5,e6⟩
  ·exact⟨[],⟨l3,by omega,by(have:v.keys.length=0:=by omega);omega,.inl ⟨by simpa using hc,rfl,am⟩⟩,Ea,by simp,by simp⟩
  ·refine⟨[b],⟨l3,by omega,by omega,.inr ⟨b,cs,rfl,e1,(e3.ofKeep k4).keep (aa b (by omega)),by omega,by rw[<-l3];simpa using e5⟩⟩,by simp,by simpa using e2,by simpa using e3.lt⟩
 obtain⟨bb,b,cs,aG,O,ap,ay,ac⟩:∃(bb:List Nat) (b:Nat) (cs:Array Value),v.items.length<=c2.cap/\((v.items=[]/\bb=[]/\c2.cap=0)\/(bb=[b]/\c2.a=some ⟨b,0,none⟩/\Blk h6 b cs/\c2.cap*4<=cs.size))/\(∀i,i<v.items.length->cut cs (i*4) 4=(cells.drop (i*4)).take 4)/\bb.Nodup/\∀x∈bb,h3.size<=x:=by
  rcases Owns.blk o4 with⟨h0,hc,am⟩|⟨b,cs,e1,e2,e3,e4,e5,e6⟩
  ·have:v.items.length=0:=by omega
   exact⟨[],0,#[],by omega,.inl ⟨Az this,rfl,am⟩,λi hi=>by omega,Ea,by simp⟩
  ·refine⟨[b],b,cs,by omega,.inr ⟨rfl,e1,e3.keep (aa b (by omega)),e4⟩,λi hi=>?_,by simp,by simpa using e2⟩
   rw[<-e5,z98 (by rw[l4];omega)]
 have aH:CI h2 h6 M v h.size h1.size c1 c2 bk bb b cs (λ_=>[]) 0:={
  ag:=ag.keep au,box1:=ah,box2:=⟨_,az.keep (aa _ (by omega)),rfl⟩,keys:=aj,hz:=O,did:=λi _ hi=>by omega
  todo:=λi hx _=>by
   rw[ap i hx]
   have:=rc.2 i hx
   unfold RdV;simp only[zcl,if_true]
   exact⟨_,rfl,this⟩
  nd:=by
   simp only[List.range_zero,List.flatMap_nil,Bc]
   rw[A0]
   exact⟨aI,ay,λx hx y hy e=>by have:=aQ x hx;have:=ac y hy;omega⟩
  big:=by
   simp only[List.range_zero,List.flatMap_nil,Bc,Am]
   rintro x (hx|hx)
   ·exact aA x hx
   ·have:=ac x hx;omega }
 refine⟨λi h'=>∃(k:Nat) (cs:Array Value) (bf:Nat->List Nat),i=(k:Int)/\k<=v.items.length/\Keep h.size h h'/\h2.size<=h'.size/\CI h2 h' M v h.size h1.size c1 c2 bk bb b cs bf k,λi _=>v.items.length-i.toNat,⟨0,cs,_,rfl,by omega,au,by omega,aH⟩,?_⟩
 clear aH ap O aj ah aB aF az aa f5 f6 o3 o4 rc
 rintro i h7 ⟨k,cs,bf,rfl,hk,k7,z7,I⟩
 refine⟨λhc=>?_,λhc=>?_⟩
 ·have Z:k<v.items.length:=by simp at hc;omega
  rcases I.hz with⟨h0,_⟩|⟨O,e1,hb,aM⟩
  ·rw[h0]at Z;simp at Z
  have ap:v.items.length*4<=cs.size:=by omega
  have ba:=I.todo k Z (Ae _)
  obtain⟨tk,ti,q,aS,a8⟩:=yp ba
  have aO:cut cs (k*4) 4=zc v.items[k].kind v.items[k].text tk ti:=by
   injection q with q
   exact congrArg CH q
  refine⟨⟨b,0,none⟩,⟨e1,by omega,by omega⟩,v.items[k].kind,v.items[k].text,tk,ti,?_,?_⟩
  ·rw[zo,Ad,AD]
   exact zj7 hb (vs:=zc v.items[k].kind v.items[k].text tk ti) (o:=k*4) (i:=0) aO
  ·intro h8
   have z8:h8.size=h7.size+1:=Ai _
   have k8:Keep h7.size h7 h8:=Keep.push _ _ (Ae _)
   have b8:Blk h8 h7.size (zc 0 ⟨#[]⟩ ⟨none,0,0⟩ ⟨none,0,0⟩).toArray:=Blk.new _ _ _
   clear_value h8
   refine qa b8 rfl _ _ _ _ λh9 b9 z9 f9=>?_
   have k9:Keep h7.size h7 h9:=⟨by omega,λj hj=>by rw[f9 j (by omega)];exact k8.get j hj⟩
   have box1:=I.box1.ofKeep k9
   refine⟨c2,box1.cell (o:=3) rfl,v.items[k].kind,v.items[k].text,tk,ti,zj7 b9 (vs:=zc v.items[k].kind v.items[k].text tk ti) (o:=0) (i:=0) zrt,⟨b,0,none⟩,⟨e1,by omega,by omega⟩,?_⟩
   have hm:v.items[k]∈v.items:=Ao Z
   have bq:=yh hm
   refine(ih v.items[k] (by omega) (hv.item hm) (I.ag.keep k9) (yd aS a8)).mono ?_
   rintro w h10 ⟨ai,bs,dk,di,rfl,ot,an⟩
   refine⟨v.items[k].kind,v.items[k].text,dk,di,rfl,ai,?_⟩
   have aJ:=(hb.ofKeep k9).ofKeep ai
   have bu:=ai.size
   rw[zo,Ad,AD]
   refine xr (vs:=zc v.items[k].kind v.items[k].text dk di) z6q aJ (Xt _ _ _ _) z6r (by show k*4+4<=cs.size;omega) (ze9 _ _ _ _) λbc aY bh aP=>?_
   have aN:Keep h7.size h7 h10:=k9.trans ai (by omega)
   have a1:=hb.lt
   have fr:∀x,x≠b->x<h7.size->bc[x]?=h7[x]?:=λx hx hl=>by rw[aP x hx];exact aN.get x hl
   have aD:∀x∈bk++(bb++(AZ k).flatMap bf),h2.size<=x:=I.big
   have ac:h2.size<=b:=aD b (by rw[O];simp)
   have ax:=I.nd
   rw[A0]at ax
   obtain⟨bn,aL,aZ⟩:=ax
   rw[A0]at aL
   obtain⟨bj,bp,aT⟩:=aL
   have ae:∀x∈bk++(bb++(AZ k).flatMap bf),x<h7.size:=by
    intro x hx
    rw[Am,Am]at hx
    rcases hx with hx|hx|hx
    ·obtain⟨_,_,_,q4⟩:=I.keys
     rcases q4 with⟨_,rfl,_⟩|⟨b',cs',rfl,_,e,_⟩
     ·cases hx
     ·simp at hx;subst hx;exact e.lt
    ·rw[O]at hx;simp at hx;subst hx;exact a1
    ·obtain⟨j,hj,hx⟩:=Wq.1 hx
     exact(I.did j (by omega) hj).lt x hx
   have aj:∀x∈bk,x≠b:=λx hx e=>aZ x hx b (by rw[O];simp) e
   have a6:∀j,j<k->∀x∈bf j,x≠b:=λj hj x hx e=>aT b (by rw[O];simp) x (Wq.2 ⟨j,hj,hx⟩) e.symm
   have aC:∀x∈bs,x≠b:=λx hx e=>by have:=an x hx;omega
   have ak:(AZ (k+1)).flatMap (λj=>if j=k then bs else bf j)=(AZ k).flatMap bf++bs:=by
    rw[List.range_succ,List.flatMap_append]
    congr 1
    ·have:∀(l:List Nat),(∀x∈l,x<k)->l.flatMap (λj=>if j=k then bs else bf j)=l.flatMap bf:=by
      intro l
      induction l with
      |nil=>intro _;rfl
      |cons a l aU=>
       intro hl
       rw[List.flatMap_cons,List.flatMap_cons,if_neg (by have:=hl a (by simp);omega),aU λx hx=>hl x (by simp[hx])]
     exact this _ λx hx=>by simpa using hx
    ·simp
   rw[yz Z (by omega)]
   refine⟨⟨k+1,upd cs (k*4) (zc v.items[k].kind v.items[k].text dk di),λj=>if j=k then bs else bf j,rfl,by omega,⟨by omega,λx hx=>by rw[fr x (by omega) (by omega)];exact k7.get x hx⟩,by omega,{
    ag:=λx c e=>?_,box1:=I.box1.keep (fr _ (by omega) (by have:=I.box1.lt;omega)),box2:=?_,keys:=I.keys.frame λx hx=>fr x (aj x hx) (ae x (by simp[hx])),hz:=.inr ⟨O,e1,aY,by rw[y0 (by show k*4+4<=cs.size;omega)];exact aM⟩,did:=?_,todo:=?_,nd:=?_,big:=?_ }⟩,by simp only[Ad];omega⟩
   ·have hx:=ag.lt e
    obtain⟨T,m,e'⟩:=I.ag x c e
    exact⟨T,m,by rw[fr x (by omega) (by omega)];exact e'⟩
   ·obtain⟨q,af,ar⟩:=I.box2
    exact⟨q,af.keep (fr _ (by omega) af.lt),ar⟩
   ·intro j hj a7
    by_cases al:j=k
    ·subst al
     simp only[if_true]
     have:=ziu (cs:=cs) (o:=j*4) (vs:=zc v.items[j].kind v.items[j].text dk di) (by show j*4+4<=cs.size;omega)
     rw[show(zc v.items[j].kind v.items[j].text dk di).length=4 from rfl]at this
     rw[this]
     exact ot.frame λx hx=>aP x (aC x hx)
    ·simp only[al,if_false]
     rw[Jw (by show k*4+4<=cs.size;omega) (by left;omega)]
     exact(I.did j hj (by omega)).frame λx hx=>fr x (a6 j (by omega) x hx) (ae x (by
      rw[Am,Am]
      exact .inr (.inr (Wq.2 ⟨j,by omega,hx⟩))))
   ·intro j hj a7
    rw[Jw (by show k*4+4<=cs.size;omega) (by right;show k*4+4<=j*4;omega)]
    exact I.todo j hj (by omega)
   ·rw[ak,<-AY,<-AY,A0]
    refine⟨by rw[AY];exact I.nd,ot.nodup,λx hx y hy e=>?_⟩
    have h1:=ae x (by rw[<-AY];exact hx)
    have h2:=an y hy
    omega
   ·intro x hx
    rw[ak,<-AY,<-AY,Am]at hx
    rcases hx with hx|hx
    ·exact I.big x (by rw[<-AY];exact hx)
    ·have:=an x hx;omega
 ·have Z:k=v.items.length:=by simp at hc;omega
  subst Z
  refine⟨v.kind,v.text,c1,c2,zj7 I.box1 (vs:=zc v.kind v.text c1 c2) (o:=0) (i:=0) zrt,?_⟩
  obtain⟨q,af,ar⟩:=I.box2
  refine qa af ar _ _ _ _ λh8 b8 z8 f8=>?_
  refine⟨v.kind,v.text,c1,c2,zj7 b8 (vs:=zc v.kind v.text c1 c2) (o:=0) (i:=0) zrt,⟨by omega,λx hx=>by rw[f8 x (by omega)];exact k7.get x hx⟩,_,c1,c2,rfl,?_,λx hx=>by have:=I.big x hx;omega⟩
  have ot:OT h7 (.mk v.kind v.text v.keys v.items) (bk++(bb++(AZ v.items.length).flatMap bf)) (zc v.kind v.text c1 c2):=by
   exact OT.mk (b:=b) (cs:=cs) I.keys ⟨l4,by omega,aG⟩ I.hz (λi hx=>I.did i hx hx) I.nd
  rw[qj]at ot
  exact ot.frame λx hx=>f8 x (by have:=I.big x hx;omega)
end
section
variable {gl:Fr} {R:Tr -> Prop} {l:List Tr}
theorem z4i{gl:Fr}(v:Tr)(l d:Int)(hl:0<=l/\l<=1000)(hd:0<=d/\d<=61){R:Int->Prop}(h:∀r,-1000000000000000<=r->r<=l->(0<=r->r+tks v<=l)->R r):PC Tp gl 30 [Arg.mk .tree v,Arg.mk (.int .i64) l,Arg.mk (.int .i64) d] [.int .i64] R:=by
 refine PC.bd λZ=>?_
 have hb:v.keys.length<=140737488355328/\v.items.length<=140737488355328:=Z ⟨.tree,v⟩ (by simp)
 apply zez
 refine⟨λhx=>h _ (by omega) (by omega) (by omega),λhx=>?_⟩
 have ac:d<=60:=by simp at hx;omega
 rw[w64 (n:=l-1) (by omega),w64 (by omega)]
 refine⟨λl' i=>∃k:Nat,i=k/\k<=v.items.length/\-1000000000000000<=l'/\l'<=l/\(0<=l'->l'+(1+v.keys.length+zlf (v.items.take k))<=l),λl' i=>v.items.length-i.toNat,⟨0,rfl,by omega,by omega,by omega,λ_=>by simp[zlf];omega⟩,?_⟩
 rintro l' i ⟨k,rfl,hk,h1,h2,h3⟩
 refine⟨λhc=>?_,λhc=>h l' h1 h2 λh0=>?_⟩
 ·have O:k<v.items.length/\0<=l':=by simp at hc;omega
  refine⟨v.items[k],⟨by omega,Yo O.1⟩,?_⟩
  rw[qj,w64 (by omega)]
  have aa:=yh (Ao O.1)
  refine z4i v.items[k] l' (d+1) ⟨O.2,by omega⟩ (by omega) λr r1 r2 r3=>?_
  rw[yz O.1 (by omega)]
  refine⟨⟨k+1,rfl,by omega,r1,by omega,λh0=>?_⟩,by simp only[Ad];omega⟩
  have:=r3 h0;have:=h3 O.2
  rw[zyt O.1];omega
 ·have O:k=v.items.length:=by simp at hc;omega
  subst O
  have:=h3 h0
  rw[AE]at this
  rw[z92];omega
termination_by tsz v
theorem ztn{gl:Fr}(v:Tr){R:Bool->Prop}(h:∀b,(b=true->txS v)->R b):PC Tp gl 31 [Arg.mk .tree v] [.bool] R:=by
 refine PC.bd λac=>?_
 have hb:v.keys.length<=140737488355328/\v.items.length<=140737488355328:=ac ⟨.tree,v⟩ (by simp)
 apply zbu
 refine⟨λhx=>h _ (λe=>by cases e),λhx=>?_⟩
 have ae:v.text.size<=2048:=by simp at hx;omega
 refine⟨λi=>∃k:Nat,i=k/\k<=v.keys.length/\∀x∈v.keys.take k,x.size<=1024,λi=>v.keys.length-i.toNat,⟨0,rfl,by omega,by simp⟩,?_⟩
 rintro i ⟨k,rfl,hk,h1⟩
 refine⟨λhc=>?_,λhc=>?_⟩
 ·have Z:k<v.keys.length:=by simp at hc;omega
  refine⟨v.keys[k],⟨by omega,zge Z⟩,λ_=>h _ (λe=>by cases e),λhq=>?_⟩
  have aa:v.keys[k].size<=1024:=by simp at hq;omega
  rw[yz Z (by omega)]
  refine⟨⟨k+1,rfl,by omega,?_⟩,by simp only[Ad];omega⟩
  rw[An Z]
  intro x hx
  rcases Am.1 hx with hx|hx
  ·exact h1 x hx
  ·simp at hx;subst hx;exact aa
 ·have Z:k=v.keys.length:=by simp at hc;omega
  subst Z
  rw[AE]at h1
  refine⟨λi=>∃k:Nat,i=k/\k<=v.items.length/\∀x∈v.items.take k,txS x,λi=>v.items.length-i.toNat,⟨0,rfl,by omega,by simp⟩,?_⟩
  rintro i ⟨k,rfl,hk,h2⟩
  refine⟨λhd=>?_,λhd=>h _ λ_=>?_⟩
  ·have O:k<v.items.length:=by simp at hd;omega
   refine⟨v.items[k],⟨by omega,Yo O⟩,?_⟩
   rw[qj]
   have af:=yh (Ao O)
   refine ztn v.items[k] λb hb=>⟨λ_=>h _ (λe=>by cases e),λhq=>?_⟩
   rw[yz O (by omega)]
   refine⟨⟨k+1,rfl,by omega,?_⟩,by simp only[Ad];omega⟩
   rw[An O]
   intro x hx
   rcases Am.1 hx with hx|hx
   ·exact h2 x hx
   ·simp at hx;subst hx;exact hb (by simpa using hq)
  ·have O:k=v.items.length:=by simp at hd;omega
   subst O
   rw[AE]at h2
   exact(z95 v).2 ⟨⟨ae,h1⟩,ztf.2 h2⟩
termination_by tsz v
theorem z4j{v:Tr}{m:Int}(hm:0<=m/\m<=1000){R:Bool->Prop}(h:∀b,(b=true->tks v<=m/\Sm v)->R b):PC Tp gl 10 [Arg.mk .tree v,Arg.mk (.int .i64) m] [.bool] R:=by
 apply zew
 rw[qj]
 refine z4i v m 0 hm (by omega) λr h1 h2 h3=>⟨λb=>b=true->txS v,λ_=>ztn v λb hb=>hb,λb hb=>h _ λe=>?_⟩
 cases hr:decide (r>=0)with
 |false=>rw[hr]at e;cases e
 |true=>
  rw[hr,cond_true]at e
  have h0:0<=r:=by simp at hr;omega
  have:=h3 h0
  exact⟨by omega,Sm.few (by omega) (hb hr e)⟩
theorem zto{l:List Bt}{R:Bool->Prop}(h:∀b,(b=true->PS l)->R b):PC Tp gl 19 [Arg.mk (.row .str) l] [.bool] R:=by
 apply zbp
 refine⟨λi=>∃k:Nat,i=k/\k<=l.length/\k<=300/\∀x∈l.take k,x.size<=1024,λi=>l.length-i.toNat,⟨0,rfl,by omega,by omega,by simp⟩,?_⟩
 rintro i ⟨k,rfl,hk,aa,h1⟩
 refine⟨λhc=>?_,λhc=>h _ λe=>?_⟩
 ·have O:k<l.length/\k<300:=by simp at hc;omega
  refine⟨l[k],⟨by omega,zge O.1⟩,λ_=>h _ (λe=>by cases e),λhq=>?_⟩
  have Z:l[k].size<=1024:=by simp at hq;omega
  rw[w64 (by omega)]
  refine⟨⟨k+1,by omega,by omega,by omega,?_⟩,by have:=O.1;simp only[Ad];omega⟩
  rw[An O.1]
  intro x hx
  rcases Am.1 hx with hx|hx
  ·exact h1 x hx
  ·simp at hx;subst hx;exact Z
 ·have e':l.length<=200:=by simp at e;omega
  have O:k=l.length:=by simp at hc;omega
  subst O
  rw[AE]at h1
  exact⟨e',λx hx=>by rw[Js];exact h1 x hx⟩
theorem zy4(h:R (.mk 5 ⟨#[]⟩ [] l)):PC Tp gl 29 [Arg.mk (.row .tree) l] [.tree] R:=by
 apply zey;exact h
theorem z99{ks:List Bt}(h:R (.mk 6 ⟨#[]⟩ ks l)):PC Tp gl 28 [Arg.mk (.row .str) ks,Arg.mk (.row .tree) l] [.tree] R:=by
 apply zex;exact h
theorem ztp(hg:GL gl){n:Int}(h1:-1000000<=n)(h2:n<=1000000)(h:R (.mk 3 (bl (Yl (yb (Lib.itoa n)).1)) [] [])):PC Tp gl 27 [Arg.mk (.int .i64) n] [.tree] R:=by
 apply zo5
 refine qby hg.pow (by omega) (by omega) ?_
 exact zyi hg.pow (Qg _ (by have:=Go.X.itoa_len n;omega)) h
theorem zpr{gl:Fr}(a b:Tr)(ha:tsz a<=1000000000000){R:Bool->Prop}(h:∀r,(r=true↔a=b)->R r):PC Tp gl 15 [Arg.mk .tree a,Arg.mk .tree b] [.bool] R:=by
 refine PC.bd λaf=>?_
 have hb:a.keys.length<=140737488355328/\a.items.length<=140737488355328:=af ⟨.tree,a⟩ (by simp)
 apply zbq
 have te:∀s t:Bt,(s.toList==t.toList)=decide (s=t):=λs t=>by
  rw[xp,xp,AB,beq_iff_eq,decide_eq_true_eq];exact zk9
 simp only[te]
 refine⟨λhx=>h _ ⟨λe=>(by cases e),λe=>?_⟩,λhx=>?_⟩
 ·subst e;simp at hx
 ·have ah:a.kind=b.kind/\a.text=b.text/\a.keys.length=b.keys.length/\a.items.length=b.items.length:=by
   simp at hx
   obtain⟨⟨⟨h1,h2⟩,h3⟩,h4⟩:=hx
   exact⟨h1,h2,by omega,by omega⟩
  obtain⟨q1,q2,q3,q4⟩:=ah
  refine⟨λi=>∃k:Nat,i=k/\k<=a.keys.length/\a.keys.take k=b.keys.take k,λi=>a.keys.length-i.toNat,⟨0,rfl,by omega,by simp⟩,?_⟩
  rintro i ⟨k,rfl,hk,h1⟩
  refine⟨λhc=>?_,λhc=>?_⟩
  ·have Z:k<a.keys.length:=by simp at hc;omega
   have ae:k<b.keys.length:=by omega
   refine⟨a.keys[k],⟨by omega,zge Z⟩,b.keys[k],⟨by omega,zge ae⟩,λhq=>h _ ⟨λe=>(by cases e),λe=>?_⟩,λhq=>?_⟩
   ·subst e;simp at hq
   ·have aa:a.keys[k]=b.keys[k]:=by simpa using hq
    rw[yz Z (by omega)]
    refine⟨⟨k+1,rfl,by omega,?_⟩,by simp only[Ad];omega⟩
    rw[An Z,An ae,h1,aa]
  ·have Z:k=a.keys.length:=by simp at hc;omega
   subst Z
   rw[AE,q3,AE]at h1
   refine⟨λi=>∃k:Nat,i=k/\k<=a.items.length/\a.items.take k=b.items.take k,λi=>a.items.length-i.toNat,⟨0,rfl,by omega,by simp⟩,?_⟩
   rintro i ⟨k,rfl,hk,h2⟩
   refine⟨λhd=>?_,λhd=>h _ ⟨λ_=>?_,λ_=>rfl⟩⟩
   ·have O:k<a.items.length:=by simp at hd;omega
    have ac:k<b.items.length:=by omega
    refine⟨a.items[k],⟨by omega,Yo O⟩,b.items[k],⟨by omega,Yo ac⟩,?_⟩
    rw[qj,qj]
    have ai:=yh (Ao O)
    refine zpr a.items[k] b.items[k] (by omega) λr hr=>⟨λhq=>h _ ⟨λe=>(by cases e),λe=>?_⟩,λhq=>?_⟩
    ·subst e
     rw[hr.2 rfl]at hq;cases hq
    ·have aa:a.items[k]=b.items[k]:=hr.1 (by simpa using hq)
     rw[yz O (by omega)]
     refine⟨⟨k+1,rfl,by omega,?_⟩,by simp only[Ad];omega⟩
     rw[An O,An ac,h2,aa]
   ·have O:k=a.items.length:=by simp at hd;omega
    subst O
    rw[AE,q4,AE]at h2
    have:=qj a
    rw[q1,q2,h1,h2,qj]at this
    exact this.symm
termination_by tsz a
theorem Xu{gl:Fr}(v:Tr)(hv:Sm v){R:Tr->Prop}(h:R v):PC Tp gl 12 [Arg.mk .tree v] [.tree] R:=by
 have aa:=hv.items
 have ac:=hv.keys
 apply zbr
 refine⟨by simp only[CR];omega,λi b0 b1 b2 b3 o0 o1 o2 o3=>∃k:Nat,i=k/\k<=v.items.length/\o0=v.kind/\o1=v.text/\o2=v.keys/\o3=v.items.take k,λi _ _ _ _ _ _ _ _=>v.items.length-i.toNat,⟨0,rfl,by omega,rfl,rfl,by simp,by simp⟩,?_⟩
 rintro i b0 b1 b2 b3 o0 o1 o2 o3 ⟨k,rfl,hk,rfl,rfl,rfl,rfl⟩
 refine⟨λhc=>?_,λhc=>?_⟩
 ·have O:k<v.items.length:=by simp at hc;omega
  refine⟨v.items[k],⟨by omega,Yo O⟩,?_⟩
  rw[qj]
  have hm:=Ao O
  have Z:=yh hm
  refine Xu v.items[k] (hv.item hm) ⟨by rw[AL];simp;omega,?_⟩
  rw[yz O (by omega),qj]
  exact⟨⟨k+1,rfl,by omega,rfl,rfl,rfl,by rw[An O]⟩,by simp only[Ad];omega⟩
 ·have O:k=v.items.length:=by simp at hc;omega
  subst O
  rw[AE]
  rw[show Tr.mk v.kind v.text v.keys v.items=v from qj v];exact h
termination_by tsz v
end
section
variable {l a b:List Bt} {k:Nat} {gl:Fr} {R:Bool -> Prop}
structure SL (l:List Bt):Prop where
 n:l.length<=1000000
 s:∀x∈l,(lb x).length<=1048576
theorem PS.sl(h:PS l):SL l:=⟨by have:=h.n;omega,λx hx=>by have:=h.s x hx;omega⟩
theorem ztq{α:Type}{p:α->Bool}{l:List α}(hk:k<l.length):(l.take (k+1)).all p=((l.take k).all p&&p l[k]):=by
 rw[An hk,CV,CK,List.all_nil,CL]
theorem zd1(hl:SL l)(h:R (qs l)):PC Tp gl 40 [Arg.mk (.row .str) l] [.bool] R:=by
 have hn:=hl.n
 apply zbt
 refine⟨λi=>∃k:Nat,i=k/\k<=l.length/\(l.take k).all (λs=>xe (lb s))=true,λi=>l.length-i.toNat,⟨0,rfl,by omega,by simp⟩,?_⟩
 rintro i ⟨k,rfl,hk,Z⟩
 refine⟨λhc=>?_,λhc=>?_⟩
 ·have O:k<l.length:=by simp at hc;omega
  refine⟨l[k],⟨by omega,zge O⟩,?_⟩
  have hm:=Ao O
  have hu:=zpm (gl:=gl) (l:=lb l[k]) (R:=λr=>r.2=xe (lb l[k])) (by have:=hl.s _ hm;omega) (λ_=>rfl)
  rw[zaq]at hu
  refine hu.mono λr hr=>⟨λhq=>?_,λhq=>?_⟩
  ·have:qs l=false:=by
    unfold qs
    have:l.all (λs=>xe (lb s))=false:=by rw[DK];exact⟨_,hm,by rw[<-hr];simpa using hq⟩
    rw[this,Ei]
   rw[this]at h;exact h
  ·rw[yz O (by omega)]
   refine⟨⟨k+1,rfl,by omega,?_⟩,by simp only[Ad];omega⟩
   rw[ztq O,Z,<-hr];simpa using hq
 ·have O:k=l.length:=by simp at hc;omega
  subst O
  rw[AE]at Z
  unfold qs at h
  rw[Z,CL]at h
  have:decide ((l.length:Int)<=64)=decide (l.length<=64):=by rw[AB,decide_eq_true_eq,decide_eq_true_eq];omega
  rw[this];exact h
theorem zm8(s t:Bt):CZ s.toList t.toList=decide (zpp (lb s) (lb t)=-1):=by rw[xp,xp,ztg]
theorem qaa(s t:Bt):(s.toList==t.toList)=decide (zpp (lb s) (lb t)=0):=by
 rw[xp,xp,AB,beq_iff_eq,decide_eq_true_eq,cmpS_is.eq0]
def z0s(a b:List Bt):Int:=cmpL (a.map lb) (b.map lb)
theorem zy5(h:a.take k=b.take k):z0s a b=z0s (a.drop k) (b.drop k):=by
 unfold z0s
 rw[z6k (k:=k),List.map_drop,List.map_drop]
 rw[<-List.map_take,<-List.map_take,h]
theorem zy6(x y:Bt)(a b:List Bt):z0s (x::a) (y::b)=if zpp (lb x) (lb y)=0 then z0s a b else zpp (lb x) (lb y):=rfl
theorem z2n(h : a.take k = b.take k)(hk : k = a.length \/ k = b.length): z0s a b = if a.length < b.length then -1 else if b.length < a.length then 1 else 0 := by
  have hl := congrArg Bm h
  simp only [AL] at hl
  rw [zy5 h]
  rcases hk with rfl | rfl
  · rw [BC]
    cases hd : b.drop a.length with
    | nil => have := List.drop_eq_nil_iff.1 hd; (rw [if_neg (by omega), if_neg (by omega)]; rfl)
    | cons y t => have : a.length < b.length := by
                    rcases AX a.length b.length with q | q
                    · exact q
                    · rw [A6 q] at hd; cases hd
                  rw [if_pos this]; rfl
  · rw [BC]
    cases hd : a.drop b.length with
    | nil => have := List.drop_eq_nil_iff.1 hd; (rw [if_neg (by omega), if_neg (by omega)]; rfl)
    | cons y t => have : b.length < a.length := by
                    rcases AX b.length a.length with q | q
                    · exact q
                    · rw [A6 q] at hd; cases hd
                  rw [if_neg (by omega), if_pos this]; rfl
theorem zy7(h:a.take k=b.take k)(ha:k<a.length)(hb:k<b.length)(O:zpp (lb a[k]) (lb b[k])≠0):z0s a b=zpp (lb a[k]) (lb b[k]):=by
 rw[zy5 h,AC ha,AC hb,zy6,if_neg O]
theorem zvn(h:a.take k=b.take k)(ha:k<a.length)(hb:k<b.length)(he:zpp (lb a[k]) (lb b[k])=0):a.take (k+1)=b.take (k+1):=by
 rw[An ha,An hb,h,zk9.1 ((cmpS_is.eq0 _ _).1 he)]
theorem zrv(hl:a.length<=1000000){R:Int->Prop}(h:R (z0s a b)):PC Tp gl 95 [Arg.mk (.row .str) a,Arg.mk (.row .str) b] [.int .i64] R:=by
 apply Xj
 refine⟨λi=>∃k:Nat,i=k/\k<=a.length/\k<=b.length/\a.take k=b.take k,λi=>a.length-i.toNat,⟨0,rfl,by omega,by omega,by simp⟩,?_⟩
 rintro i ⟨k,rfl,hk,ae,he⟩
 refine⟨λhc=>?_,λhc=>?_⟩
 ·have O:k<a.length/\k<b.length:=by simp at hc;omega
  have e1:=zge O.1
  have e2:=zge O.2
  have hp:=zy7 he O.1 O.2
  have hr:=cmpS_is.rng (lb a[k]) (lb b[k])
  refine⟨a[k],⟨by omega,e1⟩,b[k],⟨by omega,e2⟩,λhq=>?_,λhq=>⟨a[k],⟨by omega,e1⟩,b[k],⟨by omega,e2⟩,λZ=>?_,λZ=>?_⟩⟩
  ·rw[zm8]at hq
   have aa:zpp (lb a[k]) (lb b[k])=-1:=by simpa using hq
   rw[hp (by omega),aa]at h;exact h
  ·rw[zm8,qaa]at Z
   have aa:zpp (lb a[k]) (lb b[k])=1:=by simp at Z;omega
   rw[hp (by omega),aa]at h;exact h
  ·rw[zm8]at hq
   rw[zm8,qaa]at Z
   have aa:zpp (lb a[k]) (lb b[k])=0:=by simp at hq Z;omega
   have ac:=yz O.1 (by omega)
   rw[ac]
   exact⟨⟨k+1,rfl,by omega,by omega,zvn he O.1 O.2 aa⟩,by have:=O.1;simp only[Ad];omega⟩
 ·have O:k=a.length\/k=b.length:=by
   simp at hc
   by_cases hq:k<a.length
   ·right;have:=hc hq;omega
   ·left;omega
  rw[z2n he O]at h
  refine⟨λhq=>?_,λhq=>⟨λZ=>?_,λZ=>?_⟩⟩
  ·have:a.length<b.length:=by simp at hq;omega
   rw[if_pos this]at h;exact h
  ·have:b.length<a.length:=by simp at Z;omega
   rw[if_neg (by omega),if_pos this]at h;exact h
  ·have h1:¬a.length<b.length:=by simp at hq;omega
   have h2:¬b.length<a.length:=by simp at Z;omega
   rw[if_neg h1,if_neg h2]at h;exact h
theorem z6s(a b:List Bt):z0s a b=0↔a=b:=by
 unfold z0s
 rw[cmpL_is.eq0]
 constructor
 ·intro h
  have:=congrArg (List.map bl) h
  rw[List.map_map,List.map_map]at this
  have e:(bl ∘ lb)=(id:Bt->Bt):=funext λx=>zaq x
  rw[e,List.map_id,List.map_id]at this
  exact this
 ·rintro rfl;rfl
theorem ztr(hl:a.length<=1000000)(h:∀r,(r=true↔a=b)->R r):PC Tp gl 55 [Arg.mk (.row .str) a,Arg.mk (.row .str) b] [.bool] R:=by
 apply zdh
 refine zrv hl (h _ ?_)
 rw[<-z6s];simp
end
end Go.X
end
section
namespace Go.X
open Go Go.Proofs Go.Shelf Go.RowKit
section
def zm9:Go.Shelf.Ren:=⟨fun|153=>202|152=>222|226=>225|227=>158|228=>193|137=>191|119=>237|224=>232|225=>231|217=>221|266=>236|n=>n,fun|9=>9|3=>3|4=>4|5=>5|21=>21|117=>164|116=>163|0=>0|46=>176|124=>167|n=>n,fun|n=>n⟩
theorem zy8:Go.Proofs.Lays.n153 Tp zm9:={
 mixed:=by kernel_rfl
 f119:=LF Ef
 f137:=LF Eg
 f152:=LF Eh
 f153:=LF Tryz.func202
 f217:=LF Ep
 f224:=LF Tryz.func232
 f225:=LF Tryz.func231
 f226:=LF Tryz.func225
 f227:=LF Tryz.func158
 f228:=LF Tryz.func193
 f266:=LF Er
 t0:=Cc
 a0:=Db
 z0:=C3
 v0:=Ci
 t3:=BH
 a3:=Cx
 z3:=Cj
 v3:=BM
 t4:=BI
 a4:=CN
 z4:=Cu
 v4:=BU
 t5:=BZ
 a5:=C5
 z5:=CJ
 v5:=Cb
 t9:=Bw
 a9:=Cy
 z9:=Ck
 v9:=BN
 t21:=CP
 a21:=DX
 z21:=Dz
 v21:=C8
 t46:=B7
 a46:=C6
 z46:=CO
 v46:=Cg
 t116:=Tryz.underlying163
 a116:=Tryz.isAgg163
 z116:=Tryz.sizeOf163
 t117:=Tryz.underlying164
 a117:=Tryz.isAgg164
 z117:=Tryz.sizeOf164
 v117:=Tryz.zeroValue164
 t124:=Tryz.underlying167
 a124:=Tryz.isAgg167
 z124:=Tryz.sizeOf167
 v124:=Tryz.zeroValue167 }
open Go.RowKit Go.Lib in
theorem Wr(aa:∀w,(zeroValue 163).run Tp w=.ok (.agg (Bn 256 (.bool false))) w)(s O:Bt)(w:World)(h2:2<=O.size)(h8:8<s.size)(hs:s.size<4294967281)(ac:O.size<4294967281)(Z:∀(j:Nat) b,O.data.toList[j]?=some b->b.toNat<128):
  Calls Tp 202 #[.string s,.string O] w λe w'=>e=.returned (.int .i64 (Lib.indexAny s.data.toList O.data.toList))/\w'=((w.alloc (.cells (Lib.setCells O.data.toList) 163)).alloc (.cells (Lib.setCells O.data.toList) 163)):=Any.strings_IndexAny_long zy8 aa (by kernel_rfl) s O w h2 h8 hs ac Z
end
end Go.X
end
section
namespace Go.X
open Go Go.X Go.Proofs Go.RowKit
section
variable {h h':zb} {b:Nat} {l:Bs}
def Bld(h:zb)(b:Nat)(l:Bs):Prop:=∃(p:Option Addr) (s:Sl),h[b]?=some (.cells #[.pointer p,slV s] 127 (0,0))/\(p=none\/p=some ⟨b,0,none⟩)/\Owns h (b+1) 5 1 s (Lib.byteCells l)
theorem Bld.lt(H:Bld h b l):b<h.size:=by
 obtain⟨p,s,e,_⟩:=H
 rcases AX b h.size with q|q
 ·exact q
 ·rw[Array.getElem?_eq_none q]at e;cases e
theorem Bld.keep(H:Bld h b l)(k:Keep h.size h h'):Bld h' b l:=by
 have O:=H.lt
 obtain⟨p,s,e,hp,ho⟩:=H
 exact⟨p,s,by rw[k.get b O];exact e,hp,ho.keepN k⟩
theorem Bld.new(h:zb):Bld (h.push (.cells #[.pointer none,.slice none 0 0] 127)) h.size []:=
 ⟨none,⟨none,0,0⟩,wu _ _,.inl rfl,Owns.nil _ _ _ _⟩
theorem Keep.ne(hs:h'.size=h.size)(hf:∀i,i≠b->h'[i]?=h[i]?):Keep b h h':=⟨by omega,λi hi=>hf i (by omega)⟩
end
end Go.X
end
section
namespace Go.X
section
theorem zna{gl:Fr}(hg:GL gl){l:List Bt}(hl:SL l){R:Bool->Prop}(hR:R (qs l)):PC Tp gl 37 [Arg.mk (.row .str) l] [.bool] R:=by
 intro h M vs hM ag ha
 match vs,ha with
 |[u],⟨hu,_⟩=>
  obtain⟨s,rfl,hr⟩:=zdg hu
  have hr:Rd M (.row .str) l [slV s]:=hr
  obtain⟨aa,ah,ai⟩:=rowLen hr
  apply PX.of
  apply zgd s
  have hd:decide (((s.len:Nat):Int)<=64)=decide (l.length<=64):=by rw[aa,AB,decide_eq_true_eq,decide_eq_true_eq];omega
  rw[hd]
  refine⟨λv h'=>∃b,v=.bool b/\(decide (l.length<=64)=true->b=l.any λx=>!(xe (lb x)))/\∃M',Later h M h' M',λhc=>?_,λhc=>⟨true,true,rfl,λe=>(by rw[e]at hc;cases hc),M,Later.refl ag⟩,λ_ v h' ⟨b,e,_⟩=>⟨b,e⟩,?_⟩
  ·refine(qb3 (gl:=gl) ag hr (p:=λx=>!(xe (lb x))) λx hx=>⟨by kernel_rfl,λh' M' u' L' af=>?_⟩).go λw h4 M4 b L4 O ac=>⟨b,zay O,b,rfl,λ_=>ac,M4,L4⟩
   have:=z1q af
   subst this
   apply PX.of
   show XC Tp 74 #[.string x] h' _
   apply zdz
   have hp:=z2c hg.tabs (l:=lb x) (R:=λb=>b=xe (lb x)) (by have:=hl.s x hx;omega) rfl
   rw[zaq]at hp
   exact hp.go (vs:=[.string x]) (hM.trans L'.le) L'.ag (yo (rdStr _) ww) λw h5 M5 b L5 Z ae=>⟨b,zay Z,M5,_,L5,zax.2 (rdBool _),by rw[ae]⟩
  ·rintro b h' ⟨b',e,hb,M',L'⟩
   cases e
   refine⟨M',_,L',zax.2 (rdBool _),?_⟩
   have:(bif decide (l.length<=64)then !b else false)=qs l:=by
    unfold qs
    cases hc:decide (l.length<=64)with
    |false=>rfl
    |true=>
     rw[hb hc,cond_true,Bf,AB];simp
   rw[this];exact hR
end
end Go.X
end
section
namespace Go.X
open Go Go.X Go.Proofs Go.RowKit
section
theorem qcj{z:UInt8}(h:128<=z.toNat):Lib.indexByte [95] z=-1:=by
 have:z≠95:=by rintro rfl;revert h;decide
 unfold Lib.indexByte
 simp[Lib.indexByte,this.symm]
theorem ix0{z:UInt8}:Lib.indexByte [] z=-1:=by simp[Lib.indexByte]
def VR(r:Int)(e:Ending):Prop:=∃b,e=.returned (.bool b)/\(b=true->(0<=r/\r<55296)\/(57343<r/\r<=1114111))
set_option maxHeartbeats 4000000 in
set_option maxRecDepth 1000000 in
theorem zrw(r:Int)(w:World):Calls Tp 237 #[.int .i32 r] w λe w'=>VR r e/\w'=w:=by
 have mixed:=Tryz.mixed
 go_enter Ef,Tryz.ntmps237
 by_cases h1:0<=r <;> by_cases h2:r<55296 <;> by_cases h3:57343<r <;> by_cases h4:r<=1114111 <;> (go_wp2;go_ret;exact⟨⟨_,rfl,λh=>by first|omega|cases h⟩,rfl⟩)
theorem zy9(r:Int)(h:128<=r):(∃a z:UInt8,En r=⟨#[a,z]⟩/\128<=z.toNat)\/(∃a b z:UInt8,En r=⟨#[a,b,z]⟩/\128<=z.toNat)\/(∃a b c z:UInt8,En r=⟨#[a,b,c,z]⟩/\128<=z.toNat):=by
 have hz:∀n:Nat,128<=(Dl (128+n % 64)).toNat:=λn=>by
  have:(Dl (128+n % 64)).toNat=(128+n % 64) % 256:=UInt8.toNat_ofNat
  rw[this,DY (by omega)];omega
 have hc:∃c:Nat,128<=c/\(if Utf8.valid r then r.toNat else Utf8.runeError)=c:=by
  refine⟨_,?_,rfl⟩
  split
  ·omega
  ·decide
 obtain⟨c,Z,O⟩:=hc
 unfold En
 simp only[O]
 rw[if_neg (by omega)]
 by_cases h1:c<2048
 ·rw[if_pos h1];exact .inl ⟨_,_,rfl,hz _⟩
 ·rw[if_neg h1]
  by_cases h2:c<65536
  ·rw[if_pos h2];exact .inr (.inl ⟨_,_,_,rfl,hz _⟩)
  ·rw[if_neg h2];exact .inr (.inr ⟨_,_,_,_,rfl,hz _⟩)
def IR(e:Ending):Prop:=∃n,e=.returned (.int .i64 n)
set_option maxHeartbeats 4000000 in
set_option maxRecDepth 1000000 in
theorem zrx(r:Int)(w:World)(h1:128<=r)(h2:r≠65533):Calls Tp 222 #[.string ⟨#[43,45,95]⟩,.int .i32 r] w λe w'=>IR e/\Below w.heap.size w w':=by
 have mixed:=Tryz.mixed
 have ac:∀args w,(callFunc 191 args).run Tp w=.ok (.enter 191 args) w:=enters_of Eg (by kernel_rfl) rfl
 have aa:∀args w,(callFunc 237 args).run Tp w=.ok (.enter 237 args) w:=enters_of Ef (by kernel_rfl) rfl
 have g1:¬r<128:=by omega
 go_enter Eh,Tryz.ntmps222
 go_wp2_with (go_at_fn 237;refine(zrw _ _).mono ?_;rintro e w' ⟨⟨b,rfl,hb⟩,hw⟩;rw[hw];cases b)
 ·go_ret
  exact⟨⟨_,rfl⟩,Below.refl _ _⟩
 ·rcases zy9 r h1 with⟨a,z,hE,hz⟩|⟨a,b,z,hE,hz⟩|⟨a,b,c,z,hE,hz⟩
  ·have O:=λ(w:World)=>run_convert_int_string (P:=Tp) w 21 9 .i32 r (by kernel_rfl) (by kernel_rfl)
   rw[hE]at O
   refine wp_scope_straight ?_
   go_wp2
   go_loop [9] (λv=>v=.int .i64 1) (λ_=>0)
   case atStart=>rfl
   case round=>
    subst hrel
    go_wp2
    refine wp_scope_straight ?_
    have Z:((45:Int) != (z.toNat:Int))=true:=bne_iff_ne.2 (by omega)
    go_wp2
    go_region
    simp only[show ∀h,((⟨#[43,45,95]⟩:Bt)[1]'h)=45 from λ_=>rfl,show ∀h,((⟨#[a,z]⟩:Bt)[1]'h)=z from λ_=>rfl,show((45:UInt8).toNat:Int)=45 from rfl,Z]
    all_goals go_wp2
    all_goals go_region_with (go_at_call 191;refine(x9 _ _ _).mono ?_;rintro e w' ⟨rfl,rfl⟩)
    all_goals simp only[show ∀h,((⟨#[a,z]⟩:Bt)[1]'h)=z from λ_=>rfl,qcj hz]
    all_goals go_wp2
    all_goals simp only[Exit.noGoto,Exit.inBlock]
    all_goals go_wp2
    all_goals simp only[Exit.noGoto,Exit.inBlock]
    all_goals go_wp2
    all_goals go_ret
    all_goals exact⟨⟨_,rfl⟩,zig w 2⟩
  ·have O:=λ(w:World)=>run_convert_int_string (P:=Tp) w 21 9 .i32 r (by kernel_rfl) (by kernel_rfl)
   rw[hE]at O
   refine wp_scope_straight ?_
   go_wp2
   go_loop [9] (λv=>v=.int .i64 2) (λ_=>0)
   case atStart=>rfl
   case round=>
    subst hrel
    go_wp2
    refine wp_scope_straight ?_
    have Z:((95:Int) != (z.toNat:Int))=true:=bne_iff_ne.2 (by omega)
    go_wp2
    go_region
    simp only[show ∀h,((⟨#[43,45,95]⟩:Bt)[2]'h)=95 from λ_=>rfl,show ∀h,((⟨#[a,b,z]⟩:Bt)[2]'h)=z from λ_=>rfl,show((95:UInt8).toNat:Int)=95 from rfl,Z]
    all_goals go_wp2
    all_goals go_region_with (go_at_call 191;refine(x9 _ _ _).mono ?_;rintro e w' ⟨rfl,rfl⟩)
    all_goals simp only[show ∀h,((⟨#[a,b,z]⟩:Bt)[2]'h)=z from λ_=>rfl,ix0]
    all_goals go_wp2
    all_goals simp only[Exit.noGoto,Exit.inBlock]
    all_goals go_wp2
    all_goals simp only[Exit.noGoto,Exit.inBlock]
    all_goals go_wp2
    all_goals go_ret
    all_goals exact⟨⟨_,rfl⟩,zig w 2⟩
  ·have O:=λ(w:World)=>run_convert_int_string (P:=Tp) w 21 9 .i32 r (by kernel_rfl) (by kernel_rfl)
   rw[hE]at O
   refine wp_scope_straight ?_
   go_wp2
   go_loop [9] (λv=>v=.int .i64 3) (λ_=>0)
   case atStart=>rfl
   case round=>
    subst hrel
    go_wp2
    go_ret
    exact⟨⟨_,rfl⟩,Below.refl _ _⟩
end
end Go.X
end
section
namespace Go.X
section
theorem Wx(gl:Fr)(s0:Bt)(O:Bt)(R:Bool->Prop)
  (H:PC Tp gl 202 [Arg.mk .str s0,Arg.mk .str O] [.int .i64] (λa:Int=>R (decide (a>=0)))):
  PC Tp gl 172 [Arg.mk .str s0,Arg.mk .str O] [.bool] R:=
 PF ⟨[],[],[],[]⟩ [.tmp 4] 9 Tryz.func172 H
theorem zb9(gl:Fr)(s0:Bt)(Z:Bt)(R:Int->Prop)
  (H:((Z.toList==(⟨#[]⟩:Bt).toList)=true->R (-1))/\((Z.toList==(⟨#[]⟩:Bt).toList)=false->(((Z.size:Int)==1)=true->(0<=(0:Int)/\(0:Int)<(Z.size:Int))/\∀a:Int->Prop,(∀b:Int,(PC Tp gl 222 [Arg.mk .str s0,Arg.mk (.int .i32) b] [.int .i64] (λc:Int=>R c))->a b)->((decide ((Aa .i32 (zd Z (0:Int).toNat))>=128))=true->a 65533)/\((decide ((Aa .i32 (zd Z (0:Int).toNat))>=128))=false->a (Aa .i32 (zd Z (0:Int).toNat))))/\(((Z.size:Int)==1)=false->∀d:Prop,((∃(e:(Bt×Nat)->Prop) (f:(Bt×Nat)->Nat),e (s0,0)/\∀O:Bt×Nat,e O->(((nxB O.1 O.2)=true->(nxB O.1 O.2)=true/\(nxB O.1 O.2)=true/\PC Tp gl 222 [Arg.mk .str Z,Arg.mk (.int .i32) (nxR O.1 O.2)] [.int .i64] (λg:Int=>(decide (g>=0)=true->R (O.2:Int))/\(decide (g>=0)=false->(e (O.1,nxP O.1 O.2)/\f (O.1,nxP O.1 O.2)<f O))))/\((nxB O.1 O.2)=false->R (-1))))->d)->PC Tp gl 225 [Arg.mk (.int .i64) (s0.size:Int)] [.bool] (λi:Bool=>(i=true->False)/\(i=false->d))))):
  PC Tp gl 202 [Arg.mk .str s0,Arg.mk .str Z] [.int .i64] R:=
 PF ⟨[],[],[(18,⟨[],[(45,[.dat .iter])],[],[1002880]⟩)],[(7,⟨[(5,.one (.dat (.int .i32)))],[],[],[100320]⟩),(17,⟨[],[],[],[]⟩)]⟩ [.tmp 4] 55 Tryz.func202 H
theorem Qy(gl:Fr)(s0:Bt)(r1:Int)(R:Int->Prop)
  (H:((bif (decide ((0:Int)<=r1))then(decide (r1<128))else false)=true->PC Tp gl 191 [Arg.mk .str s0,Arg.mk (.int .u8) (Aa .u8 r1)] [.int .i64] (λa:Int=>R a))/\((bif (decide ((0:Int)<=r1))then(decide (r1<128))else false)=false->((r1==65533)=true->∃(b:(Bt×Nat)->Prop) (c:(Bt×Nat)->Nat),b (s0,0)/\∀O:Bt×Nat,b O->(((nxB O.1 O.2)=true->(nxB O.1 O.2)=true/\(nxB O.1 O.2)=true/\(((nxR O.1 O.2:Int)==65533)=true->R (O.2:Int))/\(((nxR O.1 O.2:Int)==65533)=false->(b (O.1,nxP O.1 O.2)/\c (O.1,nxP O.1 O.2)<c O)))/\((nxB O.1 O.2)=false->R (-1))))/\((r1==65533)=false->PC Tp gl 237 [Arg.mk (.int .i32) r1] [.bool] (λd:Bool=>((!d)=true->R (-1))/\((!d)=false->False))))):
  PC Tp gl 222 [Arg.mk .str s0,Arg.mk (.int .i32) r1] [.int .i64] R:=
 PF ⟨[],[],[(38,⟨[],[(175,[.dat .iter])],[],[1011200]⟩)],[]⟩ [.tmp 4] 187 Eh H
theorem Q3(gl:Fr)(O:Int)(R:Bool->Prop)
  (H:R (decide (O>8))):
  PC Tp gl 225 [Arg.mk (.int .i64) O] [.bool] R:=
 PF ⟨[],[],[],[]⟩ [.tmp 2] 5 Tryz.func225 H
end
end Go.X
end
section
namespace Go.X
open Go Go.X Go.Proofs Go.RowKit
section
variable {gl:Fr} {R:Int -> Prop} {l:Bs}
theorem zi0{f:FuncId}{args:List Arg}{us:List Value}(Z:zft args=some us)(hR:∀n,R n)
  (H:∀w:World,Calls Tp f us.toArray w λe w'=>IR e/\Below w.heap.size w w'):PC Tp gl f args [.int .i64] R:=by
 intro h M vs hM ag ha
 rw[zde Z ha]
 refine XC.of_calls λB d=>(H (mk B d h)).mono ?_
 rintro e w' ⟨⟨n,rfl⟩,O⟩
 have k:Keep h.size h w'.heap:=⟨O.size,O.block⟩
 exact⟨_,rfl,O.os,O.tape,O.output,k,M,n,Fr.le.refl _,λ_ _=>rfl,ag.keep k,zq9 _ _,hR n⟩
theorem zps{r:Int}(hr:0<=r)(hR:∀n,R n):PC Tp gl 222 [Arg.mk .str (bl [43,45,95]),Arg.mk (.int .i32) r] [.int .i64] R:=by
 by_cases h1:r<128
 ·apply Qy
  have e:(bif decide ((0:Int)<=r)then decide (r<128)else false)=true:=by simp[hr,h1]
  rw[e]
  exact⟨λ_=>Xp (hR _),λhx=>by cases hx⟩
 ·by_cases h2:r=65533
  ·subst h2
   apply Qy
   refine⟨λ_=>Xp (hR _),λ_=>⟨λ_=>?_,λhx=>by cases hx⟩⟩
   refine⟨λq=>∃p:Nat,q=(bl [43,45,95],p),λq=>3-q.2,⟨0,rfl⟩,?_⟩
   rintro q ⟨p,rfl⟩
   simp only[zpb]
   refine⟨λhn=>⟨hn,hn,λ_=>hR _,λ_=>⟨⟨_,rfl⟩,?_⟩⟩,λ_=>hR _⟩
   have hp:p < [43,45,95].length:=by simpa using hn
   have O:p<3:=hp
   rw[zlb _ _ hp]
   have:=(Yj (([43,45,95]:Bs).drop p)).1
   omega
  ·exact zi0 (us:=[.string ⟨#[43,45,95]⟩,.int .i32 r]) rfl hR λw=>zrx r w (by omega) h2
theorem zza(w:World)(o1 o2:Obj):Below w.heap.size w ((w.alloc o1).alloc o2):=((Below.refl _ w).alloc (Ae _) o1).alloc (by show w.heap.size<=(w.heap.push o1).size;simp) o2
theorem zzb(l:Bs):(0:Int)<=((dec l).1:Int):=Int.natCast_nonneg _
theorem z6t(hl:l.length<=9){R:Bool->Prop}(h1:zrq l->R (l.any λc=>[43,45,95].contains c))(h2:¬zrq l->∀b,R b):PC Tp gl 172 [Arg.mk .str (bl l),Arg.mk .str (bl [43,45,95])] [.bool] R:=by
 have O:∀(j:Nat) (b:UInt8),([43,45,95]:Bs)[j]?=some b->b.toNat<128:=by
  intro j b hb
  have:b∈([43,45,95]:Bs):=CM hb
  simp at this
  rcases this with rfl|rfl|rfl <;> decide
 by_cases ha:zrq l
 ·refine zj2 (s:=bl l) (c:=bl [43,45,95]) (by rw[zv];omega) (by rw[zv];decide) ?_ ?_ ?_
  ·rw[Zk];exact λj b hb=>ha b (CM hb)
  ·rw[Zk];exact O
  ·rw[Zk,Zk,Xs];exact h1 ha
 ·have hb:=h2 ha
  apply Wx
  by_cases h8:l.length<=8
  ·apply zb9
   have e1:((bl [43,45,95]).toList==(⟨#[]⟩:Bt).toList)=false:=by rw[z4f,Zk];rfl
   have e2:((((bl [43,45,95]).size:Int))==1)=false:=by rw[zv];rfl
   rw[e1,e2]
   refine⟨λhx=>(by cases hx),λ_=>⟨λhx=>(by cases hx),λ_ K hK=>?_⟩⟩
   apply Q3
   have e3:decide (((bl l).size:Int)>8)=false:=by rw[zv];simp;omega
   rw[e3]
   refine⟨λhx=>(by cases hx),λ_=>hK ?_⟩
   refine⟨λq=>∃p:Nat,q=(bl l,p),λq=>l.length-q.2,⟨0,rfl⟩,?_⟩
   rintro q ⟨p,rfl⟩
   simp only[zpb]
   refine⟨λhn=>⟨hn,hn,?_⟩,λ_=>hb _⟩
   have hp:p<l.length:=by simpa using hn
   refine zps (by rw[zs4];exact zzb _) λn=>⟨λ_=>hb _,λ_=>⟨⟨_,rfl⟩,?_⟩⟩
   rw[zlb _ _ hp]
   have:=(Yj (l.drop p)).1
   omega
  ·refine zi0 (us:=[.string (bl l),.string (bl [43,45,95])]) rfl (λn=>hb _) λw=>?_
   have hz:=(zero_of_info (P:=Tp) (t:=163) (v:=.agg (Bn 256 (.bool false))) (n:=256) (by kernel_rfl)).1
   refine(Wr hz (bl l) (bl [43,45,95]) w (by rw[zv];decide) (by rw[zv];omega) (by rw[zv];omega) (by rw[zv];decide) O).mono ?_
   rintro e w' ⟨rfl,rfl⟩
   exact⟨⟨_,rfl⟩,zza w _ _⟩
theorem zzc:(bif (bif (l==[])then true else decide ((l.length:Int)>9))then true else(bif (!(l==[48]))then((((l[0]?).getD 0).toNat:Int)==48)else false))=decide (l.length<1\/9<l.length\/(1<l.length/\l.head?=some 48)):=by
 match l with
 |[]=>simp
 |[c]=>
  rw[AB,decide_eq_true_eq]
  by_cases hc:c=48
  ·subst hc;simp
  ·have:((c.toNat:Int)==48)=false:=by
    have:=zad (c:=c) (n:=48) 48 rfl
    unfold bne at this
    rw[<-Es ((c.toNat:Int)==48),this];simp[hc]
   show(bif (bif ([c]==[])then true else decide ((([c]:Bs).length:Int)>9))then true else(bif (!([c]==[48]))then((c.toNat:Int)==48)else false))=true↔_
   rw[this];simp
 |c::d::t=>
  have e:((c.toNat:Int)==48)=(c==48):=by
   have:=zad (c:=c) (n:=48) 48 rfl
   unfold bne at this
   rw[<-Es ((c.toNat:Int)==48),this,Es]
  show(bif (bif ((c::d::t)==[])then true else decide (((c::d::t:Bs).length:Int)>9))then true else(bif (!((c::d::t)==[48]))then((c.toNat:Int)==48)else false))=_
  rw[e,AB,decide_eq_true_eq]
  have O:¬(c::d::t:Bs).length<1:=by simp
  have Z:1<(c::d::t:Bs).length:=by simp
  have h1:((c::d::t:Bs)==[])=false:=rfl
  have h2:((c::d::t:Bs)==[48])=false:=by simp
  rw[h1,h2,cond_false,Bool.not_false,cond_true]
  generalize (c::d::t:Bs).length=n at *
  by_cases h9:9<n
  ·have:decide ((n:Int)>9)=true:=by simp;omega
   rw[this];simp[h9]
  ·have:decide ((n:Int)>9)=false:=by simp;omega
   rw[this,cond_false];simp[h9,O,Z]
theorem z2o(h:l.any (λc=>[43,45,95].contains c)=false):∀c,l.head?=some c->c.toNat≠43/\c.toNat≠45:=by
 intro c hc
 rw[List.any_eq_false]at h
 have:=h c (List.mem_of_head? hc)
 constructor
 ·intro e
  have:c=43:=Cz.1 (by rw[e];rfl)
  subst this;exact absurd rfl ‹¬_›
 ·intro e
  have:c=45:=Cz.1 (by rw[e];rfl)
  subst this;exact absurd rfl ‹¬_›
theorem zpt(h:l.all qu=true):zrq l/\(l.any λc=>[43,45,95].contains c)=false:=by
 rw[AU]at h
 constructor
 ·intro c hc
  have:=h c hc
  simp[qu]at this;omega
 ·rw[List.any_eq_false]
  intro c hc hm
  have h2:=h c hc
  simp[qu]at h2
  simp at hm
  rcases hm with rfl|rfl|rfl <;> revert h2 <;> decide
theorem zi1(hg:GL gl)(hl:l.length<=1048576){R:Int×Bool->Prop}(h:R (Ql l)):PC Tp gl 145 [Arg.mk .str (bl l)] [.int .i64,.bool] R:=by
 apply zf6
 have af:∀s:Bs,((bl s).toList==(⟨#[48]⟩:Bt).toList)=(s==[48]):=λs=>by rw[show(⟨#[48]⟩:Bt)=bl [48]from rfl,z2j,Zk]
 simp only[zv,yq,show(0:Int).toNat=0 from rfl,z4f,Zk,af,zzc]
 refine⟨λhx=>⟨by omega,?_⟩,?_⟩
 ·simp at hx
  have:=BB.2 hx.1.1
  omega
 unfold Ql at h
 by_cases O:l.length<1\/9<l.length\/(1<l.length/\l.head?=some 48)
 ·rw[if_pos O]at h
  rw[decide_eq_true O]
  exact⟨λ_=>True,λhx=>(by cases hx),λr _=>⟨λ_=>h,λhx=>by cases hx⟩⟩
 ·rw[if_neg O]at h
  rw[decide_eq_false O]
  refine⟨λb=>(l.all qu=true->b=false)/\(l.all qu=false->b=false->∀v,Lib.atoiAll l≠.ok v),λ_=>?_,λb hb=>?_⟩
  ·refine z6t (by omega) (λha=>⟨λhd=>(zpt hd).2,λhd hf=>z6m hd (z2o hf)⟩) (λaa b=>⟨λhd=>absurd (zpt hd).1 aa,λhd hf v=>z6n aa v⟩)
  ·obtain⟨ac,ae⟩:=hb rfl
   refine⟨λhx=>?_,λhx=>?_⟩
   ·have Z:b=true:=by simpa using hx
    cases hd:l.all qu with
    |true=>rw[ac hd]at Z;cases Z
    |false=>rw[hd,if_neg (by simp)]at h;exact h
   ·have ah:b=false:=by simpa using hx
    refine z6c hg.err (s:=bl l) (by rw[zv];omega) ?_
    rw[Zk]
    unfold z6b
    cases hd:l.all qu with
    |true=>
     rw[z6l hd (by rintro rfl;simp at O) (by omega)]
     rw[hd,if_pos rfl]at h
     exact⟨λhx=>(by cases hx),λ_=>h⟩
    |false=>
     rw[hd,if_neg (by simp)]at h
     have:=ae hd ah
     cases ha:Lib.atoiAll l with
     |ok v=>exact absurd ha (this v)
     |range=>exact⟨λ_=>h,λhx=>by cases hx⟩
     |_=>exact⟨λ_=>h,λhx=>by cases hx⟩
end
end Go.X
end
section
namespace Go.X
section
variable {gl:Fr} {v:Tr} {R:Int -> Prop}
theorem zpu{l:Bs}(hl:l.length<=1048576){R:Int×Bool->Prop}(h:R (Ql l)):PC Tp gl 109 [Arg.mk .str (bl l)] [.int .i64,.bool] R:=by
 apply zbs
 simp only[zv,yq,show(0:Int).toNat=0 from rfl]
 unfold Ql at h
 have hg:(bif (bif decide ((l.length:Int)<1)then true else decide ((l.length:Int)>9))then true else(bif decide ((l.length:Int)>1)then((((l[0]?).getD 0).toNat:Int)==48)else false))=decide (l.length<1\/9<l.length\/(1<l.length/\l.head?=some 48)):=by
  cases l with
  |nil=>simp
  |cons c t=>
   have e:((c.toNat:Int)==48)=(c==48):=by
    have:=zad (c:=c) (n:=48) 48 rfl
    unfold bne at this
    rw[<-Es ((c.toNat:Int)==48),this,Es]
   show(bif (bif decide (((c::t:Bs).length:Int)<1)then true else decide (((c::t:Bs).length:Int)>9))then true else(bif decide (((c::t:Bs).length:Int)>1)then((c.toNat:Int)==48)else false))=_
   rw[e,AB,decide_eq_true_eq]
   have h0:¬(c::t:Bs).length<1:=by simp
   have ac:decide (((c::t:Bs).length:Int)<1)=false:=by simp;omega
   rw[ac,cond_false]
   generalize (c::t:Bs).length=n at *
   by_cases h9:9<n
   ·have:decide ((n:Int)>9)=true:=by simp;omega
    rw[this];simp[h9]
   ·have:decide ((n:Int)>9)=false:=by simp;omega
    rw[this,cond_false]
    by_cases h1:1<n
    ·have:decide ((n:Int)>1)=true:=by simp;omega
     rw[this];simp[h9,h0,h1]
    ·have:decide ((n:Int)>1)=false:=by simp;omega
     rw[this];simp[h9,h0,h1]
 rw[hg]
 by_cases Z:l.length<1\/9<l.length\/(1<l.length/\l.head?=some 48)
 ·rw[if_pos Z]at h
  rw[decide_eq_true Z]
  exact⟨λhx=>⟨by omega,by simp at hx;omega⟩,λ_=>h,λhx=>by cases hx⟩
 ·rw[if_neg Z]at h
  rw[decide_eq_false Z]
  have ae:1<=l.length:=by omega
  have af:l.length<=9:=by omega
  refine⟨λhx=>⟨by omega,by omega⟩,λhx=>(by cases hx),λ_=>?_⟩
  refine⟨λn i=>∃k:Nat,i=k/\k<=l.length/\n=(zj (l.take k):Int)/\(l.take k).all qu=true,λ_ i=>l.length-i.toNat,⟨0,rfl,by omega,by simp[zj],by simp⟩,?_⟩
  rintro n i ⟨k,rfl,hk,rfl,hd⟩
  refine⟨λhc=>?_,λhc=>?_⟩
  ·have O:k<l.length:=by simp at hc;omega
   rw[Ad,zdt O]
   have hu:=qci l[k]
   have key:((bif decide (((l[k]).toNat:Int)<48)then true else decide (((l[k]).toNat:Int)>57))=!(qu l[k])):=by
    unfold qu
    rw[AB]
    by_cases a:(l[k]).toNat<48
    ·have:decide (((l[k]).toNat:Int)<48)=true:=by simp;omega
     rw[this];simp;omega
    ·have:decide (((l[k]).toNat:Int)<48)=false:=by simp;omega
     rw[this,cond_false];simp;omega
   rw[key]
   refine⟨⟨by omega,by omega⟩,λ_=>⟨by omega,by omega⟩,λhx=>?_,λhx=>⟨⟨by omega,by omega⟩,?_⟩⟩
   ·have:l.all qu=false:=by
     rw[DK]
     exact⟨_,Ao O,by simpa using hx⟩
    rw[this,if_neg (by simp)]at h;exact h
   ·have aa:qu l[k]=true:=by simpa using hx
    have hr:48<=(l[k]).toNat/\(l[k]).toNat<=57:=by simpa[qu]using aa
    have hv:zj (l.take k)<10 ^ 9:=Qf (by rw[AL];omega) hd
    rw[zyk (by omega) (by omega),w64 (n:=((l[k]).toNat:Int)-48) (by omega),w64 (n:=10*(zj (l.take k):Int)) (by omega),w64 (by omega)]
    have hw:=yz O (by omega)
    rw[hw]
    refine⟨⟨k+1,rfl,by omega,?_,by rw[ztq O,hd,aa];rfl⟩,by simp only[Ad];omega⟩
    rw[wz O];omega
  ·have O:k=l.length:=by simp at hc;omega
   subst O
   rw[AE]at hd ⊢
   rw[hd,if_pos rfl]at h;exact h
theorem z6u(hg:GL gl){s:Bt}(hs:(lb s).length<=1048576)(h:R (qd v s)):PC Tp gl 117 [Arg.mk .tree v,Arg.mk .str s] [.int .i64] R:=by
 apply zid
 unfold qd at h
 refine⟨λh6=>?_,λh6=>⟨λh5=>?_,λh5=>?_⟩⟩
 ·have O:v.kind=6:=by simpa using h6
  rw[if_pos O]at h
  exact zaz h
 ·have O:v.kind≠6:=by simpa using h6
  have Z:v.kind=5:=by simpa using h5
  rw[if_neg O,if_pos Z]at h
  have hi:=zi1 hg (l:=lb s) hs (R:=λr=>r=Ql (lb s)) rfl
  rw[zaq]at hi
  refine hi.mono λr hr=>?_
  subst hr
  refine⟨λhx=>?_,λhx=>?_⟩
  ·rw[if_pos (by simpa using hx)]at h;exact h
  ·rw[if_neg (by simpa using hx)]at h;exact h
 ·have O:v.kind≠6:=by simpa using h6
  have Z:v.kind≠5:=by simpa using h5
  rw[if_neg O,if_neg Z]at h;exact h
theorem znb(hv:Sm v){s:Bt}(hs:(lb s).length<=1048576)(h:R (qd v s)):PC Tp gl 108 [Arg.mk .tree v,Arg.mk .str s] [.int .i64] R:=by
 have ai:=hv.keys
 apply zdk
 intro K hK
 have hi:=zpu (gl:=gl) (l:=lb s) hs (R:=λr=>r=Ql (lb s)) rfl
 rw[zaq]at hi
 unfold qd at h
 refine⟨λh6=>?_,λh6=>?_⟩
 ·have ae:v.kind=6:=by simpa using h6
  rw[if_pos ae]at h
  refine⟨λi=>∃k:Nat,i=k/\k<=v.keys.length/\∀j,j<k->v.keys.getD j D3≠s,λi=>v.keys.length-i.toNat,⟨0,rfl,by omega,λj hj=>by omega⟩,?_⟩
  rintro i ⟨k,rfl,hk,Z⟩
  refine⟨λhc=>?_,λhc=>?_⟩
  ·have O:k<v.keys.length:=by simp at hc;omega
   have af:v.keys.getD k D3=v.keys[k]:=by simp[List.getD,O]
   refine⟨v.keys[k],⟨by omega,zge O⟩,λhx=>?_,λhx=>?_⟩
   ·have ac:v.keys[k]=s:=by rw[xp,xp]at hx;exact zk9.1 (eq_of_beq hx)
    have:=Lib.idxOfS_hit v.keys v.keys.length k s O (Ae _) (by rw[af,ac]) Z
    rw[AE]at this
    rw[this]at h;exact h
   ·have ac:v.keys[k]≠s:=by intro e;rw[e]at hx;simp at hx
    have hw:=yz O (by omega)
    rw[hw]
    refine⟨⟨k+1,rfl,by omega,λj hj=>?_⟩,by simp only[Ad];omega⟩
    by_cases ah:j=k
    ·subst ah;rw[af];exact ac
    ·exact Z j (by omega)
  ·have O:k=v.keys.length:=by simp at hc;omega
   subst O
   refine hK (hi.mono λr hr=>?_)
   have:=Lib.idxOfS_miss v.keys v.keys.length s Z
   rw[AE]at this
   rw[this]at h
   have h5:(v.kind==5)=false:=by rw[z4g];simp;omega
   rw[h5]
   exact⟨λhx=>by simp at hx,λ_=>h⟩
 ·have ae:v.kind≠6:=by simpa using h6
  rw[if_neg ae]at h
  refine hK (hi.mono λr hr=>?_)
  subst hr
  by_cases h5:v.kind=5
  ·rw[if_pos h5]at h
   have aa:(v.kind==5)=true:=by rw[z4g];simpa using h5
   rw[aa,cond_true]
   refine⟨λhx=>?_,λhx=>?_⟩
   ·rw[if_pos (by simpa using hx)]at h;exact h
   ·rw[if_neg (by simpa using hx)]at h;exact h
  ·rw[if_neg h5]at h
   have aa:(v.kind==5)=false:=by rw[z4g];simpa using h5
   rw[aa]
   exact⟨λhx=>by simp at hx,λ_=>h⟩
end
end Go.X
end
