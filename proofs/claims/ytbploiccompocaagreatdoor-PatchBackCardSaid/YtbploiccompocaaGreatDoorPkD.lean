/- A part of the proof: nothing is stated here for its own sake. -/
import Derived.Test.YtbploiccompocaaGreatDoorPkC
import Derived.Test.YtbploiccompocaaGreatDoorTie
import Derived.Test.YtbploiccompocaaGreatDoorCards
import Derived.PinnedBridge
import Derived.Lay
import Derived.HandedShaped
import Derived.RangeFuncCalls
import Derived.OrdersIn
open _root_.Go.Addr renaming add->Aj
open _root_.Array renaming ext'->ED,getD_eq_getD_getElem?->Bi,getElem?_append_left->CB,getElem?_eq_getElem->AK,getElem?_eq_some_iff->Ac,getElem?_setIfInBounds_ne->AH,getElem?_toList->AU,replicate->Bc,size_push->Ak,toList->D9
open _root_.BitVec renaming ofInt->As,ofInt_natCast->D4,toNat_ofNat->Eh
open _root_.Bool renaming and_eq_true->AI,and_true->EG,cond_false_right->C9,cond_true_left->Ca,eq_iff_iff->AJ,false_eq_true->A0,false_or->Ec,not_eq_true'->Cb,or_eq_false_iff->Cx,or_eq_true->Cp,true_and->B0
open _root_.Go.Builtin renaming append_->Ax
open _root_.Go.Code renaming cond->EC,region->CX
open _root_.Go.Deferred renaming ofValue->D7
open _root_.False renaming elim->DI
open _root_.Go.Instr renaming lookup->D6,mapUpdate->CO,storeAt->Al
open _root_.Int renaming toNat_natCast->Ah,toNat_zero->C8
open _root_.Go.IntKind renaming bits->Ap,signed->Eo,wrap->Ab
open _root_.List renaming all_cons->DJ,all_eq_true->AP,any_cons->EO,any_eq_true->D8,append_assoc->AQ,append_nil->Ba,cons_append->A3,drop_drop->Ce,drop_eq_getElem_cons->AL,drop_eq_nil_of_le->A7,drop_length->C4,drop_take->Ep,drop_zero->A2,eq_nil_of_length_eq_zero->Aw,exists_cons_of_ne_nil->Cg,ext_getElem?->AZ,flatMap_cons->DR,getD_eq_getElem?_getD->Bm,getElem?_drop->AE,getElem?_eq_getElem->Ai,getElem?_eq_none->Bj,getElem?_eq_some_iff->Az,getElem?_map->Cc,getElem?_take->AC,getElem_mem->Ay,getElem_of_mem->Bf,isPrefixOf->Bw,length->CN,length_append->Ar,length_cons->Av,length_drop->AX,length_map->Bv,length_pos_iff->A5,length_singleton->CH,length_take->AY,map_append->Cq,map_id->EW,map_map->DG,mem_append->An,mem_append_left->Ao,mem_append_right->AB,mem_cons->Ad,mem_cons_of_mem->Af,mem_flatMap->Bp,mem_map->BC,mem_of_getElem?->Ct,mem_of_mem_take->BR,mem_range->BX,mem_singleton->Bu,nil_append->BJ,nodup_append->A6,nodup_nil->Ek,range->BE,replicate->Ei,singleton_append->DL,take_append_drop->BD,take_length->AN,take_of_length_le->Be,take_succ_cons->B5,take_succ_eq_append_getElem->Am,take_take->Er,take_zero->CM
open _root_.List.cons renaming injEq->Ci
open _root_.Nat renaming add_mul->BB,add_zero->Db,eq_of_beq_eq_true->Ag,le_of_ble_eq_true->BM,le_refl->Ae,lt_or_ge->AR,min_eq_left->CP,mod_eq_of_lt->Eb,mul_comm->CU,mul_le_mul_right->AM,mul_one->B6,one_mul->Dd,or_lt_two_pow->DZ,sub_zero->Cm,zero_add->AD,zero_le->CW,zero_mul->Dc
open _root_.Go.Op renaming bytesLess->CV
open _root_.Option renaming bind_some->Ck,map_eq_some_iff->CC
open _root_.Option.some renaming inj->Au,injEq->Aa
open _root_.Go.Region renaming wanted->BN
open _root_.Go.Proofs.Tryz renaming func191->Et,func221->De,func222->Eu,func231->Dw,func232->Dv,func236->Df,func237->Es,isAgg0->Cv,isAgg154->EM,isAgg176->Cj,isAgg21->Dg,isAgg3->BU,isAgg4->Cf,isAgg5->B7,isAgg9->BV,isAgg99->Ez,prog->AF,sizeOf0->Cn,sizeOf154->EA,sizeOf176->BZ,sizeOf21->CZ,sizeOf3->BP,sizeOf4->BW,sizeOf5->BS,sizeOf9->BQ,sizeOf99->Ee,underlying0->BI,underlying129->C7,underlying154->DD,underlying174->C5,underlying176->BG,underlying21->Co,underlying3->Bh,underlying4->Bn,underlying5->Bo,underlying9->A9,underlying99->Dh,zeroValue0->BO,zeroValue154->DX,zeroValue176->BK,zeroValue21->Cw,zeroValue3->Bq,zeroValue4->BF,zeroValue5->Bz,zeroValue9->Br,zeroValue99->Dp
open _root_.UInt8 renaming toNat_inj->Da
open _root_.Go.Utf8 renaming encode->EP
open _root_.Go.Value renaming agg->EY,int->EX,string->AW
open _root_.Go.Value.slice renaming injEq->AO
set_option linter.unusedVariables false
set_option maxRecDepth 100000
namespace Go.X
end Go.X
namespace Go.Proofs
end Go.Proofs
open Go Go.X Go.Proofs
section
namespace Go.X
section
variable {gl:Fr} {l:Bs}
theorem qcj(c:UInt8):(((c.toNat:Int)).toNat).toUInt8=c:=by simp
theorem z4k{l sep:Bs}{p:UInt8->Bool}(hp:∀c,p c=true↔c∈sep)(hl:l.length<=4611686018427387904){R:Bt×Bt×Bool->Prop}(h:R (bl (cutAt p l).1,bl (cutAt p l).2.1,(cutAt p l).2.2)):
  PC Tp gl 155 [Arg.mk .str (bl l),Arg.mk .str (bl sep)] [.str,.str,.bool] R:=by
 apply zlt
 simp only[zq,Qw,zkf]
 refine⟨λi=>∃k:Nat,i=k/\k<=l.length/\∀j (hj:j<l.length),j<k->p l[j]=false,λi=>l.length-i.toNat,⟨0,rfl,by omega,λj _ h=>by omega⟩,?_⟩
 rintro i ⟨k,rfl,hk,h2⟩
 refine⟨λhc=>?_,λhc=>?_⟩
 ·have O:k<l.length:=by simpa using hc
  simp only[Ah,z4i O]
  refine⟨by omega,Xf ?_⟩
  rw[qcj,js]
  have hm:=(zcy l[k] sep).2
  rw[Zz O hl]
  refine⟨λhx=>⟨by omega,by omega,?_⟩,λhx=>⟨⟨k+1,rfl,by omega,λj hj ac=>?_⟩,by simp;omega⟩⟩
  ·have Z:p l[k]=true:=(hp _).2 (hm.1 (by simpa using hx))
   rw[zsq O (λj hj=>h2 j (by omega) hj) Z]at h
   simp only[Ah,C8,A2,Cm]
   rw[Be (l:=l.drop (k+1)) (by simp)]
   exact h
  ·by_cases e:j=k
   ·subst e
    cases hpj:p l[j]with
    |false=>rfl
    |true=>exact absurd (hm.2 ((hp _).1 hpj)) (by simpa using hx)
   ·exact h2 j hj (by omega)
 ·have O:¬k<l.length:=by simpa using hc
  rw[zkh (λc aa=>by
   obtain⟨j,hj,rfl⟩:=Bf aa
   exact h2 j hj (by omega))]at h
  exact h
theorem zkj{c:UInt8}{R:Bt×Bool->Prop}(h:R (bl (if l.head?==some c then l.tail else l),l.head?==some c)):PC Tp gl 154 [Arg.mk .str (bl l),Arg.mk .str (bl [c])] [.str,.bool] R:=by
 refine zop ?_
 rw[js,js,zao,zcz];exact h
theorem zqq{c:UInt8}{R:Bt->Prop}(h:R (bl (if l.head?==some c then l.tail else l))):PC Tp gl 156 [Arg.mk .str (bl l),Arg.mk .str (bl [c])] [.str] R:=by
 refine zl7 ?_
 rw[js,js,zao];exact h
theorem zhf{R:Bt->Prop}(h:R (bl (l.dropWhile (· == 48)))):PC Tp gl 131 [Arg.mk .str (bl l),Arg.mk .str (bl [48])] [.str] R:=by
 refine zqk (c:=48) (by decide) ?_
 rw[js];exact h
theorem zvd(hl:l.length<=4611686018427387904){R:Bt->Prop}(h:R (bl (l.reverse.dropWhile (· == 48)).reverse)):PC Tp gl 132 [Arg.mk .str (bl l),Arg.mk .str (bl [48])] [.str] R:=by
 refine zoq (c:=48) (by decide) (by rw[zq];omega) ?_
 rw[js];exact h
theorem z6v{s:Bs}(hs:s.length<=4611686018427387904){R:(Bool×Bool×Bt×Bt×Bt)×Bool->Prop}
  (h1:zma s=true->R (((zi2 s).neg,(zi2 s).low,bl (zi2 s).whole,bl (zi2 s).rest,bl (zi2 s).exp),true)) (h2:zma s=false->∀a b c d e,R ((a,b,bl c,bl d,bl e),false)):
  PC Tp gl 130 [Arg.mk .str (bl s)] [.pair .bool (.pair .bool (.pair .str (.pair .str .str))),.bool] R:=by
 apply ziv
 refine zkj (c:=45) ?_
 dsimp only
 have hS:(z2f s).length<=s.length:=by unfold z2f;split <;> simp
 have hM:=zd4 isE (z2f s)
 refine z4k (l:=z2f s) (sep:=[101,69]) (p:=isE) (λc=>by simp[isE]) (by omega) ?_
 dsimp only
 have ar:(X6 s).1.length+(X6 s).2.1.length<=(z2f s).length:=hM
 have ai:∀(e:Bs) (low:Bool),((X6 s).2.2=true->X5 (zsr s)=true/\low=zes s/\e=zsr s)->((X6 s).2.2=false->low=false/\e=[]) ->
   PC Tp gl 155 [Arg.mk .str (bl (X6 s).1),Arg.mk .str (bl [46])] [.str,.str,.bool] (λO:Bt×Bt×Bool=>PC Tp gl 128 [Arg.mk .str O.1] [.bool] (λaa:Bool=>∃aj:Bool->Prop,(((!(!aa))&&O.2.2)=true->PC Tp gl 128 [Arg.mk .str O.2.1] [.bool] aj) /\
      ∀af:Bool,(((!(!aa))&&O.2.2)=true->aj af)->((bif (!aa)then true else(bif O.2.2 then(!af)else false))=true->R ((s.head?==some 45,(low,(O.1,(O.2.1,bl e)))),false)) /\
      ((bif (!aa)then true else(bif O.2.2 then(!af)else false))=false->((!((O.1:Bt).toList==((⟨#[48]⟩:Bt):Bt).toList))=true->(0<=(0:Int)/\(0:Int)<((O.1).size:Int))) /\
       R ((s.head?==some 45,(low,(O.1,(O.2.1,bl e)))),bif ((O.1:Bt).toList==((⟨#[48]⟩:Bt):Bt).toList)then true else((zf O.1 (0:Int).toNat:Int) != 48))))):=by
  intro e low k1 k2
  have ak:(!(X6 s).2.2||X5 (zsr s))=true/\zes s=low/\(if(X6 s).2.2 then zsr s else [])=e:=by
   cases hm:(X6 s).2.2 with
   |true=>obtain⟨a,b,c⟩:=k1 hm;exact⟨by simp[a],b.symm,by simp[c]⟩
   |false=>obtain⟨a,b⟩:=k2 hm;exact⟨rfl,by unfold zes;rw[hm,a];rfl,by simp[b]⟩
  refine z4k (l:=(X6 s).1) (sep:=[46]) (p:=z2g) (λc=>by simp[z2g]) (by omega) ?_
  refine zcx ⟨λx=>X5 (Qx s).2.1=x,λ_=>zcx rfl,λy hy=>?_⟩
  dsimp only
  simp only[show(⟨#[48]⟩:Bt)=bl [48]from rfl,zi1,zq,Qw]
  change (_->X5 (Qx s).2.1=y)at hy
  show((bif (!X5 (Qx s).1)then true else(bif (Qx s).2.2 then(!y)else false))=true->R ((s.head?==some 45,(low,(bl (Qx s).1,(bl (Qx s).2.1,bl e)))),false)) /\
      ((bif (!X5 (Qx s).1)then true else(bif (Qx s).2.2 then(!y)else false))=false->((!decide ((Qx s).1=[48]))=true->(0<=(0:Int)/\(0:Int)<((Qx s).1.length:Int))) /\
       R ((s.head?==some 45,(low,(bl (Qx s).1,(bl (Qx s).2.1,bl e)))),bif decide ((Qx s).1=[48])then true else(((((Qx s).1[(0:Int).toNat]?).getD 0).toNat:Int) != 48)))
  have am:X5 (Qx s).1=true->(Qx s).2.2=true->X5 (Qx s).2.1=y:=λa b=>hy (by
   show((!(!X5 (Qx s).1))&&(Qx s).2.2)=true
   rw[a,b];rfl)
  refine⟨λhx=>h2 ?_ _ _ _ _ _,λhx=>⟨λ_=>?_,?_⟩⟩
  ·unfold zma
   cases hd:X5 (Qx s).1 with
   |false=>simp
   |true=>
    rw[hd]at hx
    cases hw:(Qx s).2.2 with
    |false=>rw[hw]at hx;simp at hx
    |true=>
     rw[hw]at hx
     have:=am hd hw
     rw[this]
     simp at hx;simp[hx]
  all_goals
   have hd:X5 (Qx s).1=true:=by
    cases hd:X5 (Qx s).1 with
    |true=>rfl
    |false=>rw[hd]at hx;simp at hx
   have hp:=zst hd
  ·omega
  ·have h3:(!(Qx s).2.2||X5 (Qx s).2.1)=true:=by
    cases hw:(Qx s).2.2 with
    |false=>rfl
    |true=>
     rw[hd,hw]at hx
     have:=am hd hw
     rw[this];simpa using hx
   have h4:(bif decide ((Qx s).1=[48])then true else(((((Qx s).1[(0:Int).toNat]?).getD 0).toNat:Int) != 48))=((Qx s).1==[48]||(Qx s).1.head? != some 48):=by
    rw[show(0:Int).toNat=0 from rfl,zss hp,Ca,AJ];simp
   have ah:zma s=((Qx s).1==[48]||(Qx s).1.head? != some 48):=by
    unfold zma;rw[ak.1,hd,h3];simp
   rw[h4]
   cases ho:((Qx s).1==[48]||(Qx s).1.head? != some 48)with
   |true=>
    have:=h1 (ah.trans ho)
    unfold zi2 at this
    rw[ak.2.1,ak.2.2]at this
    exact this
   |false=>exact h2 (ah.trans ho) _ _ _ _ _
 intro K hK
 refine⟨λhm=>?_,λhm=>?_⟩
 ·have ae:(X6 s).2.2=true:=hm
  refine zkj (c:=45) (l:=(X6 s).2.1) ?_
  dsimp only
  intro K2 ap
  have step:∀low e,low=zes s->e=zsr s->K2 (bl e) (s.head?==some 45) low (bl []) (bl []) (bl []):=by
   intro low e an al
   refine ap _ _ _ _ _ _ (zcx ⟨λhx=>?_,λhx=>?_⟩)
   ·refine h2 ?_ _ _ [] [] []
    unfold zma;rw[ae,<-al]
    have:X5 e=false:=by simpa using hx
    rw[this];rfl
   ·refine hK _ _ _ _ _ _ (ai e low (λ_=>⟨by rw[<-al];simpa using hx,an,al⟩) λh=>by rw[ae]at h;cases h)
  have ac:zes s=((X6 s).2.1.head?==some 45):=by unfold zes;rw[ae];rfl
  refine⟨λhx=>?_,λhx=>?_⟩
  ·have Z:((X6 s).2.1.head?==some 45)=false:=by simpa using hx
   rw[Z]
   refine zqq (c:=43) ?_
   simp only[A0,if_false]
   refine step false _ (by rw[ac,Z]) ?_
   unfold zsr;rw[ac,Z];simp
  ·have Z:((X6 s).2.1.head?==some 45)=true:=by simpa using hx
   rw[Z]
   simp only[if_true]
   refine step true _ (by rw[ac,Z]) ?_
   unfold zsr;rw[ac,Z];simp
 ·have ae:(X6 s).2.2=false:=hm
  have he:(X6 s).2.1=[]:=(zd3 ae).2
  have:=ai [] false (λh=>by rw[ae]at h;cases h) λ_=>⟨rfl,rfl⟩
  show K (bl (X6 s).2.1) _ _ _ _ _
  rw[he]
  exact hK _ _ _ _ _ _ this
theorem qal{α β γ δ:Type}{B:α->β->γ->δ->Prop}{c:Bool}{a b:α}{x:β}{y:γ}{z:δ}(h:∀e,e=(bif c then a else b)->B e x y z):∀K:α->β->γ->δ->Prop,(∀e x y z,B e x y z->K e x y z)->(c=true->K a x y z)/\(c=false->K b x y z):=
 λK hK=>⟨λhc=>hK _ _ _ _ (h _ (by subst hc;rfl)),λhc=>hK _ _ _ _ (h _ (by subst hc;rfl))⟩
theorem w64{n:Int}(h:-4611686018427387904<=n/\n<=4611686018427387904):Ab .i64 n=n:=wrap64 (by omega) (by omega)
set_option maxHeartbeats 1000000 in
theorem zsv{s:Bs}(hs:s.length<=1152921504606846976){R:(Bool×Bt×Int)×Int->Prop}(h:R (nmB (yy s).1,(yy s).2)):PC Tp gl 98 [Arg.mk .str (bl s)] [tN,.int .i64] R:=by
 apply zg5
 refine z6v (by omega) (λac=>?_) (λac a b c d e=>?_)
 rotate_left
 ·refine zhf ⟨λ_=>?_,λhx=>by cases hx⟩
  have:zcw s=none:=by unfold zcw;simp[ac]
  unfold yy at h
  rw[this]at h;exact h
 ·have O:zcw s=some (zi2 s):=by unfold zcw;simp[ac]
  have ax:=zki O
  obtain⟨d1,d2,d3⟩:=zqp O
  unfold yy at h
  rw[O]at h
  simp only at h
  generalize zi2 s=x at *
  refine zhf ⟨λhx=>(by cases hx),λ_=>?_⟩
  simp only[zq]
  rw[w64 (by omega)]
  refine⟨λhx=>?_,λhx=>?_⟩
  ·rw[if_pos (by simp at hx;omega)]at h;exact h
  ·rw[if_neg (by simp at hx;omega)]at h
   refine⟨λaa=>?_,λaa=>?_⟩
   ·rw[if_pos (by simp at aa;omega)]at h;exact h
   ·rw[if_neg (by simp at aa;omega)]at h
    have an:x.whole.length+x.rest.length<=1000:=by simp at hx;omega
    have aA:x.exp.all yq=true:=d3
    generalize hE:x.exp.dropWhile (· == 48)=E at *
    have ae:E.all yq=true:=by rw[<-hE];exact J3 d3
    have ap:E.length<=9:=by simp at aa;omega
    have aB:zr E<10 ^ 9:=Xg ap ae
    refine⟨λe _ _ _ p=>p.1=bl E/\p.2<=E.length/\e=(zr (E.take p.2):Int),λ_ _ _ _ p=>E.length-p.2,⟨rfl,by omega,by simp[zr]⟩,?_⟩
    rintro e b1 b2 b3 ⟨_,p⟩ ⟨rfl,hp,rfl⟩
    simp only at hp ⊢
    rw[zos,zsp]
    refine⟨λhc=>⟨hc,?_⟩,λhc=>?_⟩
    ·have Z:p<E.length:=by simpa using hc
     have hd:=z4j ae Z
     have al:E.drop p=E[p]::E.drop (p+1):=AL Z
     rw[zkg E p Z,al,W9 (by omega)]
     have az:=Xg (n:=9) (l:=E.take p) (by simp;omega) (zsu ae p)
     rw[z6q (by omega) (by omega),w64 (n:=10*_) (by omega),w64 (n:=(_:Int)-48) (by omega),w64 (by omega)]
     simp only
     refine⟨⟨trivial,by omega,?_⟩,by omega⟩
     rw[zhe Z];omega
    ·have Z:¬p<E.length:=by simpa using hc
     have ar:p=E.length:=by omega
     subst ar
     rw[AN]
     apply qal
     intro e7 au
     refine⟨by unfold Wp;omega,?_⟩
     rw[Y6]
     refine zhf ?_
     rw[show(⟨#[]⟩:Bt)=bl []from rfl]
     simp only[zi1]
     have hD:(x.whole++x.rest).all yq=true:=by rw[List.all_append,zft d1,d2];rfl
     refine⟨λaf=>?_,λaf=>?_⟩
     ·rw[if_pos (by simpa using af)]at h;exact h
     ·have ah:(x.whole++x.rest).dropWhile (· == 48)≠[]:=by simpa using af
      rw[if_neg ah]at h
      have am:=Ze (x.whole++x.rest) (· == 48)
      rw[Ar]at am
      refine zvd (by omega) ?_
      have ay:=(zc0 hD ah).2.1
      have ak:=zvc hD ah (by rw[Ar];exact an)
      simp only[zq,show((List.dropWhile (λx=>x==48) (x.whole++x.rest)).reverse.dropWhile (λx=>x==48)).reverse=jr (x.whole++x.rest)from rfl]
      have aj:e7=if x.low then-(zr E:Int)else(zr E:Int):=by rw[au];cases x.low <;> simp;exact w64 (by omega)
      have hb:-1000000000<=e7/\e7<=1000000000:=by rw[aj];split <;> omega
      rw[w64 (n:=e7-_) (by omega),w64 (n:=e7-_+_) (by omega),w64 (by omega)]
      refine zmb (n:=(x.neg,jr (x.whole++x.rest),e7-(x.rest.length:Int)+(((x.whole++x.rest).dropWhile (· == 48)).length:Int)-((jr (x.whole++x.rest)).length:Int))) (by simp only;omega) ?_
      rw[ak]
      change R (nmB (if -1000000<=(if x.low=true then-(zr E:Int)else(zr E:Int))-(x.rest.length:Int)+(((x.whole++x.rest).dropWhile (· == 48)).length:Int)-((jr (x.whole++x.rest)).length:Int)/\(if x.low=true then-(zr E:Int)else(zr E:Int))-(x.rest.length:Int)+(((x.whole++x.rest).dropWhile (· == 48)).length:Int)-((jr (x.whole++x.rest)).length:Int)<=1000000 then((x.neg,jr (x.whole++x.rest),(if x.low=true then-(zr E:Int)else(zr E:Int))-(x.rest.length:Int)+(((x.whole++x.rest).dropWhile (· == 48)).length:Int)-((jr (x.whole++x.rest)).length:Int)),0)else((false,[],0),4)).1,_)at h
      rw[<-aj]at h
      refine⟨λai=>?_,λai=>?_⟩
      ·rw[if_neg (by simp at ai;omega)]at h;exact h
      ·rw[if_pos (by simp at ai;omega)]at h;exact h
end
section
variable {gl:Fr}
theorem zyj{a b:Bs}(h:a.length+b.length<=4611686018427387904):Wp ((bl a).size+(bl b).size):=by
 unfold Wp;rw[zq,zq];omega
theorem zyk(hg:Pow gl){n:Nm}(hn:n.2.1.length<=4611686018427387904){R:Bt->Prop}(h:R (bl (zan n))):PC Tp gl 56 [Arg.mk tN (nmB n)] [.str] R:=by
 apply ziq
 refine zmb hn ⟨λhx=>?_,λhx=>?_⟩
 ·have:j4 n=false:=by simpa using hx
  have e:zan n=[]:=by unfold zan;simp[this]
  rw[e]at h;exact h
 ·have hr:j4 n=true:=by simpa using hx
  obtain⟨hl,aa,ae⟩:=zhc hr
  unfold zan at h
  rw[if_pos hr]at h
  simp only[show(⟨#[]⟩:Bt)=bl []from rfl,zi1]
  refine⟨λZ=>?_,λZ=>?_⟩
  ·rw[if_pos (by simpa using Z)]at h;exact h
  ·rw[if_neg (by simpa using Z)]at h
   intro K hK
   have key:∀t:Bs,t=(if n.1 then [45]else [])++n.2.1->K (bl t):=by
    intro t ht
    have af:t.length<=1001:=by rw[ht];split <;> simp <;> omega
    rw[<-ht]at h
    refine hK _ ⟨λO=>?_,λO=>?_⟩
    ·rw[if_neg (by simpa using O)]at h
     have ac:=Go.X.itoa_len n.2.2
     refine zyi hg (by omega) (by omega) ?_
     refine⟨zyj (a:=[101]) (by simp;omega),?_⟩
     rw[show(⟨#[101]⟩:Bt)=bl [101]from rfl,Y6,Y6]
     exact⟨zyj (by simp;omega),h⟩
    ·rw[if_pos (by simpa using O),Ba]at h;exact h
   refine⟨λO=>⟨zyj (a:=[45]) (by simp;omega),?_⟩,λO=>?_⟩
   ·rw[show(⟨#[45]⟩:Bt)=bl [45]from rfl,Y6]
    exact key _ (by rw[if_pos (by simpa using O)])
   ·exact key _ (by rw[if_neg (by simpa using O)];rfl)
theorem qck(hg:Pow gl){n:Int}(h1:-9223372036854775808<=n)(h2:n<=9223372036854775807){R:Bool×Bt×Int->Prop}(h:R (nmB (yy (Lib.itoa n)).1)):PC Tp gl 57 [Arg.mk (.int .i64) n] [tN] R:=by
 apply zom
 refine zyi hg h1 h2 (zsv ?_ h)
 have:=Go.X.itoa_len n
 have O:∀u:Nat,u<10 ^ 20->(Lib.decDigits u).length<=20:=by
  have:∀(k u:Nat),u<10 ^ (k+1)->(Lib.decDigits u).length<=k+1:=by
   intro k
   induction k with
   |zero=>intro u hu;rw[Lib.decDigits,dif_pos (by simpa using hu)];simp
   |succ k ih=>
    intro u hu
    rw[Lib.decDigits]
    split
    ·simp
    ·have:=ih (u / 10) (by rw[Nat.pow_succ]at hu;omega)
     simp;omega
  exact this 19
 have:(Lib.itoa n).length<=21:=by
  unfold Lib.itoa
  split
  ·have:=O n.natAbs (by omega);simp;omega
  ·have:=O n.toNat (by omega);omega
 omega
end
section
theorem J4{c:UInt8}{n:Int}(d:UInt8)(hn:n=(d.toNat:Int)):((c.toNat:Int) != n)=!(c==d):=by
 subst hn
 rw[AJ]
 simp only[bne_iff_ne,ne_eq,Int.natCast_inj,Cb,beq_eq_false_iff_ne]
 exact⟨λh e=>h (by rw[e]),λh e=>h (Da.1 e)⟩
end
end Go.X
end
section
namespace Go.X
open Go Go.Lib
section
variable {a b b0 b1 b2 b3 b4 b5 b6 b7:Nat}
theorem zyl(l:Bs)(a:Nat):l.foldl (λn c=>10*n+(c.toNat-48)) a=a*10 ^ l.length+zr l:=by
 induction l generalizing a with
 |nil=>simp[zr]
 |cons c t ih=>
  simp only[List.foldl_cons,Av,zr]
  rw[ih,ih (10*0+(c.toNat-48)),Nat.pow_succ]
  have:(10*a+(c.toNat-48))*10 ^ t.length=a*(10 ^ t.length*10)+(c.toNat-48)*10 ^ t.length:=by
   rw[BB,CU 10 a,Nat.mul_assoc,CU 10 (10 ^ t.length)]
  rw[this];simp;omega
theorem J5(a b:Bs):zr (a++b)=zr a*10 ^ b.length+zr b:=by
 rw[zr,List.foldl_append,zyl];rfl
theorem zou(n:Nat):zr (Ei n 48)=0:=by
 induction n with
 |zero=>rfl
 |succ n ih=>rw[List.replicate_succ];exact ih
theorem zov:∀(l:Bs) (acc:Nat),l.all yq=true->acc*10 ^ l.length+zr l<10 ^ 19->parseUintM (2 ^ 64-1) acc l=.ok (acc*10 ^ l.length+zr l)
 |[],acc,_,_=>by simp[parseUintM,zr]
 |c::t,acc,hd,hl=>by
  rw[DJ,AI]at hd
  have hc:48<=c.toNat/\c.toNat<=57:=by simpa[yq]using hd.1
  have e:zr (c::t)=(c.toNat-48)*10 ^ t.length+zr t:=by
   have:=J5 [c] t
   rw[DL]at this
   rw[this];simp[zr]
  have e2:(acc*10+(c.toNat-48))*10 ^ t.length+zr t=acc*10 ^ (c::t).length+zr (c::t):=by
   rw[e,Av,Nat.pow_succ,BB,Nat.mul_assoc,CU 10 (10 ^ t.length)];omega
  have hp:1<=10 ^ t.length:=Nat.one_le_pow _ _ (by decide)
  have hb:acc*10+(c.toNat-48)<=acc*10 ^ (c::t).length+zr (c::t):=by
   rw[<-e2]
   calc acc*10+(c.toNat-48)=(acc*10+(c.toNat-48))*1:=by omega
    _<=(acc*10+(c.toNat-48))*10 ^ t.length:=Nat.mul_le_mul_left _ hp
    _<=_:=by omega
  rw[parseUintM,if_pos hc,if_neg (by omega),if_neg (by omega),zov t _ hd.2 (by rw[e2];exact hl),e2]
def Y7(n:Nm):Bs:=n.2.1++Ei n.2.2.toNat 48
theorem zve(n:Nm):zr (Y7 n)=zr n.2.1*10 ^ n.2.2.toNat:=by
 rw[Y7,J5,zou,List.length_replicate,Db]
theorem zqr{n:Nm}(h:j4 n=true):n.2.1.all yq=true:=by
 unfold j4 zer at h
 rcases Cp _ _ ▸ h with h|h
 ·simp at h;rw[h.2.1];rfl
 ·simp only[AI]at h;exact zft h.1.1.1.1.1
theorem zvf{n:Nm}(h:j4 n=true):(Y7 n).all yq=true:=by
 rw[Y7,List.all_append,zqr h,B0,AP]
 intro x hx
 rw[List.mem_replicate]at hx
 rw[hx.2];rfl
theorem zym{l:Bs}(neg:Bool)(hd:l.all yq=true)(hl:l.length<=19)(O:l≠[]):
  parseIntB 64 ((if neg then [45]else [])++l)=if neg then(if zr l<=9223372036854775808 then .ok (-(zr l:Int))else .range)else(if zr l<=9223372036854775807 then .ok (zr l:Int)else .range):=by
 have hv:zr l<10 ^ 19:=Xg hl hd
 have hp:=zov l 0 hd (by rw[Dc];omega)
 rw[Dc,AD]at hp
 cases neg with
 |true=>
  simp only[if_true,DL]
  unfold parseIntB
  simp only[show(45:UInt8).toNat=45 from rfl,or_true,if_true]
  unfold parseUintB
  rw[if_neg O,hp]
  simp only[not_true_eq_false,false_and,if_false,true_and]
  split
  ·rename_i h;rw[if_neg (by omega)]
  ·rename_i h;rw[if_pos (by omega)]
 |false=>
  simp only[A0,if_false,BJ]
  obtain⟨c,t,rfl⟩:=Cg O
  have hc:48<=c.toNat/\c.toNat<=57:=by
   rw[DJ,AI]at hd
   simpa[yq]using hd.1
  unfold parseIntB
  simp only
  rw[if_neg (by omega)]
  unfold parseUintB
  rw[if_neg (by simp),hp]
  have Z:¬c.toNat=45:=by omega
  simp only[Z,not_false_eq_true,true_and,false_and,if_false]
  split
  ·rename_i h;rw[if_neg (by omega)]
  ·rename_i h;rw[if_pos (by omega)]
theorem zyn(ha:a<18446744073709551616)(hb:b<18446744073709551616):Ab .u64 (((As (Ap .u64) (a:Int)) ||| (As (Ap .u64) (b:Int))).toNat:Int)=((a ||| b:Nat):Int):=by
 have O:Ap .u64=64:=rfl
 have e:((As (Ap .u64) (a:Int)) ||| (As (Ap .u64) (b:Int))).toNat=a ||| b:=by
  rw[BitVec.toNat_or,D4,D4,Eh,Eh,O,Eb (by omega),Eb (by omega)]
 rw[e]
 have Z:a ||| b<2 ^ 64:=DZ (by omega) (by omega)
 unfold Ab
 have e1:(2:Int) ^ Ap .u64=18446744073709551616:=by decide
 simp only[e1]
 have hs:Eo .u64=false:=rfl
 simp only[hs,Bool.false_and,A0,if_false]
 omega
theorem z6w(ha:a<18446744073709551616)(hb:b<18446744073709551616):Ab .u64 (((As (Ap .u64) (a:Int)) &&& (As (Ap .u64) (b:Int))).toNat:Int)=((a &&& b:Nat):Int):=by
 have O:Ap .u64=64:=rfl
 have e:((As (Ap .u64) (a:Int)) &&& (As (Ap .u64) (b:Int))).toNat=a &&& b:=by
  rw[BitVec.toNat_and,D4,D4,Eh,Eh,O,Eb (by omega),Eb (by omega)]
 rw[e]
 have Z:a &&& b<2 ^ 64:=Nat.and_lt_two_pow _ (by omega)
 unfold Ab
 have e1:(2:Int) ^ Ap .u64=18446744073709551616:=by decide
 simp only[e1]
 have hs:Eo .u64=false:=rfl
 simp only[hs,Bool.false_and,A0,if_false]
 omega
theorem z6x{n:Int}(h1:0<=n)(h2:n<18446744073709551616):Ab .u64 n=n:=by
 unfold Ab
 have e1:(2:Int) ^ Ap .u64=18446744073709551616:=by decide
 simp only[e1]
 have hs:Eo .u64=false:=rfl
 simp only[hs,Bool.false_and,A0,if_false]
 omega
theorem Xh{n:Nat}(h:n<256):n.testBit 7=false↔n<128:=by
 rw[Nat.testBit_eq_decide_div_mod_eq]
 simp;omega
def MASK:Nat:=9259542123273814144
theorem z2j:∀i,i<8->MASK.testBit (8*i+7)=true:=by decide
theorem z2k{w:Nat}(h:w &&& MASK=0):∀i,i<8->w.testBit (8*i+7)=false:=by
 intro i hi
 have:=congrArg (λx=>x.testBit (8*i+7)) h
 simp only[Nat.testBit_and,z2j i hi,EG,Nat.zero_testBit]at this
 exact this
def zyo(b0 b1 b2 b3 b4 b5 b6 b7:Nat):Nat:=((((((b0 ||| b1*2 ^ 8) ||| b2*2 ^ 16) ||| b3*2 ^ 24) ||| b4*2 ^ 32) ||| b5*2 ^ 40) ||| b6*2 ^ 48) ||| b7*2 ^ 56
theorem qam(b k j:Nat):(b*2 ^ k).testBit j=(decide (k<=j)&&b.testBit (j-k)):=by
 rw[Nat.testBit_mul_two_pow]
theorem zvg{j:Nat}:(zyo b0 b1 b2 b3 b4 b5 b6 b7).testBit j=(b0.testBit j||(decide (8<=j)&&b1.testBit (j-8))||(decide (16<=j)&&b2.testBit (j-16))||(decide (24<=j)&&b3.testBit (j-24))||(decide (32<=j)&&b4.testBit (j-32))||(decide (40<=j)&&b5.testBit (j-40))||(decide (48<=j)&&b6.testBit (j-48))||(decide (56<=j)&&b7.testBit (j-56))):=by
 unfold zyo
 simp only[Nat.testBit_or,qam]
theorem zqs(h:∀i,i<8->(zyo b0 b1 b2 b3 b4 b5 b6 b7).testBit (8*i+7)=false)(r0:b0<256)(r1:b1<256)(r2:b2<256)(r3:b3<256)(r4:b4<256)(r5:b5<256)(r6:b6<256)(r7:b7<256):
  b0<128/\b1<128/\b2<128/\b3<128/\b4<128/\b5<128/\b6<128/\b7<128:=by
 have h0:=h 0 (by decide);have h1:=h 1 (by decide);have h2:=h 2 (by decide);have h3:=h 3 (by decide)
 have h4:=h 4 (by decide);have h5:=h 5 (by decide);have h6:=h 6 (by decide);have h7:=h 7 (by decide)
 rw[zvg]at h0 h1 h2 h3 h4 h5 h6 h7
 simp only[Cx,Bool.and_eq_false_iff]at h0 h1 h2 h3 h4 h5 h6 h7
 refine⟨(Xh r0).1 ?_,(Xh r1).1 ?_,(Xh r2).1 ?_,(Xh r3).1 ?_,(Xh r4).1 ?_,(Xh r5).1 ?_,(Xh r6).1 ?_,(Xh r7).1 ?_⟩
 ·exact h0.1.1.1.1.1.1.1
 ·rcases h1.1.1.1.1.1.1.2 with h|h
  ·simp at h
  ·simpa using h
 ·rcases h2.1.1.1.1.1.2 with h|h
  ·simp at h
  ·simpa using h
 ·rcases h3.1.1.1.1.2 with h|h
  ·simp at h
  ·simpa using h
 ·rcases h4.1.1.1.2 with h|h
  ·simp at h
  ·simpa using h
 ·rcases h5.1.1.2 with h|h
  ·simp at h
  ·simpa using h
 ·rcases h6.1.2 with h|h
  ·simp at h
  ·simpa using h
 ·rcases h7.2 with h|h
  ·simp at h
  ·simpa using h
theorem zet{l:Bs}:∀{n:Nat},n<=l.length->(∀i (hi:i<l.length),i<n->l[i].toNat<128)->j9 l=j9 (l.drop n)
 |0,_,_=>by simp
 |n+1,hn,h=>by
  rw[zet (n:=n) (by omega) (λi hi O=>h i hi (by omega))]
  rw[AL (show n<l.length by omega),xu (h n (by omega) (by omega))]
end
end Go.X
end
section
namespace Go.X
section
variable {gl:Fr} {l:Bs}
def bN(l:Bs)(i:Nat):Nat:=(l[i]?.getD 0).toNat
theorem Y8(l:Bs)(i:Nat):bN l i<256:=(l[i]?.getD 0).toNat_lt
theorem zsw(l:Bs)(i:Nat):zf (bl l) i=((bN l i:Nat):Int):=Qw l i
def Z8(l:Bs):Nat:=zyo (bN l 0) (bN l 1) (bN l 2) (bN l 3) (bN l 4) (bN l 5) (bN l 6) (bN l 7)
theorem yz(l:Bs):Z8 l<18446744073709551616:=by
 have h:=Y8 l
 have o:∀a b:Nat,a<2 ^ 64->b<2 ^ 64->a ||| b<2 ^ 64:=λa b ha hb=>DZ ha hb
 show _<2 ^ 64
 unfold Z8 zyo
 refine o _ _ (o _ _ (o _ _ (o _ _ (o _ _ (o _ _ (o _ _ ?_ ?_) ?_) ?_) ?_) ?_) ?_) ?_
 ·have:=h 0;omega
 ·have:=h 1;omega
 ·have:=h 2;omega
 ·have:=h 3;omega
 ·have:=h 4;omega
 ·have:=h 5;omega
 ·have:=h 6;omega
 ·have:=h 7;omega
theorem zbi(a k:Nat)(c:Int)(hc:c=((2 ^ k:Nat):Int)):(a:Int)*c=((a*2 ^ k:Nat):Int):=by rw[hc];omega
theorem zbj(hl:8<=l.length){R:Int->Prop}(h:R (Z8 l:Int)):PC Tp gl 170 [Arg.mk .str (bl l)] [.int .u64] R:=by
 apply Qu
 refine⟨λhx=>(by cases hx),λ_=>?_⟩
 simp only[zq,zsw,show(0:Int).toNat=0 from rfl,show(1:Int).toNat=1 from rfl,show(2:Int).toNat=2 from rfl,show(3:Int).toNat=3 from rfl,show(4:Int).toNat=4 from rfl,show(5:Int).toNat=5 from rfl,show(6:Int).toNat=6 from rfl,show(7:Int).toNat=7 from rfl]
 refine⟨by omega,by omega,by omega,by omega,by omega,by omega,by omega,by omega,?_⟩
 have r:=Y8 l
 have r0:=r 0;have r1:=r 1;have r2:=r 2;have r3:=r 3;have r4:=r 4;have r5:=r 5;have r6:=r 6;have r7:=r 7
 have m1:=zbi (bN l 1) 8 (2 ^ 8) (by decide);have m2:=zbi (bN l 2) 16 (2 ^ 16) (by decide);have m3:=zbi (bN l 3) 24 (2 ^ 24) (by decide);have m4:=zbi (bN l 4) 32 (2 ^ 32) (by decide)
 have m5:=zbi (bN l 5) 40 (2 ^ 40) (by decide);have m6:=zbi (bN l 6) 48 (2 ^ 48) (by decide);have m7:=zbi (bN l 7) 56 (2 ^ 56) (by decide)
 have o:∀a b:Nat,a<18446744073709551616->b<18446744073709551616->a ||| b<18446744073709551616:=λa b ha hb=>DZ (n:=64) ha hb
 have w:∀n:Nat,n<18446744073709551616->Ab .u64 (n:Int)=(n:Int):=λn hn=>z6x (by omega) (by omega)
 rw[w (bN l 0) (by omega),w (bN l 1) (by omega),w (bN l 2) (by omega),w (bN l 3) (by omega),w (bN l 4) (by omega),w (bN l 5) (by omega),w (bN l 6) (by omega),w (bN l 7) (by omega),m1,m2,m3,m4,m5,m6,m7]
 rw[w (bN l 1*2 ^ 8) (by omega),w (bN l 2*2 ^ 16) (by omega),w (bN l 3*2 ^ 24) (by omega),w (bN l 4*2 ^ 32) (by omega),w (bN l 5*2 ^ 40) (by omega),w (bN l 6*2 ^ 48) (by omega),w (bN l 7*2 ^ 56) (by omega)]
 have q1:bN l 0 ||| bN l 1*2 ^ 8<18446744073709551616:=o _ _ (by omega) (by omega)
 have q2:=o _ (bN l 2*2 ^ 16) q1 (by omega)
 have q3:=o _ (bN l 3*2 ^ 24) q2 (by omega)
 have q4:=o _ (bN l 4*2 ^ 32) q3 (by omega)
 have q5:=o _ (bN l 5*2 ^ 40) q4 (by omega)
 have q6:=o _ (bN l 6*2 ^ 48) q5 (by omega)
 rw[zyn (by omega) (by omega),zyn q1 (by omega),zyn q2 (by omega),zyn q3 (by omega),zyn q4 (by omega),zyn q5 (by omega),zyn q6 (by omega)]
 exact h
theorem Zr(hl:8<=l.length)(h:Z8 l &&& MASK=0):j9 l=j9 (l.drop 8):=by
 have hs:=zqs (z2k h) (Y8 l 0) (Y8 l 1) (Y8 l 2) (Y8 l 3) (Y8 l 4) (Y8 l 5) (Y8 l 6) (Y8 l 7)
 refine zet hl λi hi Z=>?_
 have e:∀j (hj:j<l.length),bN l j=l[j].toNat:=λj hj=>by unfold bN;rw[z4i hj]
 obtain⟨s0,s1,s2,s3,s4,s5,s6,s7⟩:=hs
 have O:i=0\/i=1\/i=2\/i=3\/i=4\/i=5\/i=6\/i=7:=by omega
 rw[<-e i hi]
 rcases O with rfl|rfl|rfl|rfl|rfl|rfl|rfl|rfl <;> assumption
theorem zmc{a b:Nat}(h:(a ||| b) &&& MASK=0):a &&& MASK=0/\b &&& MASK=0:=by
 have key:∀x y:Nat,x ||| y=0->x=0:=by
  intro x y O
  apply Nat.eq_of_testBit_eq
  intro i
  have:=congrArg (λz=>z.testBit i) O
  simp only[Nat.testBit_or,Nat.zero_testBit,Cx]at this
  rw[this.1,Nat.zero_testBit]
 have e:(a ||| b) &&& MASK=(a &&& MASK) ||| (b &&& MASK):=by
  apply Nat.eq_of_testBit_eq
  intro i
  simp only[Nat.testBit_and,Nat.testBit_or,Bool.and_or_distrib_right]
 rw[e]at h
 exact⟨key _ _ h,key _ _ (by rw[Nat.or_comm];exact h)⟩
theorem zvh{n:Int}{k:Nat}(hn:n=(k:Int)):(bl l).extract n.toNat ((l.length:Int)).toNat=bl (l.drop k):=by
 subst hn
 rw[Ah,Ah,zkf,Be (by simp)]
theorem Tabs.first(h:Tabs gl){c:Nat}(hc:c<256):zgm gl 0 (0+c*1) (.int .u8 (Lib.firstT c)):=by
 obtain⟨⟨cs,a,b⟩,_⟩:=h
 exact⟨cs,a,by rw[AD,B6];exact b c hc⟩
theorem Tabs.acc(h:Tabs gl){i:Nat}(hi:i<16):zgm gl 1 (0+i*2) (.int .u8 (Lib.accLo i))/\zgm gl 1 (0+i*2+1) (.int .u8 (Lib.accHi i)):=by
 obtain⟨_,cs,a,b⟩:=h
 exact⟨⟨cs,a,by rw[AD,CU];exact(b i hi).1⟩,⟨cs,a,by rw[AD,CU];exact(b i hi).2⟩⟩
end
section
variable {m:Bs} {n b0 b1 b2 b3 lo hi:Nat}
theorem zsx(h:m≠[]):dec m=Lib.decodeN m.length (bN m 0) (bN m 1) (bN m 2) (bN m 3):=by
 simp only[dec,bN,Bm]
theorem ok0(h:m≠[])(hb:128<=bN m 0/\bN m 0<194\/245<=bN m 0/\bN m 0<256):j9 m=false:=by
 rw[Za h,zsx h,qda hb];rfl
theorem ok2(h:m≠[])(hb:194<=bN m 0/\bN m 0<224):j9 m=(decide (2<=m.length/\128<=bN m 1/\bN m 1<=191)&&j9 (m.drop 2)):=by
 rw[Za h,zsx h,qdb hb (Y8 m 1)]
 by_cases hc:2<=m.length/\128<=bN m 1/\bN m 1<=191
 ·rw[if_pos hc];simp[zlu,hc]
 ·rw[if_neg hc];simp[zlu,hc]
theorem ifc{α:Type}{p q:Prop}[Decidable p][Decidable q]{a b:α}(h:p↔q):(if p then a else b)=if q then a else b:=by
 by_cases hp:p
 ·rw[if_pos hp,if_pos (h.1 hp)]
 ·rw[if_neg hp,if_neg (λhq=>hp (h.2 hq))]
theorem qcl(h:224<=b0/\b0<240)(h1:b1<256)(h2:b2<256)(O:lo=if b0=224 then 160 else 128)(Z:hi=if b0=237 then 159 else 191):Lib.decodeN n b0 b1 b2 b3=
  if 3<=n/\(lo<=b1/\b1<=hi)/\128<=b2/\b2<=191 then(((b0-224)*64+(b1-128))*64+(b2-128),3)else(65533,1):=by
 rw[qdc h h1 h2]
 refine ifc ?_
 split at O <;> split at Z <;> omega
theorem qcm(h:240<=b0/\b0<245)(h1:b1<256)(h2:b2<256)(h3:b3<256)(O:lo=if b0=240 then 144 else 128)(Z:hi=if b0=244 then 143 else 191):Lib.decodeN n b0 b1 b2 b3=
  if 4<=n/\(lo<=b1/\b1<=hi)/\(128<=b2/\b2<=191)/\128<=b3/\b3<=191 then((((b0-240)*64+(b1-128))*64+(b2-128))*64+(b3-128),4)else(65533,1):=by
 rw[qdd h h1 h2 h3]
 refine ifc ?_
 split at O <;> split at Z <;> omega
theorem ok3(h:m≠[])(hb:224<=bN m 0/\bN m 0<240)(O:lo=if bN m 0=224 then 160 else 128)(Z:hi=if bN m 0=237 then 159 else 191):
  j9 m=(decide (3<=m.length/\(lo<=bN m 1/\bN m 1<=hi)/\128<=bN m 2/\bN m 2<=191)&&j9 (m.drop 3)):=by
 rw[Za h,zsx h,qcl hb (Y8 m 1) (Y8 m 2) O Z]
 by_cases hc:3<=m.length/\(lo<=bN m 1/\bN m 1<=hi)/\128<=bN m 2/\bN m 2<=191
 ·rw[if_pos hc];simp[zlu,hc]
 ·rw[if_neg hc];simp[zlu,hc]
theorem ok4(h:m≠[])(hb:240<=bN m 0/\bN m 0<245)(O:lo=if bN m 0=240 then 144 else 128)(Z:hi=if bN m 0=244 then 143 else 191):
  j9 m=(decide (4<=m.length/\(lo<=bN m 1/\bN m 1<=hi)/\(128<=bN m 2/\bN m 2<=191)/\128<=bN m 3/\bN m 3<=191)&&j9 (m.drop 4)):=by
 rw[Za h,zsx h,qcm hb (Y8 m 1) (Y8 m 2) (Y8 m 3) O Z]
 by_cases hc:4<=m.length/\(lo<=bN m 1/\bN m 1<=hi)/\(128<=bN m 2/\bN m 2<=191)/\128<=bN m 3/\bN m 3<=191
 ·rw[if_pos hc];simp[zlu,hc]
 ·rw[if_neg hc];simp[zlu,hc]
set_option maxHeartbeats 2000000 in
theorem zi3{gl:Fr}(hg:Tabs gl){l:Bs}(hl:l.length<=4611686018427387904){R:Bool->Prop}(h:R (j9 l)):PC Tp gl 141 [Arg.mk .str (bl l)] [.bool] R:=by
 apply Qt
 refine⟨λs=>∃m:Bs,s=bl m/\j9 m=j9 l/\m.length<=l.length,λs=>s.size,⟨l,rfl,rfl,Ae _⟩,?_⟩
 rintro s ⟨m,rfl,hm,aF⟩
 simp only[zq,zsw,show(0:Int).toNat=0 from rfl,zvh (l:=m) (n:=1) (k:=1) rfl,zvh (l:=m) (n:=2) (k:=2) rfl,zvh (l:=m) (n:=3) (k:=3) rfl,zvh (l:=m) (n:=4) (k:=4) rfl]
 refine⟨λhc=>?_,λhc=>?_⟩
 rotate_left
 ·have:m=[]:=by
   have:¬(m.length:Int)>0:=by simpa using hc
   exact Aw (by omega)
  subst this
  rw[zfo]at hm
  rw[<-hm]at h;exact h
 have hp:0<m.length:=by simp at hc;omega
 have Z:m≠[]:=A5.1 hp
 refine⟨by omega,λha=>⟨by omega,?_⟩,λha=>?_⟩
 ·have hb:bN m 0<128:=by simp at ha;omega
  obtain⟨c,t,rfl⟩:=Cg Z
  simp only[List.drop_one,List.tail_cons]
  have am:j9 t=j9 l:=by rw[<-hm];exact(xu hb).symm
  simp only[Av]at aF ⊢
  simp only[zvh (l:=t) (n:=8) (k:=8) rfl,zq]
  refine⟨λr=>r=(Z8 t:Int),λhq=>zbj (by simp at hq;omega) rfl,λr hr=>⟨λhx=>?_,λhx=>⟨⟨t,rfl,am,by omega⟩,by omega⟩⟩⟩
  have h8:8<t.length:=by
   cases hd:decide ((t.length:Int)>8)with
   |true=>simp at hd;omega
   |false=>rw[hd]at hx;cases hx
  have ak:decide ((t.length:Int)>8)=true:=by simp;omega
  have aE:=hr ak
  rw[ak,cond_true,aE,show(9259542123273814144:Int)=((MASK:Nat):Int)from rfl,z6w (yz t) (by decide)]at hx
  have hz:Z8 t &&& MASK=0:=by
   have:((Z8 t &&& MASK:Nat):Int)=0:=by simpa using hx
   omega
  have au:j9 (t.drop 8)=j9 l:=by rw[<-am,Zr (by omega) hz]
  have aJ:(t.drop 8).length+8=t.length:=by simp;omega
  generalize t.drop 8=u at *
  simp only[zvh (l:=u) (n:=8) (k:=8) rfl,zvh (l:=u) (n:=16) (k:=16) rfl]
  refine⟨by omega,λhq=>by simp at hq;omega,λr=>r=(Z8 u:Int),λhq=>zbj (by simp at hq;omega) rfl,λaU ar=>⟨λr=>r=(Z8 (u.drop 8):Int),λhq=>zbj (by simp at hq ⊢;omega) rfl,λaP aj=>⟨λaf=>?_,λaf=>⟨⟨u,rfl,au,by omega⟩,by omega⟩⟩⟩⟩
  have aS:16<u.length:=by
   cases hd:decide ((u.length:Int)>16)with
   |true=>simp at hd;omega
   |false=>rw[hd]at af;cases af
  have ae:decide ((u.length:Int)>16)=true:=by simp;omega
  rw[ae,cond_true,ar ae,aj ae,zyn (yz _) (yz _),show(9259542123273814144:Int)=((MASK:Nat):Int)from rfl,z6w (DZ (n:=64) (yz _) (yz _)) (by decide)]at af
  have aC:(Z8 u ||| Z8 (u.drop 8)) &&& MASK=0:=by
   have:(((Z8 u ||| Z8 (u.drop 8)) &&& MASK:Nat):Int)=0:=by simpa using af
   omega
  obtain⟨z1,z2⟩:=zmc aC
  have aH:j9 (u.drop 16)=j9 l:=by
   rw[<-au,Zr (by omega) z1,Zr (l:=u.drop 8) (by simp;omega) z2,Ce]
  refine⟨by omega,λs=>∃m':Bs,s=bl m'/\j9 m'=j9 l/\m'.length<(c::t).length,λs=>s.size,⟨u.drop 16,rfl,aH,by simp;omega⟩,?_⟩
  rintro s ⟨v,rfl,hv,aB⟩
  simp only[Av]at aB
  simp only[zq,zvh (l:=v) (n:=8) (k:=8) rfl,zvh (l:=v) (n:=16) (k:=16) rfl,zvh (l:=v) (n:=24) (k:=24) rfl,zvh (l:=v) (n:=32) (k:=32) rfl]
  refine⟨λhq=>by simp at hq;omega,λhq=>by simp at hq;omega,λhq=>by simp at hq;omega,λr=>r=(Z8 v:Int),λhq=>zbj (by simp at hq;omega) rfl,λaY al=>⟨λr=>r=(Z8 (v.drop 8):Int),λhq=>zbj (by simp at hq ⊢;omega) rfl,λaV ap=>
   ⟨λr=>r=(Z8 (v.drop 16):Int),λhq=>zbj (by simp at hq ⊢;omega) rfl,λaQ an=>⟨λr=>r=(Z8 (v.drop 24):Int),λhq=>zbj (by simp at hq ⊢;omega) rfl,λaN ax=>⟨λO=>?_,λO=>⟨⟨v,rfl,hv,by omega⟩,by omega⟩⟩⟩⟩⟩⟩
  have aO:32<v.length:=by
   cases hd:decide ((v.length:Int)>32)with
   |true=>simp at hd;omega
   |false=>rw[hd]at O;cases O
  have aa:decide ((v.length:Int)>32)=true:=by simp;omega
  have o2:∀a b:Nat,a<18446744073709551616->b<18446744073709551616->a ||| b<18446744073709551616:=λa b ha hb=>DZ (n:=64) ha hb
  rw[aa,cond_true,al aa,ap aa,an aa,ax aa,zyn (yz _) (yz _),zyn (yz _) (yz _),zyn (o2 _ _ (yz _) (yz _)) (o2 _ _ (yz _) (yz _)),show(9259542123273814144:Int)=((MASK:Nat):Int)from rfl,
   z6w (o2 _ _ (o2 _ _ (yz _) (yz _)) (o2 _ _ (yz _) (yz _))) (by decide)]at O
  have az:((Z8 v ||| Z8 (v.drop 8)) ||| (Z8 (v.drop 16) ||| Z8 (v.drop 24))) &&& MASK=0:=by
   have:((((Z8 v ||| Z8 (v.drop 8)) ||| (Z8 (v.drop 16) ||| Z8 (v.drop 24))) &&& MASK:Nat):Int)=0:=by simpa using O
   omega
  obtain⟨y1,y2⟩:=zmc az
  obtain⟨x1,x2⟩:=zmc y1
  obtain⟨x3,x4⟩:=zmc y2
  refine⟨by omega,⟨v.drop 32,rfl,?_,by simp;omega⟩,by simp;omega⟩
  rw[<-hv,Zr (by omega) x1,Zr (l:=v.drop 8) (by simp;omega) x2,Ce,Zr (l:=v.drop (8+8)) (by simp;omega) x3,Ce,Zr (l:=v.drop (8+8+8)) (by simp;omega) x4,Ce]
 ·have hb:128<=bN m 0:=by simp at ha;omega
  have aG:=Y8 m 0
  have hX:=Lib.firstT_cases (bN m 0)
  have aL:=Y8 m 1;have aM:=Y8 m 2;have aT:=Y8 m 3
  refine⟨by omega,(Lib.firstT (bN m 0):Int),by simpa using hg.first aG,?_⟩
  obtain⟨i,lo,hi,k,e2,e3,e4,e5,e6,k1,k2,k3,k4,hk⟩:∃i lo hi k:Nat,((Lib.firstT (bN m 0):Int).fdiv (2 ^ 4))=(i:Int)/\i<16/\Lib.accLo i=lo/\Lib.accHi i=hi /\
    (Ab .i64 (Ab .u8 (((As (Ap .u8) (Lib.firstT (bN m 0):Int)) &&& (As (Ap .u8) 7)).toNat:Int)):Int)=(k:Int) /\
    (k=1->j9 m=false)/\(k=2->j9 m=(decide (2<=m.length/\lo<=bN m 1/\bN m 1<=hi)&&j9 (m.drop 2))) /\
    (k=3->j9 m=(decide (3<=m.length/\(lo<=bN m 1/\bN m 1<=hi)/\128<=bN m 2/\bN m 2<=191)&&j9 (m.drop 3))) /\
    (k=4->j9 m=(decide (4<=m.length/\(lo<=bN m 1/\bN m 1<=hi)/\(128<=bN m 2/\bN m 2<=191)/\128<=bN m 3/\bN m 3<=191)&&j9 (m.drop 4)))/\(k=1\/k=2\/k=3\/k=4):=by
   have aI:∀v,Lib.firstT (bN m 0)=v->(v=241->(128<=bN m 0/\bN m 0<194)\/(245<=bN m 0/\bN m 0<256))/\(v=2->194<=bN m 0/\bN m 0<224)/\(v=19->bN m 0=224)/\(v=3->(225<=bN m 0/\bN m 0<240/\bN m 0≠237))/\(v=35->bN m 0=237)/\(v=52->bN m 0=240)/\(v=4->241<=bN m 0/\bN m 0<244)/\(v=68->bN m 0=244)/\v≠240:=by
    intro v hv
    unfold Lib.firstT at hv
    repeat' split at hv
    all_goals omega
   have cl:=aI _ rfl
   rcases hX with hX|hX|hX|hX|hX|hX|hX|hX|hX
   ·exact absurd hX cl.2.2.2.2.2.2.2.2
   ·exact⟨15,0,0,1,by rw[hX];decide,(by decide),rfl,rfl,by rw[hX];decide,(λ_=>ok0 Z (cl.1 hX)),(λe=>by omega),(λe=>by omega),(λe=>by omega),(by omega)⟩
   ·exact⟨0,128,191,2,by rw[hX];decide,(by decide),rfl,rfl,by rw[hX];decide,(λe=>by omega),(λ_=>ok2 Z (cl.2.1 hX)),(λe=>by omega),(λe=>by omega),(by omega)⟩
   ·have c:=cl.2.2.1 hX
    exact⟨1,160,191,3,by rw[hX];decide,(by decide),rfl,rfl,by rw[hX];decide,(λe=>by omega),(λe=>by omega),(λ_=>ok3 Z (by omega) (by rw[if_pos c]) (by rw[if_neg (by omega)])),(λe=>by omega),(by omega)⟩
   ·have c:=cl.2.2.2.1 hX
    exact⟨0,128,191,3,by rw[hX];decide,(by decide),rfl,rfl,by rw[hX];decide,(λe=>by omega),(λe=>by omega),(λ_=>ok3 Z (by omega) (by rw[if_neg (by omega)]) (by rw[if_neg (by omega)])),(λe=>by omega),(by omega)⟩
   ·have c:=cl.2.2.2.2.1 hX
    exact⟨2,128,159,3,by rw[hX];decide,(by decide),rfl,rfl,by rw[hX];decide,(λe=>by omega),(λe=>by omega),(λ_=>ok3 Z (by omega) (by rw[if_neg (by omega)]) (by rw[if_pos c])),(λe=>by omega),(by omega)⟩
   ·have c:=cl.2.2.2.2.2.1 hX
    exact⟨3,144,191,4,by rw[hX];decide,(by decide),rfl,rfl,by rw[hX];decide,(λe=>by omega),(λe=>by omega),(λe=>by omega),(λ_=>ok4 Z (by omega) (by rw[if_pos c]) (by rw[if_neg (by omega)])),(by omega)⟩
   ·have c:=cl.2.2.2.2.2.2.1 hX
    exact⟨0,128,191,4,by rw[hX];decide,(by decide),rfl,rfl,by rw[hX];decide,(λe=>by omega),(λe=>by omega),(λe=>by omega),(λ_=>ok4 Z (by omega) (by rw[if_neg (by omega)]) (by rw[if_neg (by omega)])),(by omega)⟩
   ·have c:=cl.2.2.2.2.2.2.2.1 hX
    exact⟨4,128,143,4,by rw[hX];decide,(by decide),rfl,rfl,by rw[hX];decide,(λe=>by omega),(λe=>by omega),(λe=>by omega),(λ_=>ok4 Z (by omega) (by rw[if_neg (by omega)]) (by rw[if_pos c])),(by omega)⟩
  generalize Lib.firstT (bN m 0)=x at *
  rw[e2,e6]
  have ac:=hg.acc e3
  rw[e4,e5]at ac
  simp only[show(1:Int).toNat=1 from rfl,show(2:Int).toNat=2 from rfl,show(3:Int).toNat=3 from rfl]
  have ah:j9 m=false->R false:=λe=>by rw[<-hm,e]at h;exact h
  refine⟨by omega,(lo:Int),by simpa using ac.1,(hi:Int),by simpa using ac.2,?_,?_⟩
  ·intro hx
   have aA:k=2:=by simp at hx;omega
   have q:=k2 aA
   refine⟨λhy=>by simp at hy;omega,λhy=>by simp at hy;omega,λhy=>ah ?_,λhy=>?_⟩
   ·simp only[Ca,Cp,decide_eq_true_eq]at hy
    rw[q,decide_eq_false (by omega)];rfl
   ·simp only[Ca,Cx,decide_eq_false_iff_not]at hy
    refine⟨by omega,⟨m.drop 2,rfl,?_,by simp;omega⟩,by simp;omega⟩
    rw[<-hm,q,decide_eq_true (by omega)];simp
  ·intro hx
   refine⟨λO=>?_,λO=>⟨λai=>?_,λai=>?_⟩⟩
   ·have ay:k=3:=by simp at O;omega
    have q:=k3 ay
    refine⟨λhy=>by simp at hy;omega,λhy=>by simp at hy;omega,λhy=>by simp at hy;omega,λhy=>by simp at hy;omega,λhy=>ah ?_,λhy=>?_⟩
    ·simp only[Ca,Cp,decide_eq_true_eq]at hy
     rw[q,decide_eq_false (by omega)];rfl
    ·simp only[Ca,Cx,decide_eq_false_iff_not]at hy
     refine⟨by omega,⟨m.drop 3,rfl,?_,by simp;omega⟩,by simp;omega⟩
     rw[<-hm,q,decide_eq_true (by omega)];simp
   ·have aD:k=4:=by simp at ai;omega
    have q:=k4 aD
    refine⟨λhy=>by simp at hy;omega,λhy=>by simp at hy;omega,λhy=>by simp at hy;omega,λhy=>by simp at hy;omega,λhy=>by simp at hy;omega,λhy=>by simp at hy;omega,λhy=>ah ?_,λhy=>?_⟩
    ·simp only[Ca,Cp,decide_eq_true_eq]at hy
     rw[q,decide_eq_false (by omega)];rfl
    ·simp only[Ca,Cx,decide_eq_false_iff_not]at hy
     refine⟨by omega,⟨m.drop 4,rfl,?_,by simp;omega⟩,by simp;omega⟩
     rw[<-hm,q,decide_eq_true (by omega)];simp
   ·refine ah (k1 ?_)
    simp at hx O ai;omega
end
end Go.X
end
section
namespace Go.X
open Go Go.Lib
section
variable {v:Tr} {l:List Tr} {k:Nat}
mutual
def tsz:Tr->Nat | .mk _ _ _ xs=>1+xd xs
def xd:List Tr->Nat | []=>0|x::l=>tsz x+xd l
end
mutual
def tdp:Tr->Nat | .mk _ _ _ xs=>zhg xs+1
def zhg:List Tr->Nat | []=>0|x::l=>max (tdp x) (zhg l)
end
mutual
def Y9(p:Tr->Bool):Tr->Bool | .mk k s ks xs=>p (.mk k s ks xs)&&zvi p xs
def zvi(p:Tr->Bool):List Tr->Bool | []=>true|x::l=>Y9 p x&&zvi p l
end
mutual
def txB(m:Nat):Tr->Prop | .mk _ s ks xs=>(s.size<=m/\ks.length<=m/\∀k∈ks,k.size<=m)/\z0x m xs
def z0x(m:Nat):List Tr->Prop | []=>True|x::l=>txB m x/\z0x m l
end
theorem wa(v:Tr):tsz v=1+xd v.items:=by cases v;rw[tsz]
theorem zyp(v:Tr):tdp v=zhg v.items+1:=by cases v;rw[tdp]
theorem zmd(p:Tr->Bool)(v:Tr):Y9 p v=(p v&&zvi p v.items):=by cases v;rw[Y9]
theorem Ja(m:Nat)(v:Tr):txB m v↔(v.text.size<=m/\v.keys.length<=m/\∀k∈v.keys,k.size<=m)/\z0x m v.items:=by cases v;rw[txB]
theorem Yh{m:Nat}:∀{l:List Tr},z0x m l↔∀x∈l,txB m x
 |[]=>by simp[z0x]
 |x::l=>by rw[z0x,Yh];simp
theorem Qf{m:Nat}{v x:Tr}(h:txB m v)(hx:x∈v.items):txB m x:=Yh.1 ((Ja m v).1 h).2 x hx
theorem zc1(p:Tr->Bool):∀l:List Tr,zvi p l=l.all (Y9 p)
 |[]=>rfl
 |x::l=>by rw[zvi,zc1 p l];rfl
theorem jb:∀a b:List Tr,xd (a++b)=xd a+xd b
 |[],b=>by simp[xd]
 |x::l,b=>by rw[A3,xd,xd,jb l b];omega
theorem zhh:∀a b:List Tr,zhg (a++b)=max (zhg a) (zhg b)
 |[],b=>by simp[zhg]
 |x::l,b=>by rw[A3,zhg,zhg,zhh l b];omega
theorem zsy{x:Tr}:∀{l:List Tr},x∈l->tsz x<=xd l
 |y::l,h=>by
  rw[xd]
  rcases Ad.1 h with rfl|h
  ·omega
  ·have:=zsy h;omega
theorem wn{v x:Tr}(h:x∈v.items):tsz x<tsz v:=by
 have:=zsy h
 rw[wa v];omega
theorem Yi:∀l:List Tr,l.length<=xd l
 |[]=>by simp[xd]
 |x::l=>by
  have:=Yi l
  rw[xd,Av,wa];omega
theorem zme(v:Tr):0<tsz v:=by rw[wa];omega
theorem zyq(hk:k<l.length):xd (l.take (k+1))=xd (l.take k)+tsz l[k]:=by
 rw[Am hk,jb];simp[xd]
theorem zyr(hk:k<l.length):zhg (l.take (k+1))=max (zhg (l.take k)) (tdp l[k]):=by
 rw[Am hk,zhh];simp[zhg]
mutual
theorem qan:∀v:Tr,tdp v<=tsz v
 |.mk _ _ _ xs=>by rw[tdp,tsz];have:=zqt xs;omega
theorem zqt:∀l:List Tr,zhg l<=xd l
 |[]=>by simp[zhg]
 |x::l=>by rw[zhg,xd];have:=qan x;have:=zqt l;omega
end
def Qy(ks:List Bt):Bool:=ks.all (λk=>j9 (lb k))&&decide ks.Nodup
def z0y(s:Bs):Nm×Bool:=((yy s).1,(yy s).2==0&&decide (zan (yy s).1=s))
def zys(s:Bs):Bool:=(z0y s).2&&(z2h (z0y s).1).2&&decide (0<=(z2h (z0y s).1).1)
def zy(v:Tr):Bool:=
 if v.kind=1 then lb v.text==[]&&v.keys.isEmpty&&v.items.isEmpty
 else if v.kind=2 then(lb v.text==[116,114,117,101]||lb v.text==[102,97,108,115,101])&&v.keys.isEmpty&&v.items.isEmpty
 else if v.kind=3 then(z0y (lb v.text)).2&&v.keys.isEmpty&&v.items.isEmpty
 else if v.kind=4 then j9 (lb v.text)&&v.keys.isEmpty&&v.items.isEmpty
 else if v.kind=5 then lb v.text==[]&&v.keys.isEmpty
 else if v.kind=6 then Qy v.keys&&decide (v.keys.length=v.items.length)&&lb v.text==[]
 else if v.kind=7 then zys (lb v.text)&&v.keys.isEmpty&&v.items.isEmpty
 else false
def Wd(v:Tr):Bool:=decide (tsz v<=4096)&&decide (tdp v<=32)
def ye(v:Tr):Bool:=Wd v&&Y9 zy v
def ql(v:Tr):Bool:=Wd v&&Y9 (λx=>decide (x.kind≠7)&&zy x) v
structure Sm (v:Tr):Prop where
 sz:tsz v<=1000000000000
 tx:txB 1048576 v
theorem Sm.item{v x:Tr}(h:Sm v)(hx:x∈v.items):Sm x:=⟨by have:=wn hx;have:=h.sz;omega,Qf h.tx hx⟩
theorem Sm.text(h:Sm v):(lb v.text).length<=1048576:=by rw[zcp];exact((Ja _ v).1 h.tx).1.1
theorem Sm.key(h:Sm v){k:Bt}(hk:k∈v.keys):(lb k).length<=1048576:=by rw[zcp];exact((Ja _ v).1 h.tx).1.2.2 k hk
theorem Sm.keys(h:Sm v):v.keys.length<=1048576:=((Ja _ v).1 h.tx).1.2.1
theorem Sm.items(h:Sm v):v.items.length<=1000000000000:=by have:=Yi v.items;have:=h.sz;rw[wa]at this;omega
end
end Go.X
end
section
namespace Go.X
section
variable {gl:Fr} {l:Bs} {R:Bool -> Prop}
theorem zsz(hg:Tabs gl)(hl:l.length<=4611686018427387904){R:Int×Bool->Prop}(h:∀k,R (k,j9 l)):PC Tp gl 113 [Arg.mk .str (bl l)] [.int .i64,.bool] R:=by
 apply zir
 refine zi3 hg hl ⟨λhx=>?_,λhx=>?_⟩
 ·have:=h ((bl l).size:Int);rw[hx]at this;exact this
 ·refine⟨λp=>p.1=bl l/\p.2<=l.length/\j9 (l.drop p.2)=false,λp=>l.length-p.2,⟨rfl,by omega,by simpa using hx⟩,?_⟩
  rintro⟨_,p⟩ ⟨rfl,hp,h2⟩
  simp only at hp h2 ⊢
  rw[zos,zsp]
  refine⟨λhc=>⟨hc,hc,λhq=>?_,λhq=>⟨?_,?_⟩⟩,λhc=>?_⟩
  ·have Z:p<l.length:=by simpa using hc
   have O:l.drop p≠[]:=λe=>by have:=congrArg CN e;simp at this;omega
   have hb:zlu (dec (l.drop p))=false:=by
    unfold zlu
    have:¬(dec (l.drop p)).1=65533:=λe=>by rw[e]at hq;simp at hq
    simp[this]
   rw[Za O,hb]at h2
   simp only[A0,if_false,Ce]at h2
   rw[zkg l p Z]
   have hw:=Y5 (l.drop p);have ac:=zx2 O
   simp only[AX]at ac
   exact⟨⟨trivial,by omega,h2⟩,by omega⟩
  ·have Z:p<l.length:=by simpa using hc
   rw[zq];omega
  ·have Z:p<l.length:=by simpa using hc
   have O:l.drop p≠[]:=λe=>by have:=congrArg CN e;simp at this;omega
   rw[zq,zvh (k:=p) rfl]
   refine zyh hg ?_
   have ae:(bl (l.drop p)).size≠0:=by rw[zq];simp;omega
   have hd:Lib.decodeGo (bl (l.drop p))=dec (l.drop p):=by
    unfold Lib.decodeGo
    rw[if_neg ae,zx1,js,A2]
   rw[hd]
   refine⟨λaa=>?_,λaa=>?_⟩
   ·have:=h (p:Int)
    have hu:j9 l=false:=hx
    rw[hu]at this;exact this
   ·have hb:zlu (dec (l.drop p))=false:=by
     unfold zlu
     have:¬(dec (l.drop p)).2=1:=λe=>by rw[e]at aa;simp at aa
     simp[this]
    rw[Za O,hb]at h2
    simp only[A0,if_false,Ce]at h2
    rw[zkg l p Z]
    have hw:=Y5 (l.drop p);have ac:=zx2 O
    simp only[AX]at ac
    exact⟨⟨trivial,by omega,h2⟩,by omega⟩
  ·have:l.drop p=[]:=A7 (by(have:¬p<l.length:=by simpa using hc);omega)
   rw[this,zfo]at h2;cases h2
theorem zs0(hg:Tabs gl)(hl:l.length<=4611686018427387904)(h:R (j9 l)):PC Tp gl 75 [Arg.mk .str (bl l)] [.bool] R:=by
 apply ze3
 exact zsz hg hl λk=>h
theorem zow(hg:Tabs gl)(hl:l.length<=4611686018427387904)(h:R (j9 l)):PC Tp gl 84 [Arg.mk .str (bl l)] [.bool] R:=by
 apply ziu
 exact zsz hg hl λk=>h
structure GL (gl:Fr):Prop where
 tabs:Tabs gl
 pow:Pow gl
 max:zke gl
 err:zql gl
theorem Xi(s:Bs)(hs:s.length<=1152921504606846976):(yy s).1.2.1.length<=4611686018427387904:=by
 unfold yy
 split
 ·simp
 ·rename_i x hx
  have h1:=zki hx
  split
  ·simp
  ·split
   ·simp
   ·simp only
    generalize (if x.low=true then-(zr (x.exp.dropWhile (· == 48)):Int)else zr (x.exp.dropWhile (· == 48)))=e
    split
    ·simp
    ·rename_i O
     have h2:(jr (x.whole++x.rest)).length<=(x.whole++x.rest).length:=by
      unfold jr
      rw[List.length_reverse]
      refine Nat.le_trans (Ze _ _) ?_
      rw[List.length_reverse]
      exact Ze _ _
     rw[Ar]at h2
     split
     ·show(jr (x.whole++x.rest)).length<=_;omega
     ·simp
theorem zbk(hg:GL gl){s:Bs}(hs:s.length<=1152921504606846976){R:(Bool×Bt×Int)×Bool->Prop}(h:R (nmB (z0y s).1,(z0y s).2)):PC Tp gl 83 [Arg.mk .str (bl s)] [tN,.bool] R:=by
 apply ze5
 refine zsv hs ?_
 refine⟨λt=>t=bl (zan (yy s).1),λ_=>zyk hg.pow (Xi s hs) rfl,λr hr=>?_⟩
 have e:(bif ((yy s).2==0)then(r.toList==(bl s).toList)else false)=(z0y s).2:=by
  unfold z0y
  cases hc:((yy s).2==0)with
  |false=>rfl
  |true=>
   rw[hr hc,cond_true,zi1];rfl
 simp only at e ⊢
 rw[e];exact h
theorem z6y(n:Nat):Lib.repeatL [48] n=Ei n 48:=by
 induction n with
 |zero=>rfl
 |succ n ih=>rw[Lib.repeatL,ih];rfl
theorem qao(hg:GL gl){n:Nm}(hn:n.2.1.length<=4611686018427387904){R:Int×Bool->Prop}(h:R (z2h n)):PC Tp gl 119 [Arg.mk tN (nmB n)] [.int .i64,.bool] R:=by
 apply zls
 refine zmb hn ?_
 unfold z2h at h
 cases hr:j4 n with
 |false=>
  rw[hr]at h
  exact⟨λ_=>by simpa using h,λhx=>by simp at hx⟩
 |true=>
  obtain⟨hl,aj,al⟩:=zhc hr
  rw[hr]at h
  simp only[B0]at h
  simp only[zq]
  rw[w64 (by omega)]
  refine⟨λhx=>?_,λhx=>?_⟩
  ·rw[if_neg]at h
   ·exact h
   ·simp at hx ⊢;omega
  ·have ak:0<=n.2.2/\(n.2.1.length:Int)+n.2.2<=19:=by simp at hx;omega
   rw[if_pos (by simp;omega)]at h
   rw[<-zve]at h
   obtain⟨e,hE⟩:∃e:Nat,n.2.2=(e:Int):=⟨n.2.2.toNat,by omega⟩
   show PC Tp gl 146 [Arg.mk .str (bl [48]),Arg.mk (.int .i64) n.2.2] [.str] _
   rw[hE]
   refine zyg (by omega) (by rw[zq];simp;omega) ?_
   rw[js,z6y,Y6]
   have ae:n.2.1++Ei e 48=Y7 n:=by rw[Y7,hE,Ah]
   have ac:(Y7 n).length<=19:=by rw[<-ae];simp;omega
   have ah:=zvf hr
   rw[ae]
   refine⟨zyj (a:=n.2.1) (by rw[List.length_replicate];omega),?_⟩
   rw[show(⟨#[]⟩:Bt)=bl []from rfl,show(⟨#[45]⟩:Bt)=bl [45]from rfl]
   simp only[Y6]
   intro K hK
   have key:∀t:Bs,t=(if n.1 then [45]else [])++Y7 n->K (bl t):=by
    intro t ht
    refine hK _ ⟨λhz=>?_,λhz=>?_⟩
    ·have ai:t=[]:=by
      have:=zi1 t []
      rw[this]at hz;simpa using hz
     rw[ai]at ht
     have aa:n.1=false:=by cases hb:n.1 <;> simp[hb]at ht;rfl
     have O:Y7 n=[]:=by simp[aa]at ht;exact ht
     rw[aa,O]at h
     exact h
    ·have af:t≠[]:=by
      intro e;rw[e,zi1]at hz;simp at hz
     refine zqm hg.err (by rw[zq,ht];split <;> simp <;> omega) ?_
     rw[js,ht]
     have O:Y7 n≠[]:=by
      intro e0
      cases hb:n.1 with
      |false=>rw[ht,hb,e0]at af;exact af rfl
      |true=>
       have hd:n.2.1=[]:=by rw[Y7]at e0;exact(List.append_eq_nil_iff.1 e0).1
       have:=zqn hr hd
       unfold zer at this;rw[hb]at this;simp at this
     unfold zhb
     rw[zym n.1 ah ac O]
     cases hb:n.1 with
     |true=>
      rw[hb]at h
      simp only[if_true]at h ⊢
      by_cases hv:zr (Y7 n)<=9223372036854775808
      ·rw[if_pos (by omega)]at h
       rw[if_pos hv]
       exact⟨λhq=>(by cases hq),λ_=>h⟩
      ·rw[if_neg (by omega)]at h
       rw[if_neg hv]
       exact⟨λ_=>h,λhq=>(by cases hq)⟩
     |false=>
      rw[hb]at h
      simp only[A0,if_false]at h ⊢
      by_cases hv:zr (Y7 n)<=9223372036854775807
      ·rw[if_pos (by omega)]at h
       rw[if_pos hv]
       exact⟨λhq=>(by cases hq),λ_=>h⟩
      ·rw[if_neg (by omega)]at h
       rw[if_neg hv]
       exact⟨λ_=>h,λhq=>(by cases hq)⟩
   refine⟨λZ=>⟨zyj (a:=[45]) (by simp;omega),?_⟩,λZ=>?_⟩
   ·exact key _ (by rw[if_pos (by simpa using Z)])
   ·exact key _ (by rw[if_neg (by simpa using Z)];rfl)
end
end Go.X
end
section
namespace Go.Proofs.YtbploiccompocaaGreatDoor
open Go Go.X Go.ChangeShapes Go.WideShapes Go.ChangeAt Go.RowKit Go.Lib
open Go.ChangeMaps (open_string shut_string)
set_option linter.unusedVariables false
section
variable {H:Type} {g:Nat} {t:TypeId} {held:Bool}
theorem Tryz.own:ownKnob AF.godebug=none:=by kernel_rfl
theorem Tryz.laidOut:laidOutB AF=true:=by kernel_rfl
theorem zmf{enc:TypeId×Value->H}{a:Assume}{C:Checked}{os:Os}{f:FuncId}{fn:Func}{s:ChangeSpec}{ah:List PathCond}{apart af aa ae:Bool}{X:World->Array Value->Prop}
  (hX:∀(w w':World) (args:Array Value),w.heap=w'.heap->X w args->X w' args)
  (own:ownKnob C.prog.godebug=none) (aj:os.Started) (ak:C.prog.inits.idxOf? f=none) (ay:C.prog.funcs[f]?=some fn)
  (ai:∃(w:World) (O:Tape) (i:Input),w.os=os/\(w.forCall O i).Shaped C.prog/\i.vars=[]/\Input.okWide C.prog (w.forCall O i) .any w.heap.size f i /\
   ((s.pre enc C.prog fn ah apart (w.forCall O i).memory i.args/\X (w.forCall O i).memory i.args)/\sizedMet enc C.prog fn (OpenSpec.ofChange s) apart (w.forCall O i).memory i.args)/\a.holds C.prog (lone (Frame.enter C.prog f i.args .normal) [] (w.forCall O i)))
  (ac:∀(W:World) (base:Nat) (args:Array Value) (ds gs:List (DataW H)) (Z:List MemPlace),
   (∀(j:Nat) t v,fn.params[j]?=some t->args[j]?=some v->Value.okWide C.prog W .any base t v) ->
   DataW.Whole enc C.prog fn.params.toList s.vars apart W args.toList ds gs Z ->
   (DataW.weightsEach C.prog (fn.params.toList++s.plain.varTypes C.prog) (ds++gs)).all (·<=reachBytes)=true ->
   X W args->W.ShapedOpen C.prog ->
   Calls C.prog f args W λe W'=>∃v,e=.returned v/\s.post enc C.prog fn apart af aa ae W args v W'):
  ReturnsInHanded a C os f .any (λw args=>(s.pre enc C.prog fn ah apart w args/\X w args)/\sizedMet enc C.prog fn (OpenSpec.ofChange s) apart w args) (s.post enc C.prog fn apart af aa ae):=by
 refine returnsInHanded_of_calls own aj ak ai ?_
 intro w O i _ az _ ax an ap
 obtain⟨_,_,_,ar,am,_,_,_,_,al⟩:=ax
 have e:ar=fn:=Au (am.symm.trans ay)
 subst e
 obtain⟨⟨⟨ds,gs,Z,hw,hc⟩,hx⟩,hz⟩:=an
 have au:=DataW.Whole.of_heap (w':=w.forCall O i) (by rfl) hw
 refine(ac (w.forCall O i) w.heap.size i.args ds gs Z al au (hz.weights hw) (hX _ _ _ (by rfl) hx) az).mono λe W' ⟨v,he,hp⟩=>?_
 subst he
 exact ChangeSpec.post_blind hp
theorem z4l{P:Program}{W:World}{n:String}{k:IntKind}{zs:List Int}{t e:TypeId}{m:Nat}(hg:P.globalNamed n=some g)(ht:(P.globals[g]?).map (·.type)=some t)(hu:P.underlying t=some (.array m e))(he:P.underlying e=some (.int k))
  (ae:P.cellsOf e=1) (ac:P.cellsOf t=m) (h:VarReads P W n (tabData k zs)):∃cs:Array Value,Fz W g=some cs/\cs.toList=zs.map λz=>EX k z:=by
 obtain⟨g',t',cs,fuel,p,Z,aa,O,hd⟩:=h
 obtain rfl:=Au (hg.symm.trans Z)
 obtain rfl:=Au (ht.symm.trans aa)
 exact⟨cs,Fz.var hg O,cells_of_tab hu he ae ac hd⟩
theorem z2l{W : World}(h : VarReads Tryz.prog W "unicode/utf8.first" Pinned.utf8First): ∃ cs : Array Value, Fz W 0 = some cs ∧ ∀ c, c < 256 → cs[c]? = some (.int .u8 (Lib.firstT c)) := by
 rw[Pinned.utf8First_eq]at h
 obtain⟨cs,h1,h2⟩:=z4l (g:=0) (t:=172) (e:=5) (m:=256) (by kernel_rfl) (by kernel_rfl) (by kernel_rfl) (by kernel_rfl) (by kernel_rfl) (by kernel_rfl) h
 refine⟨cs,h1,λc hc=>?_⟩
 rw[<-AU,h2]
 simp[firstTab,hc]
theorem zyt{W : World}(h : VarReads Tryz.prog W "unicode/utf8.acceptRanges" acceptData): ∃ cs : Array Value, Fz W 1 = some cs ∧ ∀ i, i < 16 → cs[2 * i]? = some (.int .u8 (Lib.accLo i)) ∧ cs[2 * i + 1]? = some (.int .u8 (Lib.accHi i)) := by
 obtain⟨g,t,cs,fuel,p,hg,hty,hvar,hd⟩:=h
 obtain rfl := Option.some.inj ((show Tryz.prog.globalNamed "unicode/utf8.acceptRanges" = some 1 by kernel_rfl).symm.trans hg)
 obtain rfl:=Au ((show(AF.globals[1]?).map (·.type)=some 175 by kernel_rfl).symm.trans hty)
 refine⟨cs,Fz.var hg hvar,λi hi=>?_⟩
 obtain⟨fuel',d,q,hdi,he⟩:=array_elem (show AF.underlying 175=some (.array 16 174)by kernel_rfl) hd i hi
 simp only[Cc,List.getElem?_range hi,Option.map_some,Aa]at hdi
 subst hdi
 have hc:AF.cellsOf 174=2:=by kernel_rfl
 have c5:AF.cellsOf 5=1:=by kernel_rfl
 have u5:AF.underlying 5=some (.int .u8):=by kernel_rfl
 rw[hc]at he
 have hcs:=ints_of_struct C5 (λj f hj=>by
  match j,hj with
  |0,hj=>simp at hj;subst hj;exact⟨u5,rfl,c5⟩
  |1,hj=>simp at hj;subst hj;exact⟨u5,rfl,c5⟩
  |j+2,hj=>simp at hj) (by rw[hc];rfl) he
 have e0:=congrArg (·[0]?) hcs
 have e1:=congrArg (·[1]?) hcs
 simp only[AC,AE]at e0 e1
 constructor
 ·rw[<-AU]
  simpa[CU]using e0
 ·rw[<-AU]
  simpa[CU]using e1
theorem qap{W : World}{d : DataW Unit}(hd : d = tabData .u64 Lib.pow10Tab)(h : VarReads Tryz.prog W "internal/strconv.uint64pow10" d): Pow (Fz W) := by
 subst hd
 obtain⟨cs,h1,h2⟩:=z4l (g:=3) (t:=213) (e:=189) (m:=20) (by kernel_rfl) (by kernel_rfl) (by kernel_rfl) (by kernel_rfl) (by kernel_rfl) (by kernel_rfl) h
 exact⟨_,cs,by kernel_rfl,h1,by rw[<-h2]⟩
theorem z4m{W:World}{n:String}{ms:Array (String×TypeId)}{nm:String}{d:DataW Unit}(hg:AF.globalNamed n=some g)(ht:(AF.globals[g]?).map (·.type)=some t)(hu:AF.underlying t=some (.interface ms))(h:VarReads AF W n (.iface nm d)):
  ∃(cs:Array Value) (e:Value),Fz W g=some cs/\cs[0]?=some e/\(e=.nilIface\/∃te pe,e=.iface te pe):=by
 obtain⟨g',t',cs,fuel,p,Z,ac,O,hd⟩:=h
 obtain rfl:=Au (hg.symm.trans Z)
 obtain rfl:=Au (ht.symm.trans ac)
 obtain⟨f1,u,v,aa,_,_⟩:=iface_of_trod hu hd
 exact⟨cs,.iface u v,Fz.var hg O,by rw[<-AU,aa];rfl,.inr ⟨u,v,rfl⟩⟩
theorem qaq{W:World}(h:W.ShapedOpen AF):zke (Fz W):=by
 obtain⟨m,hm⟩:=cell_of_shapedOpen_int (P:=AF) (g:=2) (t:=3) (zero:=#[.int .i64 0]) (k:=.i64) h (by decide +kernel) (by kernel_rfl) rfl (by kernel_rfl) (by kernel_rfl) (by kernel_rfl)
 obtain⟨b,o,c,e,h1,h2⟩:=Fz.cell hm
 cases e
 exact⟨c,m,h1,h2⟩
def zox:List (String×DataW Unit):=Rows.patchPartsRow.laid
theorem qcn{W:World}(h:laidMetH AF zox W)(hs:W.ShapedOpen AF):GL (Fz W):=by
 have hl:laidMet AF zox W:=by
  rw[MakeChecks.laidMetH_plain _ _ _ (by kernel_rfl)]at h;exact h
 have hr:∀(i:Nat) (n:String) (d:DataW Unit),zox[i]?=some (n,d)->VarReads AF W n d:=λi n d e=>Go.Lib.laidMet.reads hl (Ct e)
 exact {
  tabs:=⟨z2l (hr 6 _ _ rfl),zyt (by
   have e:(Rows.laid_unicode_utf8_acceptRanges:DataW Unit)=acceptData:=by kernel_rfl
   rw[<-e];exact hr 3 _ _ rfl)⟩
  pow:=qap (by kernel_rfl) (hr 2 _ _ rfl)
  max:=qaq hs
  err:=⟨z4m (g:=4) (t:=129) (by kernel_rfl) (by kernel_rfl) C7 (hr 5 _ _ rfl),z4m (g:=5) (t:=129) (by kernel_rfl) (by kernel_rfl) C7 (hr 4 _ _ rfl)⟩ }
noncomputable def qco(os:Os):World:=World.laidAll AF os zox
theorem zqu(os:Os)(args:Array Value):((qco os).forCall (λ_ _=>0) ⟨#[],args,[]⟩).Shaped AF:=World.shaped_of_ZipB (by kernel_rfl) (by kernel_rfl)
theorem z2m(os:Os)(args:Array Value):laidMetH AF zox ((qco os).forCall (λ_ _=>0) ⟨#[],args,[]⟩).memory:=by
 rw[MakeChecks.laidMetH_plain _ _ _ (by kernel_rfl)];exact laidMet_laidAll _ (by kernel_rfl) (by kernel_rfl)
theorem zyu{enc:TypeId×Value->H}{W:World}{sp:Nat->Bool}(fuel:Nat)(cs:List Value)(x:DataW H×List MemPlace)(h:DataW.trod enc AF W 0 sp held fuel 25 cs=some x)(hw:zg1 AF 25 x.1):∃t:Tr,Rd (Fz W) .tree t cs:=
 z6n (tk:=3) (ts:=9) (tss:=22) (tvs:=23) Tryz.underlying25 (by kernel_rfl) ⟨rfl,rfl,rfl,rfl,rfl,rfl,rfl,rfl⟩ (by kernel_rfl) (by kernel_rfl) (by kernel_rfl) (by kernel_rfl) (by kernel_rfl) (by kernel_rfl) (by kernel_rfl) (by kernel_rfl) (by decide +kernel) (by decide +kernel) fuel cs x h hw
theorem zyv{enc:TypeId×Value->H}{W:World}{sp:Nat->Bool}{fuel:Nat}{cs:List Value}{x:DataW H×List MemPlace}(h:DataW.trod enc AF W 0 sp held fuel 22 cs=some x)(hw:zg1 AF 22 x.1):∃xs:List ByteArray,Rd (Fz W) (.row .str) xs cs:=
 zxy Tryz.underlying22 A9 (by kernel_rfl) (by decide +kernel) h hw
theorem zs1{ts:List TypeId}{ds:List (DataW H)}(h:(DataW.weightsEach AF ts ds).all (·<=reachBytes)=true){j:Nat}{d:DataW H}(ht:ts[j]?=some t)(hd:ds[j]?=some d):zg1 AF t d:=λn hn=>by
 have:=AP.1 h n (DataW.weights_mem_each ht hd n hn)
 simpa using this
end
end Go.Proofs.YtbploiccompocaaGreatDoor
end
section
namespace Go.X
open Go Go.Lib
section
mutual
def tks:Tr->Nat | .mk _ _ ks xs=>1+ks.length+zkk xs
def zkk:List Tr->Nat | []=>0|x::l=>tks x+zkk l
end
theorem qar(v:Tr):tks v=1+v.keys.length+zkk v.items:=by cases v;rw[tks]
theorem zhi:∀a b:List Tr,zkk (a++b)=zkk a+zkk b
 |[],b=>by simp[zkk]
 |x::l,b=>by rw[A3,zkk,zkk,zhi l b];omega
theorem zyw{l:List Tr}{k:Nat}(hk:k<l.length):zkk (l.take (k+1))=zkk (l.take k)+tks l[k]:=by
 rw[Am hk,zhi];simp[zkk]
mutual
theorem zyx:∀v:Tr,tsz v<=tks v
 |.mk k s ks xs=>by rw[tsz,tks];have:=zoy xs;omega
theorem zoy:∀l:List Tr,xd l<=zkk l
 |[]=>by simp[xd,zkk]
 |x::l=>by rw[xd,zkk];have:=zyx x;have:=zoy l;omega
end
mutual
def txS:Tr->Prop | .mk _ s ks xs=>(s.size<=2048/\∀k∈ks,k.size<=1024)/\zif xs
def zif:List Tr->Prop | []=>True|x::l=>txS x/\zif l
end
theorem qas(v:Tr):txS v↔(v.text.size<=2048/\∀k∈v.keys,k.size<=1024)/\zif v.items:=by cases v;rw[txS]
theorem zs2:∀{l:List Tr},zif l↔∀x∈l,txS x
 |[]=>by simp[zif]
 |x::l=>by rw[zif,zs2];simp
mutual
theorem z4n:∀(v:Tr),tks v<=1000000->txS v->txB 1048576 v
 |.mk k s ks xs,h,g=>by
  rw[tks]at h;rw[txS]at g;rw[txB]
  exact⟨⟨by omega,by omega,λk hk=>by have:=g.1.2 k hk;omega⟩,zyy xs (by omega) g.2⟩
theorem zyy:∀(l:List Tr),zkk l<=1000000->zif l->z0x 1048576 l
 |[],_,_=>by rw[z0x];trivial
 |x::l,h,g=>by
  rw[zkk]at h;rw[zif]at g;rw[z0x]
  exact⟨z4n x (by omega) g.1,zyy l (by omega) g.2⟩
end
theorem Sm.few{v:Tr}(h:tks v<=1000000)(g:txS v):Sm v:=⟨by have:=zyx v;omega,z4n v h g⟩
structure PS (l:List Bt):Prop where
 n:l.length<=200
 s:∀x∈l,(lb x).length<=1024
def jc(l:List Bt):Bool:=decide (l.length<=64)&&l.all λs=>j9 (lb s)
def zqv(c:UInt8):Bs:=if c=126 then [126,48]else if c=47 then [126,49]else [c]
def esc(l:Bs):Bs:=l.flatMap zqv
def Wj(l:List Bs):Bs:=l.flatMap λs=>47::esc s
theorem z6z(l:Bs):replaceAll (replaceAll l [126] [126,48]) [47] [126,49]=esc l:=by
 rw[xw (by simp) (by simp),xw (by simp) (by simp),zfr,zfr,List.flatMap_assoc,esc]
 congr 1
 funext x
 by_cases h:x=126
 ·subst h;simp[zqv]
 ·by_cases h2:x=47
  ·subst h2;simp[zqv]
  ·simp[zqv,h,h2]
theorem zqw(l:Bs):(esc l).length<=2*l.length:=by
 induction l with
 |nil=>simp[esc]
 |cons c t ih=>
  rw[esc,DR,Ar]
  have:(zqv c).length<=2:=by
   by_cases h:c=126
   ·simp[zqv,h]
   ·by_cases h2:c=47 <;> simp[zqv,h,h2]
  unfold esc at ih;rw[Av];omega
theorem zyz:esc []=[]:=rfl
theorem zfu(c:UInt8)(l:Bs):esc (c::l)=zqv c++esc l:=rfl
theorem yf(a b:List Bs):Wj (a++b)=Wj a++Wj b:=by unfold Wj;rw[List.flatMap_append]
theorem xe(x:Bs):Wj [x]=47::esc x:=by simp[Wj]
theorem X7(a b:Bs):esc (a++b)=esc a++esc b:=by unfold esc;rw[List.flatMap_append]
theorem zs3(p:UInt8->Bool):∀l:Bs,(∀c∈l,p c=false)\/∃a c b,l=a++c::b/\p c=true/\∀x∈a,p x=false
 |[]=>.inl (by simp)
 |c::t=>by
  cases hc:p c with
  |true=>exact .inr ⟨[],c,t,rfl,hc,by simp⟩
  |false=>
   rcases zs3 p t with h|⟨a,d,b,rfl,hd,ha⟩
   ·exact .inl (by simpa[hc]using h)
   ·exact .inr ⟨c::a,d,b,rfl,hd,by simpa[hc]using ha⟩
def isSp(c:UInt8):Bool:=c==126||c==47
theorem zoz{l:Bs}(h:∀c∈l,isSp c=false):esc l=l:=by
 induction l with
 |nil=>rfl
 |cons c t ih=>
  rw[zfu,ih λx hx=>h x (by simp[hx])]
  have:=h c (by simp)
  simp[isSp]at this
  simp[zqv,this.1,this.2]
theorem zs4(n:Nat):∀l:Bs,l.length<=n->j9 (esc l)=j9 l:=by
 induction n with
 |zero=>(intro l h;have:l=[]:=Aw (by omega));subst this;rfl
 |succ n ih=>
  intro l h
  rcases zs3 isSp l with hp|⟨a,c,b,rfl,hc,ha⟩
  ·rw[zoz hp]
  ·rw[Ar,Av]at h
   rw[X7,zfu,zoz ha]
   have hb:=ih b (by omega)
   have O:c=126\/c=47:=by simpa[isSp]using hc
   rcases O with rfl|rfl
   ·show j9 (a++(126::48::esc b))=_
    rw[X4 (by decide),X4 (by decide),xu (by decide),hb]
   ·show j9 (a++(126::49::esc b))=_
    rw[X4 (by decide),X4 (by decide),xu (by decide),hb]
theorem zhj:∀l:List Bs,j9 (Wj l)=l.all j9
 |[]=>zfo
 |[x]=>by rw[xe,xu (by decide),zs4 _ x (Ae _)];simp
 |x::y::l=>by
  have ih:=zhj (y::l)
  rw[show x::y::l=[x]++(y::l)from rfl,yf,xe,A3,xu (by decide)]
  rw[show Wj (y::l)=47::(esc y++Wj l)from by simp[Wj]]at ih ⊢
  rw[xu (by decide)]at ih
  rw[X4 (by decide),zs4 _ x (Ae _),ih];simp
def qat(out:List Bs)(x:Bs):List Bs:=match out.getLast? with
 |some y=>out.dropLast++[y++x]
 |none=>[]
theorem Qz(out:List Bs)(y x:Bs):qat (out++[y]) x=out++[y++x]:=by unfold qat;simp
def prc(out:List Bs):Bs->Option (List Bs)
 |[]=>some out
 |c::t=>if c=47 then prc (out++[[]]) t else if c=126 then(match t with
  |[]=>none
  |d::t'=>if d=48 then prc (qat out [126]) t' else if d=49 then prc (qat out [47]) t' else none)else prc (qat out [c]) t
def zqx(s:Bs):List Bs×Int:=if !(j9 s)||(!s.isEmpty&&s.head? != some 47)then([],2)else match prc [] s with
 |none=>([],2)
 |some out=>if 64<out.length then([],3)else(out,0)
theorem zy0(out:List Bs):∀(s x:Bs) (t:Bs),prc (out++[x]) (esc s++t)=prc (out++[x++s]) t
 |[],x,t=>by simp[zyz]
 |c::s,x,t=>by
  rw[zfu,AQ]
  have ih:=λy=>zy0 out s y t
  by_cases h:c=126
  ·subst h
   show prc (out++[x]) (126::48::(esc s++t))=_
   rw[prc]
   simp only[show¬(126:UInt8)=47 by decide,if_false,if_true,Qz]
   rw[ih];simp
  ·by_cases h2:c=47
   ·subst h2
    show prc (out++[x]) (126::49::(esc s++t))=_
    rw[prc]
    simp only[show¬(126:UInt8)=47 by decide,show¬(49:UInt8)=48 by decide,if_false,if_true,Qz]
    rw[ih];simp
   ·simp only[zqv,h,h2,if_false]
    rw[DL,prc.eq_def]
    simp only[h,h2,if_false,Qz]
    rw[ih];simp
theorem z2n(l:List Bs):∀out,prc out (Wj l)=some (out++l):=by
 induction l with
 |nil=>intro out;simp[Wj,prc]
 |cons x l ih=>
  intro out
  rw[show Wj (x::l)=47::(esc x++Wj l)from by simp[Wj],prc.eq_def]
  simp only[if_true]
  rw[zy0,ih];simp
theorem z2o(n:Nat):∀(s:Bs) (out p:List Bs),s.length<=n->(out=[]->s=[]\/s.head?=some 47)->prc out s=some p->Wj out++s=Wj p:=by
 induction n with
 |zero=>
  intro s out p h _ e
  have:s=[]:=Aw (by omega)
  subst this
  rw[prc]at e;cases e;simp
 |succ n ih=>
  intro s out p h ho e
  match s with
  |[]=>rw[prc]at e;cases e;simp
  |c::t=>
   rw[Av]at h
   rw[prc.eq_def]at e
   simp only at e
   by_cases h1:c=47
   ·subst h1
    rw[if_pos rfl]at e
    rw[<-ih t _ _ (by omega) (by simp) e,yf,xe,zyz];simp
   ·rw[if_neg h1]at e
    have O:out≠[]:=by
     intro h0
     rcases ho h0 with q|q
     ·cases q
     ·simp at q;exact h1 q
    obtain⟨o,y,rfl⟩:∃o y,out=o++[y]:=⟨out.dropLast,out.getLast O,(List.dropLast_concat_getLast O).symm⟩
    by_cases h2:c=126
    ·subst h2
     rw[if_pos rfl]at e
     match t with
     |[]=>cases e
     |d::t'=>
      rw[Av]at h
      simp only[Qz]at e
      by_cases h3:d=48
      ·subst h3
       rw[if_pos rfl]at e
       rw[<-ih t' _ _ (by omega) (by simp) e,yf,yf,xe,xe,X7];simp[esc,zqv]
      ·rw[if_neg h3]at e
       by_cases h4:d=49
       ·subst h4
        rw[if_pos rfl]at e
        rw[<-ih t' _ _ (by omega) (by simp) e,yf,yf,xe,xe,X7];simp[esc,zqv]
       ·rw[if_neg h4]at e;cases e
    ·rw[if_neg h2,Qz]at e
     rw[<-ih t _ _ (by omega) (by simp) e,yf,yf,xe,xe,X7];simp[esc,zqv,h1,h2]
theorem zy1(l:List Bs):l=[]\/(Wj l).head?=some 47:=by
 cases l with
 |nil=>exact .inl rfl
 |cons x l=>right;simp[Wj]
theorem zy2{l:List Bs}(h:l.length<=64)(hu:l.all j9=true):zqx (Wj l)=(l,0):=by
 unfold zqx
 rw[zhj,hu,z2n]
 have:(!(Wj l).isEmpty&&(Wj l).head? != some 47)=false:=by
  rcases zy1 l with rfl|e
  ·rfl
  ·rw[e];simp
 rw[this]
 simp;omega
theorem z7a{s:Bs}{p:List Bs}(h:zqx s=(p,0)):p.length<=64/\p.all j9=true/\Wj p=s:=by
 unfold zqx at h
 split at h
 ·cases h
 ·rename_i hc
  simp only[Cp,Cb,not_or,Bool.not_eq_true,Bool.not_eq_false]at hc
  split at h
  ·cases h
  ·rename_i out ho
   split at h
   ·cases h
   ·rename_i hl
    cases h
    have:=z2o s.length s [] p (Ae _) (λ_=>by
     have:=hc.2
     simp at this
     rcases Decidable.em (s=[])with q|q
     ·exact .inl q
     ·exact .inr (this q)) ho
    rw[show Wj []=[]from rfl,BJ]at this
    refine⟨by omega,?_,this.symm⟩
    rw[<-zhj,<-this];exact hc.1
end
section
variable {α:Type}
structure IsCmp {α:Type} (c:α->α->Int):Prop where
 rng:∀a b,c a b=-1\/c a b=0\/c a b=1
 eq0:∀a b,c a b=0↔a=b
 swap:∀a b,c b a=-c a b
 tr:∀a b d,c a b<=0->c b d<=0->c a d<=0
def ze8{α:Type}(c:α->α->Int):List α->List α->Int
 |[],[]=>0
 |[],_::_=>-1
 |_::_,[]=>1
 |a::l,b::m=>if c a b=0 then ze8 c l m else c a b
theorem zy3{c:α->α->Int}(H:IsCmp c):IsCmp (ze8 c) where
 rng:=by
  intro a
  induction a with
  |nil=>intro b;cases b <;> simp[ze8]
  |cons x a ih=>
   intro b
   cases b with
   |nil=>simp[ze8]
   |cons y b=>
    rw[ze8]
    by_cases h:c x y=0
    ·rw[if_pos h];exact ih b
    ·rw[if_neg h];exact H.rng x y
 eq0:=by
  intro a
  induction a with
  |nil=>intro b;cases b <;> simp[ze8]
  |cons x a ih=>
   intro b
   cases b with
   |nil=>simp[ze8]
   |cons y b=>
    rw[ze8,Ci,<-H.eq0 x y]
    by_cases h:c x y=0
    ·rw[if_pos h];simp[h,ih]
    ·rw[if_neg h];simp[h]
 swap:=by
  intro a
  induction a with
  |nil=>intro b;cases b <;> simp[ze8]
  |cons x a ih=>
   intro b
   cases b with
   |nil=>simp[ze8]
   |cons y b=>
    rw[ze8,ze8,H.swap x y]
    by_cases h:c x y=0
    ·rw[if_pos h,if_pos (by omega)];exact ih b
    ·rw[if_neg h,if_neg (by omega)]
 tr:=by
  intro a
  induction a with
  |nil=>intro b d h1 h2;cases d <;> simp[ze8]
  |cons x a ih=>
   intro b d h1 h2
   cases b with
   |nil=>simp[ze8]at h1
   |cons y b=>
    cases d with
    |nil=>simp[ze8]at h2
    |cons z d=>
     rw[ze8]at h1 h2 ⊢
     by_cases hxy:c x y=0
     ·have:=(H.eq0 x y).1 hxy
      subst this
      rw[if_pos hxy]at h1
      by_cases hyz:c x z=0
      ·rw[if_pos hyz]at h2 ⊢;exact ih b d h1 h2
      ·rw[if_neg hyz]at h2 ⊢;exact h2
     ·rw[if_neg hxy]at h1
      by_cases hyz:c y z=0
      ·have:=(H.eq0 y z).1 hyz
       subst this
       rw[if_neg hxy];exact h1
      ·rw[if_neg hyz]at h2
       have h3:=H.tr x y z h1 h2
       by_cases hxz:c x z=0
       ·have:=(H.eq0 x z).1 hxz
        subst this
        have:=H.swap x y
        omega
       ·rw[if_neg hxz];exact h3
theorem z2p{c:α->α->Int}(H:IsCmp c)(p x y:List α):ze8 c (p++x) (p++y)=ze8 c x y:=by
 induction p with
 |nil=>rfl
 |cons a p ih=>rw[A3,A3,ze8,if_pos ((H.eq0 a a).2 rfl),ih]
def z0z(a b:UInt8):Int:=if a.toNat<b.toNat then -1 else if a.toNat=b.toNat then 0 else 1
theorem cmpU_is:IsCmp z0z where
 rng:=λa b=>by
  unfold z0z
  by_cases h:a.toNat<b.toNat
  ·rw[if_pos h];simp
  ·rw[if_neg h]
   by_cases h2:a.toNat=b.toNat
   ·rw[if_pos h2];simp
   ·rw[if_neg h2];simp
 eq0:=λa b=>by
  unfold z0z
  rw[<-Da]
  by_cases h:a.toNat<b.toNat
  ·rw[if_pos h];omega
  ·rw[if_neg h]
   by_cases h2:a.toNat=b.toNat
   ·rw[if_pos h2];omega
   ·rw[if_neg h2];omega
 swap:=λa b=>by
  unfold z0z
  by_cases h:a.toNat<b.toNat
  ·rw[if_neg (by omega),if_neg (by omega),if_pos h];rfl
  ·by_cases h2:b.toNat<a.toNat
   ·rw[if_pos h2,if_neg h,if_neg (by omega)]
   ·rw[if_neg h2,if_pos (by omega),if_neg h,if_pos (by omega)];rfl
 tr:=λa b d=>by
  unfold z0z
  intro h1 h2
  by_cases h:a.toNat<d.toNat
  ·rw[if_pos h];omega
  ·rw[if_neg h]
   by_cases h':a.toNat=d.toNat
   ·rw[if_pos h'];omega
   ·exfalso
    by_cases g:a.toNat<b.toNat
    ·rw[if_neg (show¬b.toNat<d.toNat by omega),if_neg (by omega)]at h2;omega
    ·rw[if_neg g]at h1
     by_cases g2:a.toNat=b.toNat
     ·rw[if_neg (show¬b.toNat<d.toNat by omega),if_neg (by omega)]at h2;omega
     ·rw[if_neg g2]at h1;omega
def zo0:Bs->Bs->Int:=ze8 z0z
theorem cmpS_is:IsCmp zo0:=zy3 cmpU_is
theorem zs5:∀a b:Bs,CV a b=decide (zo0 a b=-1)
 |[],[]=>by simp[CV,zo0,ze8]
 |[],_::_=>by simp[CV,zo0,ze8]
 |_::_,[]=>by simp[CV,zo0,ze8]
 |a::l,b::m=>by
  have ih:=zs5 l m
  unfold zo0 at ih ⊢
  rw[ze8,CV,ih]
  by_cases h:a<b
  ·have:z0z a b=-1:=by unfold z0z;rw[if_pos (UInt8.lt_iff_toNat_lt.1 h)]
   simp[h,this]
  ·by_cases h2:a=b
   ·subst h2
    simp[(cmpU_is.eq0 a a).2 rfl,h]
   ·have:z0z a b=1:=by unfold z0z;rw[if_neg (λe=>h (UInt8.lt_iff_toNat_lt.2 e)),if_neg (λe=>h2 (Da.1 e))]
    simp[h,h2,this]
def cmpL:List Bs->List Bs->Int:=ze8 zo0
theorem cmpL_is:IsCmp cmpL:=zy3 cmpS_is
theorem z7b{a b:List Bs}{k:Nat}(h:a.take k=b.take k):cmpL a b=cmpL (a.drop k) (b.drop k):=by
 have:=z2p cmpS_is (a.take k) (a.drop k) (b.drop k)
 rw[BD,h,BD]at this
 exact this
end
section
def qu:Bs->Bool
 |[]=>true
 |c::t=>(c != 126||(t.head?==some 48||t.head?==some 49))&&qu t
theorem zkl:∀{l:Bs},index l [126]=-1->qu l=true
 |[],_=>rfl
 |c::t,h=>by
  cases hp:Bw [126] (c::t)with
  |true=>rw[Xa hp]at h;cases h
  |false=>
   have hc:c≠126:=by
    rintro rfl
    simp[Bw]at hp
   rcases Zb t [126]with e|⟨i,e⟩
   ·simp[qu,hc,zkl e]
   ·rw[zcq hp e]at h;omega
theorem zo1:∀{l:Bs} {i:Nat},index l [126]=i->qu l=(((l.drop (i+1)).head?==some 48||(l.drop (i+1)).head?==some 49)&&qu (l.drop (i+1)))
 |[],i,h=>by rw[zcr (by simp)]at h;omega
 |c::t,i,h=>by
  cases hp:Bw [126] (c::t)with
  |true=>
   rw[Xa hp]at h
   have:i=0:=by omega
   subst this
   have hc:c=126:=by simp[Bw]at hp;exact hp.symm
   subst hc
   simp[qu]
  |false=>
   have hc:c≠126:=by
    rintro rfl
    simp[Bw]at hp
   rcases Zb t [126]with e|⟨j,e⟩
   ·rw[zfp hp e]at h;omega
   ·rw[zcq hp e]at h
    have:i=j+1:=by omega
    subst this
    rw[List.drop_succ_cons,<-zo1 e]
    simp[qu,hc]
def J6(l:Bs):Bs:=zng [126,48] [126] (zng [126,49] [47] l)
theorem zy4(l:Bs):replaceAll (replaceAll l [126,49] [47]) [126,48] [126]=J6 l:=by
 rw[xw (by simp) (by simp),xw (by simp) (by simp)];rfl
theorem zhk:J6 []=[]:=by unfold J6;rw[zct (by simp),zct (by simp)]
theorem zvj{c:UInt8}(h:c≠126)(l:Bs):J6 (c::l)=c::J6 l:=by
 unfold J6
 have h1:∀d:UInt8,∀m:Bs,Bw [126,d] (c::m)=false:=λd m=>by
  simp[Bw];exact λe=>absurd e.symm h
 rw[Zc (by simp),h1,if_neg (by simp),Zc (by simp),h1,if_neg (by simp)]
theorem z7c(l:Bs):J6 (126::48::l)=126::J6 l:=by
 unfold J6
 rw[Zc (by simp),if_neg (by simp[Bw]),Zc (old:=[126,49]) (by simp) 48 l,if_neg (by simp[Bw]),Zc (by simp),if_pos (by simp[Bw])]
 rfl
theorem z7d(l:Bs):J6 (126::49::l)=47::J6 l:=by
 unfold J6
 rw[Zc (by simp),if_pos (by simp[Bw])]
 show zng [126,48] [126] (47::zng [126,49] [47] l)=_
 rw[Zc (by simp),if_neg (by simp[Bw])]
theorem z2q(old new:Bs)(ho:old≠[])(hn:new.length<=old.length)(n:Nat):∀s:Bs,s.length<=n->(zng old new s).length<=s.length:=by
 induction n with
 |zero=>intro s h;(have:s=[]:=Aw (by omega));subst this;rw[zct ho];simp
 |succ n ih=>
  intro s h
  match s with
  |[]=>rw[zct ho];simp
  |b::l=>
   rw[Av]at h
   rw[Zc ho]
   cases hp:old.isPrefixOf (b::l)with
   |true=>
    rw[if_pos rfl,Ar]
    have h1:0<old.length:=A5.2 ho
    have h2:old.length<=(b::l).length:=(List.isPrefixOf_iff_prefix.1 hp).length_le
    rw[Av]at h2
    have:=ih ((b::l).drop old.length) (by rw[AX,Av];omega)
    rw[AX,Av]at this
    rw[Av];omega
   |false=>
    rw[if_neg (by simp),Av,Av]
    have:=ih l (by omega)
    omega
def zah(x:Bs):List Bs->List Bs
 |[]=>[]
 |y::ys=>(x++J6 y)::ys.map J6
theorem zvk(x:Bs){c:UInt8}(h:c≠47){z:Bs}{t:Bs}(hz:∀y,x++J6 (c::y)=z++J6 y):zah x (Jg 47 (c::t))=zah z (Jg 47 t):=by
 rw[Jg,if_neg h]
 cases hs:Jg 47 t with
 |nil=>exact absurd hs (zg9 _ _)
 |cons y ys=>simp only[zah,hz]
theorem zy5(n:Nat):∀(t:Bs),t.length<=n->∀out x,prc (out++[x]) t=if qu t then some (out++zah x (Jg 47 t))else none:=by
 induction n with
 |zero=>
  intro t h out x
  have:t=[]:=Aw (by omega)
  subst this
  simp[prc,qu,Jg,zah,zhk]
 |succ n ih=>
  intro t h out x
  match t with
  |[]=>simp[prc,qu,Jg,zah,zhk]
  |c::t=>
   rw[Av]at h
   rw[prc.eq_def]
   simp only
   by_cases h1:c=47
   ·subst h1
    rw[if_pos rfl,ih t (by omega)]
    have hw:qu (47::t)=qu t:=by simp[qu]
    rw[hw,Jg,if_pos rfl]
    cases hs:Jg 47 t with
    |nil=>exact absurd hs (zg9 _ _)
    |cons y ys=>simp[zah,zhk]
   ·rw[if_neg h1]
    by_cases h2:c=126
    ·subst h2
     rw[if_pos rfl]
     match t with
     |[]=>simp[qu]
     |d::t'=>
      rw[Av]at h
      simp only[Qz]
      by_cases h3:d=48
      ·subst h3
       rw[if_pos rfl,ih t' (by omega)]
       have hw:qu (126::48::t')=qu t':=by simp[qu]
       rw[hw]
       have e:zah (x++[126]) (Jg 47 t')=zah x (Jg 47 (126::48::t')):=by
        rw[Jg,if_neg (by decide),Jg,if_neg (by decide)]
        cases hs:Jg 47 t' with
        |nil=>exact absurd hs (zg9 _ _)
        |cons y ys=>simp[zah,z7c]
       rw[e]
      ·rw[if_neg h3]
       by_cases h4:d=49
       ·subst h4
        rw[if_pos rfl,ih t' (by omega)]
        have hw:qu (126::49::t')=qu t':=by simp[qu]
        rw[hw]
        have e:zah (x++[47]) (Jg 47 t')=zah x (Jg 47 (126::49::t')):=by
         rw[Jg,if_neg (by decide),Jg,if_neg (by decide)]
         cases hs:Jg 47 t' with
         |nil=>exact absurd hs (zg9 _ _)
         |cons y ys=>simp[zah,z7d]
        rw[e]
       ·rw[if_neg h4]
        have hw:qu (126::d::t')=false:=by simp[qu,h3,h4]
        rw[hw];simp
    ·rw[if_neg h2,Qz,ih t (by omega)]
     have hw:qu (c::t)=qu t:=by simp[qu,h2]
     rw[hw,zvk x h1 (z:=x++[c]) (λy=>by rw[zvj h2];simp)]
def goP(s:Bs):List Bs×Int:=
 if !(j9 s)||(!s.isEmpty&&s.head? != some 47) || !(qu s)then([],2)else if 64<s.count 47 then([],3)else if s=[]then([],0)else((Jg 47 s.tail).map J6,0)
theorem qau(s:Bs):goP s=zqx s:=by
 unfold goP zqx
 cases hb:!(j9 s)||(!s.isEmpty&&s.head? != some 47)with
 |true=>simp
 |false=>
  simp only[Ec,A0,if_false]
  match s,hb with
  |[],_=>simp[qu,prc]
  |c::t,hb=>
   have hc:c=47:=by
    rw[Cx]at hb
    simpa using hb.2
   subst hc
   have hw:qu (47::t)=qu t:=by simp[qu]
   have hp:prc [] (47::t)=prc ([]++[[]]) t:=by rw[prc.eq_def];simp
   rw[hw,hp,zy5 t.length t (Ae _)]
   cases hwt:qu t with
   |false=>simp
   |true=>
    simp only[Bool.not_true,A0,if_false,if_true,BJ]
    have hj:zah [] (Jg 47 t)=(Jg 47 t).map J6:=by
     cases hs:Jg 47 t with
     |nil=>rfl
     |cons y ys=>simp[zah]
    have hl:(zah [] (Jg 47 t)).length=(47::t).count 47:=by
     rw[hj,Bv,zbc,List.count_cons];simp
    rw[hl,hj]
    simp
theorem zd5(s:Bs)(c:UInt8):countB (bl s) (bl [c])=s.count c:=by
 rw[<-count_one]
theorem zvl(s:Bs)(c:UInt8):splitB (bl [c]) 0 (countB (bl s) (bl [c])) (bl s)=(Jg c s).map bl:=by
 have h:=splitB_data (bl [c]) 0 (countB (bl s) (bl [c])) (bl s)
 have e:∀x:Bt,x.data.toList=lb x:=λ_=>rfl
 simp only[e]at h
 rw[zg8 (by simp) _ _ (by rw[zd5,count_one];exact Ae _),zso]at h
 have h2:=congrArg (List.map bl) h
 rw[DG]at h2
 have e2:(bl ∘ λx=>lb x)=(id:Bt->Bt):=funext λx=>W8 x
 rw[e2,EW]at h2
 exact h2
theorem zfv(c:UInt8):∀(l:Bs) (x:Bs),x∈Jg c l->x.length<=l.length
 |[],x,h=>by simp[Jg]at h;subst h;simp
 |b::l,x,h=>by
  rw[Jg]at h
  split at h
  ·rcases Ad.1 h with rfl|h
   ·simp
   ·have:=zfv c l x h;rw[Av];omega
  ·split at h
   ·simp at h;subst h;simp
   ·rename_i y r hs
    rcases Ad.1 h with rfl|h
    ·have:=zfv c l y (by rw[hs];simp);rw[Av,Av];omega
    ·have:=zfv c l x (by rw[hs];simp[h]);rw[Av];omega
theorem z2r(l:Bs):(replaceAll l [126] [126,48]).length<=2*l.length:=by
 rw[xw (by simp) (by simp),zfr]
 induction l with
 |nil=>simp
 |cons c t ih=>
  rw[DR,Ar,Av]
  have:(if c=126 then [126,48]else [c]:Bs).length<=2:=by
   by_cases hq:c=126
   ·rw[if_pos hq];simp
   ·rw[if_neg hq];simp
  omega
end
section
variable {l:Bs}
def zqy(l:Bs):Prop:=∀c∈l,c.toNat<128
theorem Xj(cs:Bs):∀l:Bs,containsAny l cs=l.any λc=>cs.contains c
 |[]=>by simp[containsAny,indexAny]
 |c::l=>by
  have ih:=Xj cs l
  have Z:=indexAny_ge cs l
  rw[EO,<-ih]
  unfold containsAny
  rw[indexAny]
  by_cases hc:cs.contains c=true
  ·rw[if_pos hc,hc];simp
  ·have O:cs.contains c=false:=by simpa using hc
   rw[if_neg hc,O,Ec]
   by_cases h1:indexAny l cs=-1
   ·simp[h1]
   ·have hb:(indexAny l cs==-1)=false:=by rw[beq_eq_false_iff_ne];exact h1
    rw[hb,if_neg (by simp),AJ,decide_eq_true_eq,decide_eq_true_eq];omega
theorem zy6:∀(l:Bs) (acc:Nat),l.all yq=true->acc*10 ^ l.length+zr l<10 ^ 18->parseUint10 acc l=.ok (acc*10 ^ l.length+zr l)
 |[],acc,_,_=>by simp[parseUint10,zr]
 |c::t,acc,hd,hl=>by
  rw[DJ,AI]at hd
  have hc:48<=c.toNat/\c.toNat<=57:=by simpa[yq]using hd.1
  have e:zr (c::t)=(c.toNat-48)*10 ^ t.length+zr t:=by
   have:=J5 [c] t
   rw[DL]at this
   rw[this];simp[zr]
  have e2:(acc*10+(c.toNat-48))*10 ^ t.length+zr t=acc*10 ^ (c::t).length+zr (c::t):=by
   rw[e,Av,Nat.pow_succ,BB,Nat.mul_assoc,CU 10 (10 ^ t.length)];omega
  have hp:1<=10 ^ t.length:=Nat.one_le_pow _ _ (by decide)
  have hb:acc*10+(c.toNat-48)<=acc*10 ^ (c::t).length+zr (c::t):=by
   rw[<-e2]
   calc acc*10+(c.toNat-48)=(acc*10+(c.toNat-48))*1:=by omega
    _<=(acc*10+(c.toNat-48))*10 ^ t.length:=Nat.mul_le_mul_left _ hp
    _<=_:=by omega
  rw[parseUint10,if_pos hc,if_neg (by omega),if_neg (by omega),zy6 t _ hd.2 (by rw[e2];exact hl),e2]
theorem zqz:∀(l:Bs) (acc:Nat),l.all yq=false->∀v,parseUint10 acc l≠.ok v
 |[],acc,h,v=>by simp at h
 |c::t,acc,h,v=>by
  rw[parseUint10]
  by_cases hc:48<=c.toNat/\c.toNat<=57
  ·have hd:yq c=true:=by simp[yq,hc]
   rw[DJ,hd,B0]at h
   rw[if_pos hc]
   by_cases h1:1844674407370955162<=acc
   ·rw[if_pos h1];simp
   ·rw[if_neg h1]
    by_cases h2:18446744073709551616<=acc*10+(c.toNat-48)
    ·rw[if_pos h2];simp
    ·rw[if_neg h2];exact zqz t _ h v
  ·rw[if_neg hc];simp
theorem z7e(hd:l.all yq=true)(Z:l≠[])(hl:l.length<=9):atoiAll l=.ok (zr l:Int):=by
 have hv:zr l<10 ^ 9:=Xg hl hd
 have hp:=zy6 l 0 hd (by rw[Dc];omega)
 rw[Dc,AD]at hp
 obtain⟨c,t,rfl⟩:=Cg Z
 have hc:48<=c.toNat/\c.toNat<=57:=by
  rw[DJ,AI]at hd
  simpa[yq]using hd.1
 unfold atoiAll
 simp only
 rw[if_neg (by omega)]
 unfold parseMag
 rw[if_neg (by simp),hp]
 have O:¬c.toNat=45:=by omega
 simp only[O,not_false_eq_true,true_and,false_and,if_false]
 rw[if_neg (by omega)]
theorem z7f(hd:l.all yq=false)(hh:∀c,l.head?=some c->c.toNat≠43/\c.toNat≠45)(v:Int):atoiAll l≠.ok v:=by
 cases l with
 |nil=>simp at hd
 |cons c t=>
  have hc:=hh c rfl
  unfold atoiAll
  simp only
  rw[if_neg (by omega)]
  unfold parseMag
  rw[if_neg (by simp)]
  have:=zqz (c::t) 0 hd
  cases hp:parseUint10 0 (c::t)with
  |ok u=>exact absurd hp (this u)
  |range=>simp
  |_=>simp
theorem z7g(h:¬zqy l)(v:Int):atoiAll l≠.ok v:=by
 have O:∀m:Bs,¬zqy m->∀u,parseMag m≠.ok u:=by
  intro m hm u
  unfold parseMag
  split
  ·simp
  ·apply zqz
   rw[Bool.eq_false_iff]
   intro hd
   apply hm
   intro c hc
   rw[AP]at hd
   have:=hd c hc
   simp[yq]at this;omega
 cases l with
 |nil=>exact absurd (λc hc=>by cases hc) h
 |cons c t=>
  unfold atoiAll
  simp only
  have hm:¬zqy (if c.toNat=43\/c.toNat=45 then t else c::t):=by
   split
   ·rename_i hc
    intro ht
    apply h
    intro d hd
    rcases Ad.1 hd with rfl|hd
    ·omega
    ·exact ht d hd
   ·exact h
  have:=O _ hm
  cases hp:parseMag (if c.toNat=43\/c.toNat=45 then t else c::t)with
  |ok u=>exact absurd hp (this u)
  |range=>simp
  |_=>simp
def zc2(l:Bs):Int×Bool:=if l.length<1\/9<l.length\/(1<l.length/\l.head?=some 48)then(0,false)else if l.all yq then((zr l:Int),true)else(0,false)
theorem zkm(h:(zc2 l).2=true):0<=(zc2 l).1/\(zc2 l).1<1000000000:=by
 unfold zc2 at h ⊢
 split
 ·rename_i hc;rw[if_pos hc]at h;cases h
 ·rename_i hc
  rw[if_neg hc]at h
  split
  ·rename_i hd
   have:zr l<10 ^ 9:=Xg (by omega) hd
   simp only;omega
  ·rename_i hd;rw[if_neg hd]at h;cases h
end
section
variable {v:Tr} {k:Nat}
theorem zmg(x:Bt):∀(l:List Bt) (i:Nat),(idxFromS l x i=-1/\x∉l)\/∃k:Nat,idxFromS l x i=((i+k:Nat):Int)/\k<l.length/\l[k]?=some x
 |[],i=>.inl ⟨rfl,by simp⟩
 |z::l,i=>by
  unfold idxFromS
  by_cases h:z=x
  ·rw[if_pos h];exact .inr ⟨0,rfl,by simp,by simp[h]⟩
  ·rw[if_neg h]
   rcases zmg x l (i+1)with⟨h1,h2⟩|⟨k,h1,h2,h3⟩
   ·exact .inl ⟨h1,by simp[h2];exact λe=>h e.symm⟩
   ·exact .inr ⟨k+1,by rw[h1];congr 1;omega,by simp;omega,by simpa using h3⟩
def qo(v:Tr)(s:Bt):Int:=if v.kind=6 then idxOfS v.keys s else if v.kind=5 then(if(zc2 (lb s)).2=true/\(zc2 (lb s)).1<v.items.length then(zc2 (lb s)).1 else -1)else -1
theorem zc3(hv:zy v=true)(s:Bt):qo v s=-1\/∃k:Nat,qo v s=k/\k<v.items.length:=by
 unfold qo
 by_cases h6:v.kind=6
 ·rw[if_pos h6]
  have hl:v.keys.length=v.items.length:=by
   unfold zy at hv
   simp[h6]at hv
   exact hv.1.2
  rcases zmg s v.keys 0 with⟨h1,_⟩|⟨k,h1,h2,_⟩
  ·exact .inl h1
  ·exact .inr ⟨k,by unfold idxOfS;rw[h1];simp,by omega⟩
 ·rw[if_neg h6]
  by_cases h5:v.kind=5
  ·rw[if_pos h5]
   by_cases hc:(zc2 (lb s)).2=true/\(zc2 (lb s)).1<v.items.length
   ·rw[if_pos hc]
    have:=zkm hc.1
    exact .inr ⟨(zc2 (lb s)).1.toNat,by omega,by omega⟩
   ·rw[if_neg hc];exact .inl rfl
  ·rw[if_neg h5];exact .inl rfl
def yb:Tr->List Bt->List (Nat×Tr)
 |_,[]=>[]
 |v,s::p=>if 0<=qo v s then(match v.items[(qo v s).toNat]? with
  |some x=>((qo v s).toNat,x)::yb x p
  |none=>[])else []
def lastT(v:Tr)(l:List (Nat×Tr)):Tr:=(l.getLast?.map (·.2)).getD v
theorem zkn(v:Tr)(q:Nat×Tr)(l:List (Nat×Tr)):lastT v (q::l)=lastT q.2 l:=by
 unfold lastT
 cases l with
 |nil=>rfl
 |cons x l=>rw[List.getLast?_cons_cons];cases h:(x::l).getLast? with
  |none=>simp at h
  |some y=>rfl
theorem zko:∀(v:Tr) (p:List Bt),(yb v p).length<=p.length
 |_,[]=>by simp[yb]
 |v,s::p=>by
  unfold yb
  split
  ·split
   ·rename_i x _
    have:=zko x p
    simp;omega
   ·simp
  ·simp
theorem zhl{s:Bt}{p:List Bt}(h:qo v s<0):yb v (s::p)=[]:=by
 unfold yb;rw[if_neg (by omega)]
theorem X8{s:Bt}{p:List Bt}(h:qo v s=k)(hk:k<v.items.length):yb v (s::p)=(k,v.items[k])::yb v.items[k] p:=by
 rw[yb,if_pos (by omega),h,Ah,Ai hk]
def qz(v:Tr)(p:List Bt):Option Tr:=if(yb v p).length=p.length then some (lastT v (yb v p))else none
theorem Jb(v:Tr):qz v []=some v:=rfl
theorem zfw{s:Bt}{p:List Bt}(h:qo v s<0):qz v (s::p)=none:=by
 unfold qz;rw[zhl h];simp
theorem Q0{s:Bt}{p:List Bt}(h:qo v s=k)(hk:k<v.items.length):qz v (s::p)=qz v.items[k] p:=by
 unfold qz
 rw[X8 h hk,zkn]
 simp
theorem y0{q:Tr->Bool}{v x:Tr}(h:Y9 q v=true)(hx:x∈v.items):Y9 q x=true:=by
 rw[zmd,AI,zc1,AP]at h
 exact h.2 x hx
theorem y5{q:Tr->Bool}(h:Y9 q v=true):q v=true:=by
 rw[zmd,AI]at h;exact h.1
end
end Go.X
end
section
namespace Go.X
open Go Go.RowKit
section
variable {h h':zb} {bs:List Nat} {v:Tr} {M:Fr} {b o n:Nat} {cs:Array Value} {vs:List Value}
def OKeys(h:zb)(ks:List Bt)(bs:List Nat)(s:Sl):Prop:=
 s.len=ks.length/\ks.length<=140737488355328/\ks.length<=s.cap/\((ks=[]/\bs=[]/\s.cap=0)\/∃b cs,bs=[b]/\s.a=some ⟨b,0,none⟩/\Blk h b cs/\s.cap<=cs.size/\cut cs 0 ks.length=ks.map AW)
inductive OT (h:zb):Tr->List Nat->List Value->Prop where
 |mk {k:Int} {s:Bt} {ks:List Bt} {xs:List Tr} {sk si:Sl} {bk bb:List Nat} {b:Nat} {cs:Array Value} {bf:Nat->List Nat}
  (hk:OKeys h ks bk sk) (hn:si.len=xs.length/\xs.length<=140737488355328/\xs.length<=si.cap)
  (hz:(xs=[]/\bb=[]/\si.cap=0)\/(bb=[b]/\si.a=some ⟨b,0,none⟩/\Blk h b cs/\si.cap*4<=cs.size))
  (hi:∀i (hx:i<xs.length),OT h xs[i] (bf i) (cut cs (i*4) 4))
  (hd:(bk++(bb++(BE xs.length).flatMap bf)).Nodup):
  OT h (.mk k s ks xs) (bk++(bb++(BE xs.length).flatMap bf)) [.int .i64 k,.string s,slV sk,slV si]
theorem OKeys.frame{ks:List Bt}{s:Sl}(H:OKeys h ks bs s)(hf:∀b∈bs,h'[b]?=h[b]?):OKeys h' ks bs s:=by
 obtain⟨h1,h2,h3,h4⟩:=H
 refine⟨h1,h2,h3,h4.imp id ?_⟩
 rintro⟨b,cs,rfl,e1,e2,e3⟩
 exact⟨b,cs,rfl,e1,e2.keep (hf b (by simp)),e3⟩
theorem OT.frame{cells:List Value}(H:OT h v bs cells):(∀b∈bs,h'[b]?=h[b]?)->OT h' v bs cells:=by
 induction H with
 | @mk k s ks xs sk si bk bb b cs bf hk hn hz hi hd ih=>
  intro hf
  refine OT.mk (b:=b) (cs:=cs) (hk.frame λx hx=>hf x (by simp[hx])) hn (hz.imp id ?_) (λi hx=>ih i hx λx O=>hf x ?_) hd
  ·rintro⟨rfl,e1,e2,e3⟩
   exact⟨rfl,e1,e2.keep (hf b (by simp)),e3⟩
  ·simp only[An,Bp,BX]
   exact .inr (.inr ⟨i,hx,O⟩)
theorem OT.nodup{cells:List Value}(H:OT h v bs cells):bs.Nodup:=by
 cases H with|mk _ _ _ _ hd=>exact hd
theorem OT.lt{cells:List Value}(H:OT h v bs cells):∀b∈bs,b<h.size:=by
 induction H with
 | @mk k s ks xs sk si bk bb b cs bf hk hn hz hi hd ih=>
  intro x hx
  simp only[An,Bp,BX]at hx
  rcases hx with hx|hx|⟨i,h1,h2⟩
  ·obtain⟨_,_,_,h4⟩:=hk
   rcases h4 with⟨_,rfl,_⟩|⟨b',cs',rfl,_,e,_⟩
   ·cases hx
   ·simp at hx;subst hx;exact e.lt
  ·rcases hz with⟨_,rfl,_⟩|⟨rfl,_,e,_⟩
   ·cases hx
   ·simp at hx;subst hx;exact e.lt
  ·exact ih i h1 x h2
theorem OT.len{cells:List Value}(H:OT h v bs cells):cells.length=4:=by cases H;rfl
theorem OT.one{cells:List Value}(H:OT h v bs cells):∀c∈cells,c.oneCell'=true:=by
 cases H with
 |mk _ _ _ _ _=>
  intro c hc
  simp at hc
  rcases hc with rfl|rfl|rfl|rfl <;> simp[Value.oneCell',slV]
theorem OT.cells{h:zb}{v:Tr}{bs:List Nat}{cells:List Value}(H:OT h v bs cells):∃sk si:Sl,cells=[.int .i64 v.kind,.string v.text,slV sk,slV si]:=by
 cases H with|mk _ _ _ _ _=>exact⟨_,_,rfl⟩
theorem OT.rd{cells:List Value}(H:OT h v bs cells)(hM:∀b∈bs,∀cs,Blk h b cs->M b=some cs):TrRd M v cells:=by
 induction H with
 | @mk k s ks xs sk si bk bb b cs bf hk hn hz hi hd ih=>
  obtain⟨k1,k2,k3,k4⟩:=hk
  have aa:RowAt M (λs cs=>cs=[.string s]) 1 ks (slV sk):=by
   refine⟨sk.a,sk.cap,by rw[slV,k1],⟨k2,k3⟩,?_⟩
   rcases k4 with⟨h0,_⟩|⟨b',cs',rfl,e1,e2,_,e3⟩
   ·exact .inl h0
   ·refine .inr ⟨b',0,cs',e1,hM b' (by simp) cs' e2,λi hx=>?_⟩
    have:(cut cs' 0 ks.length)[i]?=some (AW ks[i]):=by rw[e3,Cc,Ai hx];rfl
    unfold cut at this ⊢
    rw[AC,if_pos hx,A2]at this
    have O:=(Az.1 this).1
    rw[AD,B6,AL O,B5,CM]
    rw[Ai O]at this
    rw[Au this]
  have Z:slV si=.slice si.a xs.length si.cap:=by rw[slV,hn.1]
  rw[Z]
  refine TrRd.mk (b:=b) (o:=0) (cs:=cs) aa hn.2 (hz.imp (·.1) ?_) λi hx=>?_
  ·rintro⟨rfl,e1,e2,_⟩
   exact⟨e1,hM b (by simp) cs e2⟩
  ·rw[AD]
   exact ih i hx λx ac cs' e=>hM x (by
    simp only[An,Bp,BX]
    exact .inr (.inr ⟨i,hx,ac⟩)) cs' e
def MxL(M:Fr)(h:zb)(bs:List Nat):Fr:=λi=>if i∈bs then(match h[i]? with
 |some (.cells cs _ _)=>some cs
 |_=>none)else M i
theorem MxL.ag{M:Fr}{h:zb}(ag:AgM M h)(bs:List Nat):AgM (MxL M h bs) h:=by
 intro b c e
 unfold MxL at e
 split at e
 ·split at e
  ·rename_i cs T m hb
   cases e;exact⟨T,m,hb⟩
  ·cases e
 ·exact ag b c e
theorem MxL.later{h0 h:zb}(ag:AgM M h0)(k:Keep h0.size h0 h)(hb:∀b∈bs,h0.size<=b):Later h0 M h (MxL M h bs) where
 keep:=k
 le:=λb c e=>by
  have:=ag.lt e
  unfold MxL;rw[if_neg (λhm=>by have:=hb b hm;omega)];exact e
 old:=λb hlt=>by unfold MxL;rw[if_neg (λhm=>by have:=hb b hm;omega)]
 ag:=MxL.ag (ag.keep k) bs
theorem MxL.at(hb:b∈bs)(e:Blk h b cs):MxL M h bs b=some cs:=by
 obtain⟨T,e⟩:=e
 unfold MxL;rw[if_pos hb,e]
theorem OT.rdv{cells:List Value}(H:OT h v bs cells):RdV (MxL M h bs) .tree v (.agg cells.toArray):=by
 unfold RdV
 simp only[zdn,if_true]
 exact⟨cells,rfl,H.rd λb hb cs e=>MxL.at hb e⟩
def upd(cs:Array Value)(o:Nat)(vs:List Value):Array Value:=(cs.toList.take o++vs++cs.toList.drop (o+vs.length)).toArray
theorem y7(h:o+vs.length<=cs.size):(upd cs o vs).size=cs.size:=by
 unfold upd;simp;omega
theorem jh(h:o+vs.length<=cs.size)(q:Nat):(upd cs o vs).toList[q]?=if q<o then cs.toList[q]? else if q<o+vs.length then vs[q-o]? else cs.toList[q]?:=by
 unfold upd
 exact Qk (by simpa using h) q
theorem zp{o n i:Nat}:(cut cs o n)[i]?=if i<n then cs.toList[o+i]? else none:=by
 unfold cut
 rw[AC]
 split
 ·rw[AE]
 ·rfl
theorem zmh(h:o+vs.length<=cs.size):cut (upd cs o vs) o vs.length=vs:=by
 apply AZ
 intro i
 rw[zp]
 split
 ·rw[jh h,if_neg (by omega),if_pos (by omega)];congr 1;omega
 ·rw[Bj (by omega)]
theorem zd6{o p n:Nat}(h:o+vs.length<=cs.size)(O:p+n<=o\/o+vs.length<=p):cut (upd cs o vs) p n=cut cs p n:=by
 apply AZ
 intro i
 rw[zp,zp]
 split
 ·rw[jh h]
  split
  ·rfl
  ·rw[if_neg (by omega)]
 ·rfl
theorem Q1{P:Program}{t:TypeId}(hi:yu P t=true)(H:Blk h b cs){v:Value}(hc:v.cells.toList=vs)(hs:yr P t=vs.length)(hl:o+vs.length<=cs.size)(h1:∀u∈vs,u.oneCell'=true){K:zb->Prop}
  (hK:∀h':zb,Blk h' b (upd cs o vs)->h'.size=h.size->(∀j,j≠b->h'[j]?=h[j]?)->K h'):XRunU P (Al t (.pointer (some ⟨b,o,none⟩)) v) h K:=by
 intro B d
 obtain⟨T,e⟩:=H
 have O:v.cells.size=vs.length:=by rw[<-hc];simp
 obtain⟨h',r1,r2,r3,r4⟩:=Jt (P:=P) hi hs e O hl (by rw[hc];exact h1) B d
 refine⟨d,h',r1,hK h' ⟨T,?_⟩ r3 r4⟩
 rw[r2]
 unfold upd
 rw[hc]
theorem Blk.ofKeep(H:Blk h b cs)(k:Keep h.size h h'):Blk h' b cs:=H.keepN k H.lt
end
section
variable {n k rb:Nat} {h:zb}
def zvm(v:Tr)(k:Nat)(x:Tr):Tr:=.mk v.kind v.text v.keys (v.items.set k x)
theorem zmi{bf:Nat->List Nat}:((BE n).flatMap bf).Nodup↔(∀i,i<n->(bf i).Nodup)/\∀i j,i<j->j<n->∀x∈bf i,∀y∈bf j,x≠y:=by
 unfold List.Nodup
 rw[List.pairwise_flatMap,List.pairwise_iff_getElem]
 constructor
 ·rintro⟨h1,h2⟩
  refine⟨λi hi=>h1 i (by simpa using hi),λi j O hj=>?_⟩
  have:=h2 i j (by simp;omega) (by simpa using hj) O
  simpa using this
 ·rintro⟨h1,h2⟩
  refine⟨λi hi=>h1 i (by simpa using hi),λi j hi hj O=>?_⟩
  simp at hi hj
  simpa using h2 i j O hj
theorem zs6{cs:Array Value}{o n:Nat}(h:o+n<=cs.size):upd cs o (cut cs o n)=cs:=by
 have hl:(cut cs o n).length=n:=by unfold cut;simp;omega
 apply ED
 apply AZ
 intro q
 rw[jh (by rw[hl];exact h)]
 split
 ·rfl
 ·split
  ·rw[zp,if_pos (by omega)];congr 1;omega
  ·rfl
theorem OT.put1{v:Tr}{bs:List Nat}{cells:List Value}(H:OT h v bs cells)(hk:k<v.items.length):
  ∃(b:Nat) (cs:Array Value) (si:Sl) (bx:List Nat),cells[3]?=some (slV si)/\si.a=some ⟨b,0,none⟩/\si.len=v.items.length/\Blk h b cs/\v.items.length*4<=cs.size/\b∈bs/\OT h v.items[k] bx (cut cs (k*4) 4)/\b∉bx/\(∀c∈bx,c∈bs) /\
   ∀(h':zb) (x':Tr) (cells':List Value) (b':List Nat),(∀c∈bs,c∉bx->c≠b->h'[c]?=h[c]?)->Blk h' b (upd cs (k*4) cells')->OT h' x' b' cells'->(∀c∈b',c∈bx\/c∉bs)->∃bn,OT h' (zvm v k x') bn cells/\∀c∈bn,c∈bs\/c∈b':=by
 cases H with
 | @mk kd s ks xs sk si bk bb b cs bf hkk hn hz hi hd=>
  have hk:k<xs.length:=hk
  rcases hz with⟨h0,_⟩|⟨rfl,e1,hb,ap⟩
  ·rw[h0]at hk;simp at hk
  have ax:xs.length*4<=cs.size:=by have:=hn.2.2;omega
  rw[A6]at hd
  obtain⟨aD,al,ai⟩:=hd
  rw[A6]at al
  obtain⟨aF,az,aB⟩:=al
  have nf:=zmi.1 az
  have ae:∀i,i<xs.length->b∉bf i:=λi hi hm=>aB b (by simp) b (Bp.2 ⟨i,by simpa using hi,hm⟩) rfl
  have af:∀i,i<xs.length->∀c∈bf i,c∈bk++([b]++(BE xs.length).flatMap bf):=λi hi c hc=>by
   simp only[An,Bp,BX]
   exact .inr (.inr ⟨i,hi,hc⟩)
  refine⟨b,cs,si,bf k,rfl,e1,hn.1,hb,ax,by simp,hi k hk,ae k hk,af k hk,λh' x' cells' b' hf aE ho ah=>?_⟩
  have ay:cells'.length=4:=ho.len
  have an:∀c∈b',∀i,i<xs.length->i≠k->c∉bf i:=λc hc i Z aA hm=>by
   rcases ah c hc with hx|hx
   ·rcases Nat.lt_or_gt_of_ne aA with aa|aa
    ·exact nf.2 i k aa hk c hm c hx rfl
    ·exact nf.2 k i aa Z c hx c hm rfl
   ·exact hx (af i Z c hm)
  have au:b∉b':=λhm=>by
   rcases ah b hm with hx|hx
   ·exact ae k hk hx
   ·exact hx (by simp)
  have aj:∀c∈bk,c∉b':=λc hc hm=>by
   rcases ah c hm with hx|hx
   ·exact ai c hc c (by rw[An];exact .inr (Bp.2 ⟨k,by simpa using hk,hx⟩)) rfl
   ·exact hx (by simp[hc])
  have am:∀c∈bk,c≠b:=λc hc e=>ai c hc b (by simp) e
  have ak:∀c∈bk,∀i,i<xs.length->c∉bf i:=λc hc i Z hm=>ai c hc c (by rw[An];exact .inr (Bp.2 ⟨i,by simpa using Z,hm⟩)) rfl
  have ac:(xs.set k x').length=xs.length:=by simp
  have hu:k*4+cells'.length<=cs.size:=by omega
  refine⟨bk++([b]++(BE (xs.set k x').length).flatMap (λi=>if i=k then b' else bf i)),?_,λc hc=>?_⟩
  ·refine OT.mk (b:=b) (cs:=upd cs (k*4) cells') (hkk.frame λc hc=>hf c (by simp[hc]) (ak c hc k hk) (am c hc)) (by rw[ac];exact hn) (.inr ⟨rfl,e1,aE,by rw[y7 hu];exact ap⟩) (λi hx=>?_) ?_
   ·rw[ac]at hx
    by_cases O:i=k
    ·subst O
     rw[if_pos rfl]
     have:=zmh hu
     rw[ay]at this
     rw[this,List.getElem_set_self];exact ho
    ·rw[if_neg O,List.getElem_set_ne (by omega),zd6 hu (by omega)]
     refine(hi i hx).frame λc hc=>hf c (af i hx c hc) (λhm=>?_) (λe=>ae i hx (e ▸ hc))
     rcases Nat.lt_or_gt_of_ne O with aa|aa
     ·exact nf.2 i k aa hk c hc c hm rfl
     ·exact nf.2 k i aa hx c hm c hc rfl
   ·rw[ac,A6]
    refine⟨aD,?_,λx hx y hy=>?_⟩
    ·rw[A6]
     refine⟨by simp,zmi.2 ⟨λi Z=>?_,λi j aC hj x hx y hy e=>?_⟩,λx hx y hy=>?_⟩
     ·by_cases O:i=k
      ·rw[if_pos O];exact ho.nodup
      ·rw[if_neg O];exact nf.1 i Z
     ·subst e
      by_cases O:i=k
      ·rw[if_pos O]at hx
       rw[if_neg (by omega)]at hy
       exact an x hx j hj (by omega) hy
      ·rw[if_neg O]at hx
       by_cases ar:j=k
       ·rw[if_pos ar]at hy
        exact an x hy i (by omega) O hx
       ·rw[if_neg ar]at hy
        exact nf.2 i j aC hj x hx x hy rfl
     ·simp at hx;subst hx
      obtain⟨i,Z,hy⟩:=Bp.1 hy
      simp at Z
      intro e;subst e
      by_cases O:i=k
      ·rw[if_pos O]at hy;exact au hy
      ·rw[if_neg O]at hy;exact ae i Z hy
    ·intro e;subst e
     rw[An]at hy
     rcases hy with hy|hy
     ·simp at hy;exact am x hx hy
     ·obtain⟨i,Z,hy⟩:=Bp.1 hy
      simp at Z
      by_cases O:i=k
      ·rw[if_pos O]at hy;exact aj x hx hy
      ·rw[if_neg O]at hy;exact ak x hx i Z hy
  ·rw[ac,An,An]at hc
   rcases hc with hc|hc|hc
   ·exact .inl (by simp[hc])
   ·exact .inl (by simp at hc;simp[hc])
   ·obtain⟨i,Z,hc⟩:=Bp.1 hc
    simp at Z
    by_cases O:i=k
    ·rw[if_pos O]at hc;exact .inr hc
    ·rw[if_neg O]at hc;exact .inl (af i Z c hc)
def Foc(h:zb)(base rb:Nat)(p:Addr)(x:Tr)(T:Tr->Tr):Prop:=
 ∃(b o:Nat) (cs:Array Value) (bx:List Nat),p=⟨b,o,none⟩/\Blk h b cs/\o+4<=cs.size/\OT h x bx (cut cs o 4)/\b∉bx/\base<=b/\(∀c∈bx,base<=c) /\
  ∀(h':zb) (x':Tr) (cells':List Value) (b':List Nat),(∀c,c≠b->c∉bx->c<h.size->h'[c]?=h[c]?)->Blk h' b (upd cs o cells')->OT h' x' b' cells'->(∀c∈b',c∈bx\/h.size<=c) ->
   ∃cs' O,Blk h' rb cs'/\cs'.size=4/\OT h' (T x') O cs'.toList/\∀c∈O,base<=c/\c≠rb
theorem Foc.step{base rb:Nat}{p:Addr}{x:Tr}{T:Tr->Tr}(H:Foc h base rb p x T)(hk:k<x.items.length):
  ∃(si:Sl) (a:Addr),zj h (p.add 3)=some (slV si)/\si.a=some a/\si.len=x.items.length/\Foc h base rb (a.add (k*4)) x.items[k] (λy=>T (zvm x k y)):=by
 obtain⟨b,o,cs,bx,rfl,hb,ho,ot,ah,an,Z,aa⟩:=H
 obtain⟨b2,ay,si,au,e3,ea,el,az,aC,ac,am,al,O,aj⟩:=ot.put1 hk
 refine⟨si,⟨b2,0,none⟩,?_,ea,el,b2,k*4,ay,au,by rw[zh,AD],az,by omega,am,al,Z b2 ac,λc hc=>Z c (O c hc),λh' x' cells' b' hf aA ax ai=>?_⟩
 ·rw[zh]
  refine hb.cell ?_
  rw[zp,if_pos (by omega)]at e3
  rw[<-AU];exact e3
 ·have ar:b≠b2:=λe=>ah (e ▸ ac)
  obtain⟨bn,ak,af⟩:=aj h' x' cells' b' (λc hc aB ap=>hf c ap aB (ot.lt c hc)) aA ax (λc hc=>(ai c hc).imp id λhx hm=>by have:=ot.lt c hm;omega)
  refine aa h' (zvm x k x') (cut cs o 4) bn (λc hc ae aa=>hf c (λe=>ae (e ▸ ac)) (λhm=>ae (O c hm)) aa) ?_ ak λc hc=>?_
  ·rw[zs6 ho]
   exact hb.keep (hf b ar (λhm=>ah (O b hm)) hb.lt)
  ·rcases af c hc with hx|hx
   ·exact .inl hx
   ·rcases ai c hx with hy|hy
    ·exact .inl (O c hy)
    ·exact .inr hy
theorem Foc.put{base rb:Nat}{p:Addr}{x:Tr}{T:Tr->Tr}(H:Foc h base rb p x T){h1:zb}(k:Keep h.size h h1){w:Tr}{bw:List Nat}{cw:List Value}(ow:OT h1 w bw cw)(ac:∀c∈bw,h.size<=c):
  ∃(b o:Nat) (cs:Array Value),p=⟨b,o,none⟩/\base<=b/\b<h.size/\Blk h1 b cs/\o+4<=cs.size/\∀h2:zb,Blk h2 b (upd cs o cw)->h2.size=h1.size->(∀j,j≠b->h2[j]?=h1[j]?) ->
   ∃cs' aa,Blk h2 rb cs'/\cs'.size=4/\OT h2 (T w) aa cs'.toList/\∀c∈aa,base<=c/\c≠rb:=by
 obtain⟨b,o,cs,bx,rfl,hb,ho,ot,aj,Z,ai,O⟩:=H
 have af:=hb.lt
 refine⟨b,o,cs,rfl,Z,af,hb.ofKeep k,ho,λh2 ah ak ae=>?_⟩
 refine O h2 w cw bw (λc hc _ O=>(ae c hc).trans (k.get c O)) ah (ow.frame λc hc=>ae c (λe=>by have:=ac c hc;omega)) λc hc=>.inr (ac c hc)
theorem Foc.keep{h h':zb}{base rb:Nat}{p:Addr}{x:Tr}{T:Tr->Tr}(H:Foc h base rb p x T)(k:Keep h.size h h'):Foc h' base rb p x T:=by
 obtain⟨b,o,cs,bx,rfl,hb,ho,ot,aa,O,Z,af⟩:=H
 have hz:=k.size
 refine⟨b,o,cs,bx,rfl,hb.ofKeep k,ho,ot.frame λc hc=>k.get c (ot.lt c hc),aa,O,Z,λh2 x' cells' b' hf aj ac ae=>af h2 x' cells' b' (λc hc ai ah=>(hf c hc ai (by omega)).trans (k.get c ah)) aj ac λc hc=>(ae c hc).imp id λhx=>by omega⟩
end
end Go.X
end
section
namespace Go.X
open Go Go.Lib
section
variable {v w:Tr}
def Xk:Tr->List Bt->Tr->Tr
 |_,[],w=>w
 |v,s::p,w=>if 0<=qo v s then(match v.items[(qo v s).toNat]? with
  |some x=>zvm v (qo v s).toNat (Xk x p w)
  |none=>v)else v
theorem zs7{s:Bt}{p:List Bt}{k:Nat}(h:qo v s=k)(hk:k<v.items.length):Xk v (s::p) w=zvm v k (Xk v.items[k] p w):=by
 rw[Xk,if_pos (by omega),h,Ah,Ai hk]
theorem zbl{s:Bt}{p:List Bt}(h:(yb v (s::p)).length=(s::p).length):∃(k:Nat) (hk:k<v.items.length),qo v s=k/\yb v (s::p)=(k,v.items[k])::yb v.items[k] p/\(yb v.items[k] p).length=p.length:=by
 unfold yb at h
 split at h
 ·rename_i h0
  split at h
  ·rename_i x hx
   obtain⟨hk,e⟩:=Az.1 hx
   refine⟨(qo v s).toNat,hk,by omega,X8 (by omega) hk,?_⟩
   rw[e];simpa using h
  ·simp at h
 ·simp at h
theorem zfx:∀(l:List Tr) (k:Nat) (h:k<l.length) (y:Tr),xd (l.set k y)+tsz l[k]=xd l+tsz y
 |x::l,0,_,y=>by simp[xd];omega
 |x::l,k+1,h,y=>by
  have:=zfx l k (by simpa using h) y
  simp[xd];omega
theorem zy7(w:Tr):∀(p:List Bt) (v:Tr),tsz (Xk v p w)<=tsz v+tsz w
 |[],v=>by rw[Xk];omega
 |s::p,v=>by
  rw[Xk]
  split
  ·split
   ·rename_i x hx
    obtain⟨hk,e⟩:=Az.1 hx
    have h1:=zy7 w p x
    have h2:=zfx v.items _ hk (Xk x p w)
    rw[e]at h2
    rw[wa,wa v]
    show 1+xd (v.items.set _ _)<=_
    omega
   ·omega
  ·omega
theorem zd7{m:Nat}{w:Tr}(hw:txB m w):∀(p:List Bt) (v:Tr),txB m v->txB m (Xk v p w)
 |[],v,_=>by rw[Xk];exact hw
 |s::p,v,hv=>by
  rw[Xk]
  split
  ·split
   ·rename_i x hx
    obtain⟨hk,e⟩:=Az.1 hx
    have hm:x∈v.items:=e ▸ Ay hk
    have h1:=zd7 hw p x (Qf hv hm)
    have h2:=(Ja m v).1 hv
    refine(Ja m _).2 ⟨h2.1,Yh.2 λy hy=>?_⟩
    rcases List.mem_or_eq_of_mem_set hy with hy|rfl
    ·exact Yh.1 h2.2 y hy
    ·exact h1
   ·exact hv
  ·exact hv
theorem zmj(h:ye v=true):tsz v<=4096:=by
 unfold ye Wd at h
 simp at h
 omega
theorem z7h(hv:Sm v)(hw:Sm w)(h1:tsz v+tsz w<=1000000000000)(p:List Bt):Sm (Xk v p w):=⟨by have:=zy7 w p v;omega,zd7 hw.tx p v hv.tx⟩
def zT:Tr:=.mk 0 ⟨#[]⟩ [] []
def z7i(v:Tr)(p:List Bt):Tr×Bool:=if ye v&&jc p then(match qz v p with
 |some x=>(x,true)
 |none=>(zT,false))else(zT,false)
end
end Go.X
end
section
namespace Go.X
section
variable {gl:Fr} {R:Bool -> Prop}
theorem z7j(hg:GL gl){s:Bs}(hs:s.length<=1152921504606846976)(h:R (zys s)):PC Tp gl 85 [Arg.mk .str (bl s)] [.bool] R:=by
 apply zlr
 refine zbk hg hs (qao hg (n:=(z0y s).1) (Xi s hs) ?_)
 simp only[C9]
 exact h
theorem y8(v:Tr):Tr.mk v.kind v.text v.keys v.items=v:=by cases v;rfl
theorem zd8{l:List Tr}{k:Nat}(h:k<l.length):l[((k:Int)).toNat]?=some l[k]:=by rw[Ah,Ai h]
theorem zy8{gl:Fr}(v:Tr)(hv:tsz v<=1000000000000){R:Int->Prop}(h:R (tsz v:Int)):PC Tp gl 78 [Arg.mk .tree v] [.int .i64] R:=by
 apply zlq
 have aa:=Yi v.items
 have Z:=wa v
 refine⟨λn i=>∃k:Nat,i=k/\k<=v.items.length/\n=((1+xd (v.items.take k):Nat):Int),λ_ i=>v.items.length-i.toNat,⟨0,rfl,by omega,by simp[xd]⟩,?_⟩
 rintro n i ⟨k,rfl,hk,rfl⟩
 refine⟨λhc=>?_,λhc=>?_⟩
 ·have O:k<v.items.length:=by simp at hc;omega
  refine⟨v.items[k],⟨by omega,zd8 O⟩,?_⟩
  rw[y8]
  have hm:v.items[k]∈v.items:=Ay O
  have ac:=wn hm
  have ae:xd (v.items.take (k+1))<=xd v.items:=by
   have:=jb (v.items.take (k+1)) (v.items.drop (k+1))
   rw[BD]at this;omega
  have ht:=zyq O
  refine zy8 (v.items[k]) (by omega) ?_
  rw[Zz O (by omega),w64 (by omega)]
  exact⟨⟨k+1,rfl,by omega,by omega⟩,by simp only[Ah];omega⟩
 ·have O:k=v.items.length:=by simp at hc;omega
  subst O
  rw[AN,<-Z];exact h
termination_by tsz v
theorem zs8{gl:Fr}(v:Tr)(hv:tsz v<=1000000000000){R:Int->Prop}(h:R (tdp v:Int)):PC Tp gl 79 [Arg.mk .tree v] [.int .i64] R:=by
 apply zit
 have Z:=Yi v.items
 have aa:=wa v
 have af:=zqt v.items
 have ac:=zyp v
 refine⟨λn i=>∃k:Nat,i=k/\k<=v.items.length/\n=((zhg (v.items.take k):Nat):Int),λ_ i=>v.items.length-i.toNat,⟨0,rfl,by omega,by simp[zhg]⟩,?_⟩
 rintro n i ⟨k,rfl,hk,rfl⟩
 refine⟨λhc=>?_,λhc=>?_⟩
 ·have O:k<v.items.length:=by simp at hc;omega
  refine⟨v.items[k],⟨by omega,zd8 O⟩,?_⟩
  rw[y8]
  have hm:v.items[k]∈v.items:=Ay O
  have ae:=wn hm
  have ht:=zyr O
  refine zs8 (v.items[k]) (by omega) ?_
  rw[Zz O (by omega)]
  refine⟨⟨k+1,rfl,by omega,?_⟩,by simp only[Ah];omega⟩
  rw[ht];split <;> omega
 ·have O:k=v.items.length:=by simp at hc;omega
  subst O
  rw[AN,w64 (by omega)]
  have:((zhg v.items:Nat):Int)+1=(tdp v:Int):=by omega
  rw[this];exact h
termination_by tsz v
theorem zs9{v:Tr}(hv:Sm v)(h:R (Wd v)):PC Tp gl 44 [Arg.mk .tree v] [.bool] R:=by
 apply zis
 rw[y8]
 refine zy8 v hv.sz ⟨λr=>r=(tdp v:Int),λ_=>zs8 v hv.sz rfl,λr hr=>?_⟩
 have e:(bif decide ((tsz v:Int)<=4096)then decide (r<=32)else false)=Wd v:=by
  unfold Wd
  cases hc:decide ((tsz v:Int)<=4096)with
  |false=>(have:decide (tsz v<=4096)=false:=by simp at hc ⊢;omega);rw[this];rfl
  |true=>
   have:decide (tsz v<=4096)=true:=by simp at hc ⊢;omega
   rw[this,hr hc,cond_true,B0,AJ];simp;omega
 rw[e];exact h
end
section
theorem XF{vs:List Value}{f:FuncId}{fn:Func}{h:zb}{R:Value->zb->Prop}{F:Prop}(pl:Plan)(rs:List ResultVar)(n:Nat)(hf:AF.funcs[f]?=some fn)(H:F)(hb:Jo fn=true:=by kernel_rfl)(hr:fn.results.toList=rs:=by kernel_rfl)(hn:fn.ntmps=n:=by kernel_rfl)(hz:Nat.ble vs.length n=true:=by kernel_rfl)(e:F=W Tp n pl (codeOf fn) (qbk Tp rs R) (zwn 0 vs) h:=by kernel_rfl):XC Tp f vs.toArray h R:=zud Tryz.mixed pl vs hf hb hr hn hz (Eq.mp e H)
theorem zi4(O:Sl)(n1:Int)(h:zb)(R:Value->zb->Prop)
  (H:let b:=h.push (.map #[] 0);∃(c:Int->zb->Prop) (d:Int->zb->Nat),c 0 b/\∀e:Int,∀f:zb,c e f->((decide (e<O.len)=true->∃g,(O.a=some g/\0<=e/\e<O.len)/\∃i,zj f (g.add (e.toNat*1))=some (.string i)/\∃j,QExec Tp (D6 123 (.map (some h.size)) (.string i) false) f (.bool j)/\∃k:Value->zb->Prop,((!j)=true->XC Tp 84 #[.string i] f (λl m=>∃n,l=.bool n/\k (.bool n) m))/\((!j)=false->∃o,k (.bool o) f)/\((!j)=true->∀p q,k p q->∃r,p=.bool r)/\∀s:Bool,∀t,k (.bool s) t->((bif j then true else(!s))=true->R (.bool false) t)/\((bif j then true else(!s))=false->XRunU Tp (CO 123 (.map (some h.size)) (.string i) (.bool true)) t (λu=>(c (Ab .i64 (e+1)) u/\d (Ab .i64 (e+1)) u<d e f))))/\(decide (e<O.len)=false->R (.bool ((O.len:Int)==n1)) f))):
  XC Tp 82 #[.slice O.a O.len O.cap,.int .i64 n1] h R:=
 XF ⟨[],[(3,[(13,.one (.int .i64))])],[]⟩ [.tmp 4] 32 Tryz.func82 H
theorem ju(s0:Sl)(Z:FuncId)(O:Array Value)(aa:Array Value)(h:zb)(R:Value->zb->Prop)
  (H:XC Tp 118 #[slV s0,.func (.func Z) O aa] h (λb c=>∃d,b=.int .i64 d/\R (.bool (decide (d>=0))) c)):
  XC Tp 80 #[.slice s0.a s0.len s0.cap,.func (.func Z) O aa] h R:=
 XF ⟨[],[],[]⟩ [.tmp 4] 9 Tryz.func80 H
theorem wb(s0:Sl)(O:FuncId)(Z:Array Value)(aa:Array Value)(h:zb)(R:Value->zb->Prop)
  (H:∃(b:Int->zb->Prop) (c:Int->zb->Nat),b 0 h/\∀d:Int,∀e:zb,b d e->((decide (d<s0.len)=true->∃f,(s0.a=some f/\0<=d/\d<s0.len)/\∃g i j k,zd e (f.add (d.toNat*4)) 0 [.int .i64 g,.string i,slV j,slV k]/\qk Tp O=true/\XC Tp O (Z++#[.agg #[.int .i64 g,.string i,slV j,slV k]]++aa) e (λl m=>∃n,l=.bool n/\(n=true->R (.int .i64 d) m)/\(n=false->(b (Ab .i64 (d+1)) m/\c (Ab .i64 (d+1)) m<c d e))))/\(decide (d<s0.len)=false->R (.int .i64 (-1)) e))):
  XC Tp 118 #[.slice s0.a s0.len s0.cap,.func (.func O) Z aa] h R:=
 XF ⟨[],[(2,[(8,.one (.int .i64))])],[]⟩ [.tmp 4] 19 Tryz.func118 H
theorem ze9(b:Int)(c:Bt)(d:Sl)(e:Sl)(c1:Addr)(h:zb)(R:Value->zb->Prop)
  (H:let f:=h.push (.cells #[.int .i64 b,.string c,slV d,slV e] 25);∃g i j k,zd f ⟨h.size,0,none⟩ 0 [.int .i64 g,.string i,slV j,slV k]/\∃l:Value,zj f c1=some l/\XC Tp 45 #[.agg #[.int .i64 g,.string i,slV j,slV k],l] f (λm n=>∃o,m=.bool o/\R (.bool (!o)) n)):
  XC Tp 81 #[.agg #[.int .i64 b,.string c,.slice d.a d.len d.cap,.slice e.a e.len e.cap],.pointer (some c1)] h R:=
 XF ⟨[],[],[]⟩ [.tmp 3] 8 Tryz.func81 H
theorem zi5(b:Int)(c:Bt)(d:Sl)(e:Sl)(O:FuncId)(Z:Array Value)(aa:Array Value)(h:zb)(R:Value->zb->Prop)
  (H:let f:=h.push (.cells #[.int .i64 b,.string c,slV d,slV e] 25);let g:=f.push (.cells #[.func (.func O) Z aa] 44);∃i:Value,zj g ⟨f.size,0,none⟩=some i/\∃j k l m,zd g ⟨h.size,0,none⟩ 0 [.int .i64 j,.string k,slV l,slV m]/\z9h Tp i #[.agg #[.int .i64 j,.string k,slV l,slV m]] (λn o=>XC Tp n o g (λp q=>∃r,p=.bool r/\∃s,(r=true->zj q (Aj ⟨h.size,0,none⟩ 3)=some (slV s))/\∃t:Value->zb->Prop,(r=true->XC Tp 80 #[slV s,.func (.func 81) #[] #[.pointer (some ⟨f.size,0,none⟩)]] q (λu v=>∃w,u=.bool w/\t (.bool w) v))/\(r=false->∃x,t (.bool x) q)/\(r=true->∀y z,t y z->∃A,y=.bool A)/\∀B:Bool,∀C,t (.bool B) C->R (.bool (bif r then(!B)else false)) C))):
  XC Tp 45 #[.agg #[.int .i64 b,.string c,.slice d.a d.len d.cap,.slice e.a e.len e.cap],.func (.func O) Z aa] h R:=
 XF ⟨[],[],[]⟩ [.tmp 4] 15 Tryz.func45 H
theorem zmk(b:Int)(c:Bt)(d:Sl)(e:Sl)(h:zb)(R:Value->zb->Prop)
  (H:let f:=h.push (.cells #[.int .i64 b,.string c,slV d,slV e] 25);∃g i j k,zd f ⟨h.size,0,none⟩ 0 [.int .i64 g,.string i,slV j,slV k]/\XC Tp 44 #[.agg #[.int .i64 g,.string i,slV j,slV k]] f (λl m=>∃n,l=.bool n/\∃o p q r,(n=true->zd m ⟨h.size,0,none⟩ 0 [.int .i64 o,.string p,slV q,slV r])/\∃s:Value->zb->Prop,(n=true->XC Tp 45 #[.agg #[.int .i64 o,.string p,slV q,slV r],.func (.func 47) #[] #[]] m (λt u=>∃v,t=.bool v/\s (.bool v) u))/\(n=false->∃w,s (.bool w) m)/\(n=true->∀x y,s x y->∃z,x=.bool z)/\∀A:Bool,∀B,s (.bool A) B->R (.bool (bif n then A else false)) B)):
  XC Tp 42 #[.agg #[.int .i64 b,.string c,.slice d.a d.len d.cap,.slice e.a e.len e.cap]] h R:=
 XF ⟨[],[],[]⟩ [.tmp 2] 9 Tryz.func42 H
theorem w6(s0:Sl)(Z:FuncId)(O:Array Value)(aa:Array Value)(h:zb)(R:Value->zb->Prop)
  (H:XC Tp 112 #[slV s0,.func (.func Z) O aa] h (λb c=>∃d,b=.int .i64 d/\R (.bool (decide (d>=0))) c)):
  XC Tp 73 #[.slice s0.a s0.len s0.cap,.func (.func Z) O aa] h R:=
 XF ⟨[],[],[]⟩ [.tmp 4] 9 Tryz.func73 H
theorem Zf(s0:Sl)(O:FuncId)(Z:Array Value)(aa:Array Value)(h:zb)(R:Value->zb->Prop)
  (H:∃(b:Int->zb->Prop) (c:Int->zb->Nat),b 0 h/\∀d:Int,∀e:zb,b d e->((decide (d<s0.len)=true->∃f,(s0.a=some f/\0<=d/\d<s0.len)/\∃g,zj e (f.add (d.toNat*1))=some (.string g)/\qk Tp O=true/\XC Tp O (Z++#[.string g]++aa) e (λi j=>∃k,i=.bool k/\(k=true->R (.int .i64 d) j)/\(k=false->(b (Ab .i64 (d+1)) j/\c (Ab .i64 (d+1)) j<c d e))))/\(decide (d<s0.len)=false->R (.int .i64 (-1)) e))):
  XC Tp 112 #[.slice s0.a s0.len s0.cap,.func (.func O) Z aa] h R:=
 XF ⟨[],[(2,[(8,.one (.int .i64))])],[]⟩ [.tmp 4] 19 Tryz.func112 H
theorem zc4(s0:Bt)(h:zb)(R:Value->zb->Prop)
  (H:XC Tp 75 #[.string s0] h (λa b=>∃c,a=.bool c/\R (.bool (!c)) b)):
  XC Tp 74 #[.string s0] h R:=
 XF ⟨[],[],[]⟩ [.tmp 2] 6 Tryz.func74 H
theorem zfa(O:Sl)(h:zb)(R:Value->zb->Prop)
  (H:∃b:Value->zb->Prop,(decide ((O.len:Int)<=64)=true->XC Tp 73 #[slV O,.func (.func 74) #[] #[]] h (λc d=>∃e,c=.bool e/\b (.bool e) d))/\(decide ((O.len:Int)<=64)=false->∃f,b (.bool f) h)/\(decide ((O.len:Int)<=64)=true->∀g i,b g i->∃j,g=.bool j)/\∀k:Bool,∀l,b (.bool k) l->R (.bool (bif (decide ((O.len:Int)<=64))then(!k)else false)) l):
  XC Tp 37 #[.slice O.a O.len O.cap] h R:=
 XF ⟨[],[],[]⟩ [.tmp 2] 11 Tryz.func37 H
theorem zi6(b:Int)(c:Bt)(d:Sl)(e:Sl)(h:zb)(R:Value->zb->Prop)
  (H:let f:=h.push (.cells #[.int .i64 b,.string c,slV d,slV e] 25);let g:=f.push (.cells #[.int .i64 0,.string (⟨#[]⟩:Bt),.slice none 0 0,.slice none 0 0] 25);∃i,zj g (Aj ⟨h.size,0,none⟩ 2)=some (slV i)/\∃j,zj g (Aj ⟨h.size,0,none⟩ 3)=some (slV j)/\XC Tp 99 #[slV i] g (λk l=>∃m,k=slV m/\Keep g.size g l/\XC Tp 100 #[slV j] l (λn o=>∃p,n=slV p/\XRunU Tp (Al 22 (.pointer (some (Aj ⟨h.size,0,none⟩ 2))) (slV m)) o (λq=>XRunU Tp (Al 23 (.pointer (some (Aj ⟨h.size,0,none⟩ 3))) (slV p)) q (λr=>∃s,zj r (Aj ⟨h.size,0,none⟩ 3)=some (slV s)/\∃(t:Int->zb->Prop) (u:Int->zb->Nat),t 0 r/\∀v:Int,∀w:zb,t v w->((decide (v<s.len)=true->∃x,(s.a=some x/\0<=v/\v<s.len)/\∃y z A B,zd w (x.add (v.toNat*4)) 0 [.int .i64 y,.string z,slV A,slV B]/\let C:=w.push (.cells #[.int .i64 0,.string (⟨#[]⟩:Bt),.slice none 0 0,.slice none 0 0] 25);XRunU Tp (Al 25 (.pointer (some ⟨w.size,0,none⟩)) (.agg #[.int .i64 y,.string z,slV A,slV B])) C (λD=>∃E,zj D (Aj ⟨h.size,0,none⟩ 3)=some (slV E)/\∃F G I J,zd D ⟨w.size,0,none⟩ 0 [.int .i64 F,.string G,slV I,slV J]/\∃L,(E.a=some L/\0<=v/\v<E.len)/\XC Tp 58 #[.agg #[.int .i64 F,.string G,slV I,slV J]] D (λM N=>∃O P Q S,M=.agg #[.int .i64 O,.string P,slV Q,slV S]/\Keep D.size D N/\XRunU Tp (Al 25 (.pointer (some (L.add (v.toNat*4)))) (.agg #[.int .i64 O,.string P,slV Q,slV S])) N (λT=>(t (Ab .i64 (v+1)) T/\u (Ab .i64 (v+1)) T<u v w)))))/\(decide (v<s.len)=false->∃U V W X,zd w ⟨h.size,0,none⟩ 0 [.int .i64 U,.string V,slV W,slV X]/\XRunU Tp (Al 25 (.pointer (some ⟨f.size,0,none⟩)) (.agg #[.int .i64 U,.string V,slV W,slV X])) w (λY=>∃Z aa ab ac,zd Y ⟨f.size,0,none⟩ 0 [.int .i64 Z,.string aa,slV ab,slV ac]/\R (.agg #[.int .i64 Z,.string aa,slV ab,slV ac]) Y)))))))):
  XC Tp 58 #[.agg #[.int .i64 b,.string c,.slice d.a d.len d.cap,.slice e.a e.len e.cap]] h R:=
 XF ⟨[(1,2000),(5,2000)],[(3,[(16,.one (.int .i64))])],[]⟩ [.cell 2 25] 29 Tryz.func58 H
theorem Z9(s0:Sl)(h:zb)(R:Value->zb->Prop)
  (H:(s0.a.isNone=true->R (.slice none 0 0) h)/\(s0.a.isNone=false->let b:=h.push (.cells #[] 9);XRun Tp (Ax #[22,22] 22 #[.slice (some ⟨h.size,0,none⟩) 0 0,slV s0]) b (λc d=>∃e,c=slV e/\R (slV e) d))):
  XC Tp 99 #[.slice s0.a s0.len s0.cap] h R:=
 XF ⟨[],[],[]⟩ [.tmp 2] 8 Tryz.func99 H
theorem xl(s0:Sl)(h:zb)(R:Value->zb->Prop)
  (H:(s0.a.isNone=true->R (.slice none 0 0) h)/\(s0.a.isNone=false->let b:=h.push (.cells #[] 25);XRun Tp (Ax #[23,23] 23 #[.slice (some ⟨h.size,0,none⟩) 0 0,slV s0]) b (λc d=>∃e,c=slV e/\R (slV e) d))):
  XC Tp 100 #[.slice s0.a s0.len s0.cap] h R:=
 XF ⟨[],[],[]⟩ [.tmp 2] 8 Tryz.func100 H
theorem zc5(b:Int)(c:Bt)(d:Sl)(e:Sl)(h:zb)(R:Value->zb->Prop)
  (H:let f:=h.push (.cells #[.int .i64 b,.string c,slV d,slV e] 25);let g:=f.push (.cells #[.int .i64 0,.string (⟨#[]⟩:Bt),.slice none 0 0,.slice none 0 0] 25);∃i j k l,zd g ⟨h.size,0,none⟩ 0 [.int .i64 i,.string j,slV k,slV l]/\XC Tp 42 #[.agg #[.int .i64 i,.string j,slV k,slV l]] g (λm n=>∃o,m=.bool o/\((!o)=true->XRunU Tp (Al 25 (.pointer (some ⟨f.size,0,none⟩)) (.agg #[.int .i64 0,.string (⟨#[]⟩:Bt),.slice none 0 0,.slice none 0 0])) n (λp=>∃q r s t,zd p ⟨f.size,0,none⟩ 0 [.int .i64 q,.string r,slV s,slV t]/\R (.agg #[.int .i64 q,.string r,slV s,slV t]) p))/\((!o)=false->∃u v w x,zd n ⟨h.size,0,none⟩ 0 [.int .i64 u,.string v,slV w,slV x]/\XC Tp 58 #[.agg #[.int .i64 u,.string v,slV w,slV x]] n (λy z=>∃A B C D,y=.agg #[.int .i64 A,.string B,slV C,slV D]/\XRunU Tp (Al 25 (.pointer (some ⟨f.size,0,none⟩)) (.agg #[.int .i64 A,.string B,slV C,slV D])) z (λE=>∃F G I J,zd E ⟨f.size,0,none⟩ 0 [.int .i64 F,.string G,slV I,slV J]/\R (.agg #[.int .i64 F,.string G,slV I,slV J]) E))))):
  XC Tp 32 #[.agg #[.int .i64 b,.string c,.slice d.a d.len d.cap,.slice e.a e.len e.cap]] h R:=
 XF ⟨[],[],[]⟩ [.cell 2 25] 9 Tryz.func32 H
theorem zhm(b:Int)(c:Bt)(d:Sl)(e:Sl)(O:Sl)(h:zb)(R:Value->zb->Prop)
  (H:let f:=h.push (.cells #[.int .i64 b,.string c,slV d,slV e] 25);let g:=f.push (.cells #[slV O] 22);R (.func (.func 116) #[] #[.pointer (some ⟨f.size,0,none⟩),.pointer (some ⟨h.size,0,none⟩)]) g):
  XC Tp 77 #[.agg #[.int .i64 b,.string c,.slice d.a d.len d.cap,.slice e.a e.len e.cap],.slice O.a O.len O.cap] h R:=
 XF ⟨[],[],[]⟩ [.tmp 4] 6 Tryz.func77 H
theorem Qg(b0:Option Addr)(c1:Int)(h:zb)(R:Value->zb->Prop)
  (H:XC Tp 148 #[.pointer b0] h (λb c=>b=.tuple #[]/\∃d,b0=some d/\∃e,zj c (Aj d 1)=some (slV e)/\let f:=c.push (.cells #[.int .u8 c1] 5);XRun Tp (Ax #[99,99] 99 #[slV e,.slice (some ⟨c.size,0,none⟩) 1 1]) f (λg i=>∃j,g=slV j/\∃k,b0=some k/\XRunU Tp (Al 99 (.pointer (some (Aj k 1))) (slV j)) i (λl=>R (.nilIface) l)))):
  XC Tp 120 #[.pointer b0,.int .u8 c1] h R:=
 XF ⟨[],[],[]⟩ [.tmp 4] 17 Tryz.func120 H
theorem Z0(b0:Option Addr)(s1:Bt)(h:zb)(R:Value->zb->Prop)
  (H:XC Tp 148 #[.pointer b0] h (λb c=>b=.tuple #[]/\∃d,b0=some d/\∃e,zj c (Aj d 1)=some (slV e)/\XRun Tp (Ax #[99,9] 99 #[slV e,.string s1]) c (λf g=>∃i,f=slV i/\∃j,b0=some j/\XRunU Tp (Al 99 (.pointer (some (Aj j 1))) (slV i)) g (λk=>R (.tuple #[.int .i64 (s1.size:Int),.nilIface]) k)))):
  XC Tp 121 #[.pointer b0,.string s1] h R:=
 XF ⟨[],[],[]⟩ [.tmp 4,.tmp 5] 19 Tryz.func121 H
theorem zhn(O:Sl)(h:zb)(R:Value->zb->Prop)
  (H:XC Tp 37 #[slV O] h (λb c=>∃d,b=.bool d/\((!d)=true->R (.tuple #[.string (⟨#[]⟩:Bt),.int .i64 1]) c)/\((!d)=false->let e:=c.push (.cells #[.pointer none,.slice none 0 0] 127);∃(f:Int->zb->Prop) (g:Int->zb->Nat),f 0 e/\∀i:Int,∀j:zb,f i j->((decide (i<O.len)=true->∃k,(O.a=some k/\0<=i/\i<O.len)/\∃l,zj j (k.add (i.toNat*1))=some (.string l)/\XC Tp 120 #[.pointer (some ⟨c.size,0,none⟩),.int .u8 47] j (λm n=>∃o:Value,m=o/\XC Tp 122 #[.string l,.string (⟨#[126]⟩:Bt),.string (⟨#[126,48]⟩:Bt)] n (λp q=>∃r,p=.string r/\XC Tp 122 #[.string r,.string (⟨#[47]⟩:Bt),.string (⟨#[126,49]⟩:Bt)] q (λs t=>∃u,s=.string u/\XC Tp 121 #[.pointer (some ⟨c.size,0,none⟩),.string u] t (λv w=>∃x,∃y:Value,v=.tuple #[.int .i64 x,y]/\(f (Ab .i64 (i+1)) w/\g (Ab .i64 (i+1)) w<g i j))))))/\(decide (i<O.len)=false->XC Tp 123 #[.pointer (some ⟨c.size,0,none⟩)] j (λz A=>∃B,z=.string B/\R (.tuple #[.string B,.int .i64 0]) A)))))):
  XC Tp 89 #[.slice O.a O.len O.cap] h R:=
 XF ⟨[],[(5,[(12,.one (.int .i64))])],[]⟩ [.tmp 2,.tmp 3] 23 Tryz.func89 H
end
section
variable {gl M:Fr} {F:FuncId} {A C:Array Value} {h:zb}
theorem zy9:MapT Tp 123 9 4 (.bool false):=⟨by kernel_rfl,by kernel_rfl,⟨Tryz.t4,by kernel_rfl,by kernel_rfl⟩⟩
set_option maxHeartbeats 1000000 in
theorem z2s(hg:GL gl){ks:List Bt}{n:Int}(hk:∀k∈ks,(lb k).length<=1048576){R:Bool->Prop}(h:R (Qy ks&&decide ((ks.length:Int)=n))):PC Tp gl 82 [Arg.mk (.row .str) ks,Arg.mk (.int .i64) n] [.bool] R:=by
 intro hp M vs hM ag ha
 match vs,ha with
 |[u,w],⟨h1,h2,_⟩=>
  obtain⟨s,rfl,hr⟩:=zin h1
  have hw:=zsm h2
  subst hw
  have hr:Rd M (.row .str) ks [slV s]:=hr
  obtain⟨ar,aF,aG⟩:=rowLen hr
  apply PX.of
  apply zi4 s n
  intro g0
  have kg:Keep hp.size hp g0:=Keep.push _ _ (Ae _)
  have sg:g0.size=hp.size+1:=Ak _
  have mg:MapAt g0 hp.size []:=MapAt.new hp
  clear_value g0
  refine⟨λi h4=>∃k:Nat,i=k/\k<=ks.length/\hp.size<h4.size/\(∃M4,Later hp M h4 M4/\M4 hp.size=none)/\(∃l,MapAt h4 hp.size l/\∀x,zuf l x (.bool false)=.bool (decide (x∈ks.take k)))/\Qy (ks.take k)=true,λi _=>ks.length-i.toNat,
   ⟨0,rfl,by omega,by omega,⟨M,Later.same ag kg,ag.none (Ae _)⟩,⟨[],mg,λx=>rfl⟩,by simp[Qy]⟩,?_⟩
  rintro i h4 ⟨k,rfl,aH,ae,⟨M4,L4,al⟩,⟨l,af,ap⟩,ai⟩
  refine⟨λhc=>?_,λhc=>?_⟩
  ·have aa:k<ks.length:=by simp at hc;omega
   have aB:=Rd.mono L4.le hr
   refine zio L4.ag aB aa rfl rfl ?_
   have an:=zaw zy9 af ks[k] false
   rw[ap]at an
   refine⟨decide (ks[k]∈ks.take k),an,?_⟩
   have Z:=zow hg.tabs (l:=lb ks[k]) (R:=λb=>b=j9 (lb ks[k])) (by have:=hk _ (Ay aa);omega) rfl
   rw[W8]at Z
   generalize hd:decide (ks[k]∈ks.take k)=d
   refine⟨λv h5=>∃b,v=.bool b/\(d=false->b=j9 (lb ks[k]))/\hp.size<h5.size/\(∃M5,Later hp M h5 M5/\M5 hp.size=none)/\MapAt h5 hp.size l,λhn=>?_,λhn=>⟨true,true,rfl,λe=>(by rw[e]at hn;cases hn),ae,⟨M4,L4,al⟩,af⟩,λ_ v h5 ⟨b,e,_⟩=>⟨b,e⟩,?_⟩
   ·refine Z.go (vs:=[.string ks[k]]) (hM.trans L4.le) L4.ag (yj (rdStr _) wm) λv h5 M5 r L5 ak ay=>⟨r,zdd ak,r,rfl,λ_=>ay,by have:=L5.keep.size;omega,⟨M5,L4.trans L5,by rw[L5.old _ ae,al]⟩,af.keep (L5.keep.get _ ae)⟩
   ·rintro b h5 ⟨b',e,hb,aE,⟨M5,L5,au⟩,aC⟩
    cases e
    have am:ks.take (k+1)=ks.take k++[ks[k]]:=Am aa
    have ax:Qy (ks.take (k+1))=(!d&&j9 (lb ks[k])):=by
     have O:=ai
     unfold Qy at O ⊢
     rw[AI,decide_eq_true_eq]at O
     rw[am,List.all_append,O.1,<-hd]
     have:decide (List.take k ks++[ks[k]]).Nodup=!decide (ks[k]∈ks.take k):=by
      rw[AJ]
      simp only[decide_eq_true_eq,Cb,decide_eq_false_iff_not,A6]
      constructor
      ·rintro⟨_,_,h3⟩ ac
       exact h3 _ ac _ (by simp) rfl
      ·intro ac
       exact⟨O.2,by simp,λa ha b hb e=>ac (by simp at hb;rw[<-hb,<-e];exact ha)⟩
     rw[this];simp[Bool.and_comm]
    refine⟨λhx=>?_,λhx=>?_⟩
    ·refine⟨M5,_,L5,zcn.2 (rdBool _),?_⟩
     have hf:Qy (ks.take (k+1))=false:=by
      rw[ax]
      cases d with
      |true=>rfl
      |false=>rw[hb rfl]at hx;simpa using hx
     have aD:Qy ks=false:=by
      cases hks:Qy ks with
      |false=>rfl
      |true=>
       unfold Qy at hks hf
       rw[AI,decide_eq_true_eq]at hks
       have h1:((ks.take (k+1)).all λk=>j9 (lb k))=true:=by
        rw[AP]at hks ⊢
        exact λx hx=>hks.1 x (BR hx)
       have h2:(ks.take (k+1)).Nodup:=hks.2.sublist (List.take_sublist _ _)
       rw[h1,decide_eq_true h2]at hf;cases hf
     rw[aD]at h;exact h
    ·have aj:d=false:=by cases d with
      |true=>simp at hx
      |false=>rfl
     have az:j9 (lb ks[k])=true:=by rw[<-hb aj];rw[aj]at hx;simpa using hx
     refine zwr zy9 aC ks[k] (.bool true) λh6 m6 s6 o6=>?_
     rw[Zz aa (by omega)]
     refine⟨⟨k+1,rfl,by omega,by omega,⟨M5,⟨⟨by have:=L5.keep.size;omega,λi hi=>by rw[o6 i (by omega)];exact L5.keep.get i hi⟩,L5.le,L5.old,?_⟩,au⟩,⟨_,m6,λx=>?_⟩,by rw[ax,aj,az];rfl⟩,by simp only[Ah];omega⟩
     ·intro b c e
      have aA:b≠hp.size:=λe2=>by rw[e2,au]at e;cases e
      obtain⟨T,m,e'⟩:=L5.ag b c e
      exact⟨T,m,by rw[o6 b aA];exact e'⟩
     ·unfold zuf
      rw[zwq,am]
      by_cases ah:ks[k]=x
      ·subst ah
       rw[if_pos rfl]
       simp only[An,Bu,or_true,decide_true,Option.getD_some]
      ·rw[if_neg ah]
       have:=ap x
       unfold zuf at this
       rw[this]
       congr 1
       rw[AJ,decide_eq_true_eq,decide_eq_true_eq,An,Bu]
       exact⟨.inl,λe=>e.elim id λe=>absurd e.symm ah⟩
  ·have aa:k=ks.length:=by simp at hc;omega
   subst aa
   rw[AN]at ai
   refine⟨M4,_,L4,zcn.2 (rdBool _),?_⟩
   rw[ai,B0]at h
   have:(((s.len:Nat):Int)==n)=decide ((ks.length:Int)=n):=by rw[ar,AJ];simp
   rw[this];exact h
def Beh(gl:Fr)(F:FuncId)(A C:Array Value)(h:zb)(M:Fr)(t:Ty)(x:El t)(b:Bool):Prop:=
 qk Tp F=true/\∀h' M' u,Later h M h' M'->RdV M' t x u->PX Tp F (A++#[u]++C) h' M' [.bool] (λr=>r=b)
theorem qav(ag:AgM M h){xs:List Tr}{s:Sl}(hr:Rd M (.row .tree) xs [slV s]){p:Tr->Bool}(hb:∀x∈xs,Beh gl F A C h M .tree x (p x)):
  PX Tp 80 #[slV s,.func (.func F) A C] h M [.bool] (λr=>r=xs.any p):=by
 apply PX.of
 apply ju s F A C
 apply wb s F A C
 obtain⟨ae,af,ah⟩:=rowLen hr
 refine⟨λi h4=>∃k:Nat,i=k/\k<=xs.length/\(∃M4,Later h M h4 M4)/\(xs.take k).any p=false,λi _=>xs.length-i.toNat,⟨0,rfl,by omega,⟨M,Later.refl ag⟩,by simp⟩,?_⟩
 rintro i h4 ⟨k,rfl,hk,⟨M4,L4⟩,Z⟩
 refine⟨λhc=>?_,λhc=>?_⟩
 ·have O:k<xs.length:=by simp at hc;omega
  obtain⟨a,sk,si,e1,e2,e3,e4⟩:=zok L4.ag (Rd.mono L4.le hr) O
  refine⟨a,⟨e1,by omega,by omega⟩,xs[k].kind,xs[k].text,sk,si,by rw[Ah];exact e2,(hb _ (Ay O)).1,?_⟩
  refine((hb _ (Ay O)).2 h4 M4 _ L4 (yh e3 e4)).go λv h5 M5 r L5 aa ac=>⟨r,zdd aa,λhx=>?_,λhx=>?_⟩
  ·refine⟨(k:Int),rfl,M5,_,L4.trans L5,zcn.2 (rdBool _),?_⟩
   have:xs.any p=true:=D8.2 ⟨xs[k],Ay O,by rw[<-ac];exact hx⟩
   rw[this];simp
  ·rw[Zz O (by omega)]
   refine⟨⟨k+1,rfl,by omega,⟨M5,L4.trans L5⟩,?_⟩,by simp only[Ah];omega⟩
   rw[Am O,List.any_append,Z]
   simp only[EO,List.any_nil,<-ac,hx];rfl
 ·have O:k=xs.length:=by simp at hc;omega
  subst O
  rw[AN]at Z
  refine⟨-1,rfl,M4,_,L4,zcn.2 (rdBool _),?_⟩
  rw[Z];rfl
theorem qcp(ag:AgM M h){xs:List Bt}{s:Sl}(hr:Rd M (.row .str) xs [slV s]){p:Bt->Bool}(hb:∀x∈xs,Beh gl F A C h M .str x (p x)):
  PX Tp 73 #[slV s,.func (.func F) A C] h M [.bool] (λr=>r=xs.any p):=by
 apply PX.of
 apply w6 s F A C
 apply Zf s F A C
 obtain⟨ae,af,ah⟩:=rowLen hr
 refine⟨λi h4=>∃k:Nat,i=k/\k<=xs.length/\(∃M4,Later h M h4 M4)/\(xs.take k).any p=false,λi _=>xs.length-i.toNat,⟨0,rfl,by omega,⟨M,Later.refl ag⟩,by simp⟩,?_⟩
 rintro i h4 ⟨k,rfl,hk,⟨M4,L4⟩,Z⟩
 refine⟨λhc=>?_,λhc=>?_⟩
 ·have O:k<xs.length:=by simp at hc;omega
  refine zio L4.ag (Rd.mono L4.le hr) O rfl rfl ⟨(hb _ (Ay O)).1,?_⟩
  refine((hb _ (Ay O)).2 h4 M4 _ L4 (rdStr _)).go λv h5 M5 r L5 aa ac=>⟨r,zdd aa,λhx=>?_,λhx=>?_⟩
  ·refine⟨(k:Int),rfl,M5,_,L4.trans L5,zcn.2 (rdBool _),?_⟩
   have:xs.any p=true:=D8.2 ⟨xs[k],Ay O,by rw[<-ac];exact hx⟩
   rw[this];simp
  ·rw[Zz O (by omega)]
   refine⟨⟨k+1,rfl,by omega,⟨M5,L4.trans L5⟩,?_⟩,by simp only[Ah];omega⟩
   rw[Am O,List.any_append,Z]
   simp only[EO,List.any_nil,<-ac,hx];rfl
 ·have O:k=xs.length:=by simp at hc;omega
  subst O
  rw[AN]at Z
  refine⟨-1,rfl,M4,_,L4,zcn.2 (rdBool _),?_⟩
  rw[Z];rfl
end
section
variable {l:List Bt} {gl:Fr} {v:Tr} {R:Bool -> Prop} {F:FuncId}
theorem qde:decide (((l.length:Nat):Int)>0)=!l.isEmpty:=by cases l <;> simp
theorem qcq{l:List Tr}:decide (((l.length:Nat):Int)>0)=!l.isEmpty:=by cases l <;> simp
theorem zta(s:Bt):(s.toList==(⟨#[]⟩:Bt).toList)=(lb s==[]):=by
 have:=zi1 (lb s) []
 rw[W8]at this
 rw[show(⟨#[]⟩:Bt)=bl []from rfl,this,AJ];simp
theorem qaw(s:Bt)(l:Bs):(s.toList==(bl l).toList)=(lb s==l):=by
 have:=zi1 (lb s) l
 rw[W8]at this
 rw[this,AJ];simp
theorem qdf{k n:Int}:(k==n)=decide (k=n):=by rw[AJ];simp
set_option maxHeartbeats 1000000 in
theorem zza(hg:GL gl)(hv:Sm v)(h:R (zy v)):PC Tp gl 47 [Arg.mk .tree v] [.bool] R:=by
 apply zlp
 have ht:(lb v.text).length<=1152921504606846976:=by have:=hv.text;omega
 have key:∀b,b=zy v->R b:=λb hb=>by rw[hb];exact h
 have hd:=zbk hg (s:=lb v.text) (R:=λr=>R r.2\/v.kind≠3) ht
 have af:=zow hg.tabs (l:=lb v.text) (R:=λr=>r=j9 (lb v.text)) (by omega) rfl
 have ac:=z7j hg (s:=lb v.text) (R:=λr=>r=zys (lb v.text)) ht rfl
 have ae:=zbk hg (s:=lb v.text) (R:=λr=>r.2=(z0y (lb v.text)).2) ht rfl
 rw[W8]at af ac ae
 simp only[qdf,qde,qcq,show(⟨#[116,114,117,101]⟩:Bt)=bl [116,114,117,101]from rfl,show(⟨#[102,97,108,115,101]⟩:Bt)=bl [102,97,108,115,101]from rfl,qaw]
 unfold zy at key
 refine⟨λh5=>key _ ?_,λh5=>⟨λh6=>?_,λh6=>⟨λhx=>key _ ?_,λhx=>?_⟩⟩⟩
 ·have:v.kind=5:=by simpa using h5
  simp[this,Bool.and_comm]
 ·have O:v.kind=6:=by simpa using h6
  refine z2s hg (λk hk=>hv.key hk) (key _ ?_)
  simp only[O]
  rw[C9]
  have:decide ((v.keys.length:Int)=(v.items.length:Int))=decide (v.keys.length=v.items.length):=by rw[AJ,decide_eq_true_eq,decide_eq_true_eq];omega
  rw[this];rfl
 ·have aa:v.kind≠5:=by simpa using h5
  have O:v.kind≠6:=by simpa using h6
  have Z:(v.keys.isEmpty&&v.items.isEmpty)=false:=by
   cases hk:v.keys.isEmpty <;> cases hi:v.items.isEmpty <;> simp[hk,hi]at hx ⊢
  simp only[aa,O,if_false,Bool.and_assoc,Z,Bool.and_false]
  simp
 ·have aa:v.kind≠5:=by simpa using h5
  have O:v.kind≠6:=by simpa using h6
  have Z:v.keys.isEmpty=true/\v.items.isEmpty=true:=by
   cases hk:v.keys.isEmpty <;> cases hi:v.items.isEmpty <;> simp[hk,hi]at hx ⊢
  simp only[aa,O,if_false,Z.1,Z.2,EG]at key
  refine⟨λh1=>key _ ?_,λh1=>⟨λh2=>key _ ?_,λh2=>⟨λh3=>?_,λh3=>⟨λh4=>?_,λh4=>⟨λh7=>?_,λh7=>key _ ?_⟩⟩⟩⟩⟩
  ·have:v.kind=1:=by simpa using h1
   simp[this]
  ·have:v.kind=2:=by simpa using h2
   simp[this]
  ·have:v.kind=3:=by simpa using h3
   exact ae.mono λr hr=>key _ (by rw[hr];simp[this])
  ·have:v.kind=4:=by simpa using h4
   exact af.mono λr hr=>key _ (by rw[hr];simp[this])
  ·have:v.kind=7:=by simpa using h7
   exact ac.mono λr hr=>key _ (by rw[hr];simp[this])
  ·have al:v.kind≠1:=by simpa using h1
   have ah:v.kind≠2:=by simpa using h2
   have ai:v.kind≠3:=by simpa using h3
   have aj:v.kind≠4:=by simpa using h4
   have ak:v.kind≠7:=by simpa using h7
   simp[al,ah,ai,aj,ak]
theorem zvn{k:Nat}(h:k<l.length):l[((k:Int)).toNat]?=some l[k]:=by rw[Ah,Ai h]
theorem z2t(hF:qk Tp F=true){p:Tr->Bool}(hp:∀x,Sm x->PC Tp gl F [Arg.mk .tree x] [.bool] (λr=>r=p x))(n:Nat):∀(v:Tr),tsz v<=n->Sm v->∀{h:zb} {M:Fr} {u:Value},Fr.le gl M->AgM M h->RdV M .tree v u ->
  PX Tp 45 #[u,.func (.func F) #[] #[]] h M [.bool] (λr=>r=Y9 p v):=by
 induction n with
 |zero=>intro v hn;have:=zme v;omega
 |succ n ih=>
 intro v hn hv h M u hM ag hu
 have am:=hu
 obtain⟨sk,si,rfl,rk,ri⟩:=wq hu
 apply PX.of
 apply zi5 v.kind v.text sk si F #[] #[]
 intro h1 h2
 have L1:Later h M h1 M:=Later.push ag _
 have Z:Later h1 M h2 (Mx M h1.size #[.func (.func F) #[] #[]]):=Later.frz L1.ag _ _
 have s1:h1.size=h.size+1:=Ak _
 have s2:h2.size=h1.size+1:=Ak _
 have ae:zd h2 ⟨h.size,0,none⟩ 0 [.int .i64 v.kind,.string v.text,slV sk,slV si]:=z19 (h':=h2) (by have:=Z.keep;rw[s1]at this;exact this)
 have aA:∀h':zb,Keep h2.size h2 h'->zj h' (Aj ⟨h.size,0,none⟩ 3)=some (slV si):=λh' k=>by
  refine z6l (h:=h) (T:=25) (cs:=[.int .i64 v.kind,.string v.text,slV sk,slV si]) ?_ rfl
  have:=Z.keep.trans k (by omega)
  rw[s1]at this;exact this
 have af:zj h2 ⟨h1.size,0,none⟩=some (.func (.func F) #[] #[]):=Z.ag.cell (zxv _ _ _) rfl
 have al:(Mx M h1.size #[.func (.func F) #[] #[]]) h1.size=some #[.func (.func F) #[] #[]]:=zxv _ _ _
 have L2:=L1.trans Z
 clear_value h1 h2
 generalize (Mx M h1.size #[.func (.func F) #[] #[]])=M2 at *
 refine⟨_,af,v.kind,v.text,sk,si,ae,hF,?_⟩
 refine(hp v hv).go (vs:=[.agg #[.int .i64 v.kind,.string v.text,slV sk,slV si]]) (hM.trans L2.le) L2.ag (yj (RdV.mono L2.le am) wm) λw h3 M3 r L3 ah hr=>?_
 refine⟨r,zdd ah,si,λ_=>aA h3 L3.keep,?_⟩
 have O:=L2.trans L3
 refine⟨λw h4=>∃b,w=.bool b/\(r=true->b=!(zvi p v.items))/\∃M4,Later h M h4 M4,λaC=>?_,λai=>⟨true,true,rfl,λe=>(by rw[e]at ai;cases ai),M3,O⟩,λ_ w h4 ⟨b,e,_⟩=>⟨b,e⟩,?_⟩
 ·have ak:Rd M3 (.row .tree) v.items [slV si]:=Rd.mono O.le ri
  have ap:M3 h1.size=some #[.func (.func F) #[] #[]]:=L3.le _ _ al
  refine(qav (gl:=gl) L3.ag ak (p:=λx=>!(Y9 p x)) λx hx=>⟨by kernel_rfl,λh' M' u' L' ar=>?_⟩).go λw h4 M4 b L4 ac au=>⟨b,zdd ac,b,rfl,λ_=>?_,M4,O.trans L4⟩
  ·have aB:=wn hx
   obtain⟨sk',si',rfl,az,aj⟩:=wq ar
   apply PX.of
   show XC Tp 81 #[.agg #[.int .i64 x.kind,.string x.text,slV sk',slV si'],.pointer (some ⟨h1.size,0,none⟩)] h' _
   apply ze9 x.kind x.text sk' si'
   intro g1
   have G1:Later h' M' g1 M':=Later.push L'.ag _
   have ax:zd g1 ⟨h'.size,0,none⟩ 0 [.int .i64 x.kind,.string x.text,slV sk',slV si']:=z19 (Keep.refl _ _)
   have an:zj g1 ⟨h1.size,0,none⟩=some (.func (.func F) #[] #[]):=G1.ag.cell (L'.le _ _ ap) rfl
   clear_value g1
   refine⟨x.kind,x.text,sk',si',ax,_,an,?_⟩
   refine(ih x (by omega) (hv.item hx) (h:=g1) (M:=M') ((hM.trans O.le).trans L'.le) G1.ag (yh az aj)).go λw h5 M5 b L5 aa ay=>⟨b,zdd aa,M5,_,G1.trans L5,zcn.2 (rdBool _),by rw[ay]⟩
  ·rw[au,zc1,AJ];simp
 ·rintro b h4 ⟨b',e,hb,M4,L4⟩
  cases e
  refine⟨M4,_,L4,zcn.2 (rdBool _),?_⟩
  rw[zmd,<-hr]
  cases r with
  |false=>rfl
  |true=>rw[hb rfl];simp
theorem ztb(hF:qk Tp F=true){p:Tr->Bool}(hp:∀x,Sm x->PC Tp gl F [Arg.mk .tree x] [.bool] (λr=>r=p x))(v:Tr)(hv:Sm v){h:zb}{M:Fr}{u:Value}(hM:Fr.le gl M)(ag:AgM M h)(hu:RdV M .tree v u):
  PX Tp 45 #[u,.func (.func F) #[] #[]] h M [.bool] (λr=>r=Y9 p v):=z2t hF hp (tsz v) v (Ae _) hv hM ag hu
theorem zd9(hg:GL gl)(hv:Sm v)(hR:R (ye v)):PC Tp gl 42 [Arg.mk .tree v] [.bool] R:=by
 intro h M vs hM ag ha
 match vs,ha with
 |[u],⟨hu,_⟩=>
  have hu:RdV M .tree v u:=hu
  have ae:=hu
  obtain⟨sk,si,rfl,rk,ri⟩:=wq hu
  apply PX.of
  apply zmk v.kind v.text sk si
  intro h1
  have L1:Later h M h1 M:=Later.push ag _
  have s1:h1.size=h.size+1:=Ak _
  have Z:∀h':zb,Keep h1.size h1 h'->zd h' ⟨h.size,0,none⟩ 0 [.int .i64 v.kind,.string v.text,slV sk,slV si]:=λh' k=>z19 (h':=h') (by rw[s1]at k;exact k)
  clear_value h1
  refine⟨v.kind,v.text,sk,si,Z h1 (Keep.refl _ _),?_⟩
  have ai:PC Tp gl 44 [Arg.mk .tree v] [.bool] (λr=>r=Wd v):=zs9 hv rfl
  refine ai.go (vs:=[.agg #[.int .i64 v.kind,.string v.text,slV sk,slV si]]) (hM.trans L1.le) L1.ag (yj (RdV.mono L1.le ae) wm) λw h2 M2 r L2 ac hr=>?_
  refine⟨r,zdd ac,v.kind,v.text,sk,si,λ_=>Z h2 L2.keep,?_⟩
  have O:=L1.trans L2
  refine⟨λw h4=>∃b,w=.bool b/\(r=true->b=Y9 zy v)/\∃M4,Later h M h4 M4,λaj=>?_,λaf=>⟨true,true,rfl,λe=>(by rw[e]at af;cases af),M2,O⟩,λ_ w h4 ⟨b,e,_⟩=>⟨b,e⟩,?_⟩
  ·refine(ztb (F:=47) (by kernel_rfl) (p:=zy) (λx hx=>zza hg hx rfl) v hv (hM.trans O.le) L2.ag (RdV.mono O.le ae)).go λw h3 M3 b L3 aa ah=>⟨b,zdd aa,b,rfl,λ_=>ah,M3,O.trans L3⟩
  ·rintro b h4 ⟨b',e,hb,M4,L4⟩
   cases e
   refine⟨M4,_,L4,zcn.2 (rdBool _),?_⟩
   unfold ye at hR
   rw[<-hr]at hR
   cases r with
   |false=>exact hR
   |true=>rw[cond_true,hb rfl];exact hR
end
section
variable {h:zb} {e:TypeId} {M:Fr} {K:Value -> zb -> Prop} {cs:Array Value} {k:Nat} {vs:List Value}
theorem zho:ElemT Tp 22 9 (.string ⟨#[]⟩) 1 16:=⟨by kernel_rfl,⟨Tryz.t9,by kernel_rfl,by kernel_rfl,by kernel_rfl,by kernel_rfl⟩,rfl,by omega⟩
theorem elemTree:ElemT Tp 23 25 (.agg #[.int .i64 0,.string ⟨#[]⟩,.slice none 0 0,.slice none 0 0]) 4 72:=⟨by kernel_rfl,⟨Tryz.t25,by kernel_rfl,by kernel_rfl,by kernel_rfl,by kernel_rfl⟩,rfl,by omega⟩
theorem zo2{h h':zb}{sz:Nat}(k:Keep (h.size+1) (h.push (.cells #[] e)) h')(base:Nat)(hb:base<=h.size):Owns h' base e sz ⟨some ⟨h.size,0,none⟩,0,0⟩ []:=by
 refine⟨by simp,.inr ⟨h.size,0,#[],rfl,hb,?_,Ae _,CW _,by simp,by simp⟩⟩
 show h'[h.size]?=_
 rw[k.get _ (by omega)];exact j6 _ _
theorem z2u(ag:AgM M h){ks:List Bt}{s:Sl}(hr:Rd M (.row .str) ks [slV s])(hx:ks.length*16<=140737488355328)
  (hK:∀(s':Sl) (h':zb),Keep h.size h h'->s'.len=ks.length->Owns h' h.size 9 1 s' (ks.map AW)->K (slV s') h'):XC Tp 99 #[slV s] h K:=by
 obtain⟨O,ac,ae⟩:=rowLen hr
 obtain⟨s2,e2,_,_,cells,hc,ha⟩:=Rd.rowC ag hr
 simp only[slV,AO]at e2
 have Z:s2.a=s.a:=e2.1.symm
 have:=zeq hc
 subst this
 rw[Z]at ha
 apply Z9 s
 refine⟨λhn=>?_,λhn=>?_⟩
 ·have aa:ks=[]:=by
   rcases ha with h0|⟨b,o,e1,_⟩
   ·simpa using h0
   ·rw[e1]at hn;cases hn
  subst aa
  exact hK ⟨none,0,0⟩ h (Keep.refl _ _) rfl (Owns.nil _ _ _ _)
 ·intro g
  have kg:Keep h.size h g:=Keep.push _ _ (Ae _)
  have sg:g.size=h.size+1:=Ak _
  have og:Owns g h.size 9 1 ⟨some ⟨h.size,0,none⟩,0,0⟩ []:=zo2 (Keep.refl _ _) _ (Ae _)
  clear_value g
  refine Xw zho og (src:=⟨s.a,s.len,s.cap⟩) (news:=ks.map AW) (n:=h.size) (ha.keep kg) (by simp[O]) (by simp[Value.oneCell']) (by simp only;omega) (by simp only;omega) (by omega) λs' h' e1 e2 e3 e4 e5=>⟨s',rfl,hK s' h' ?_ (by simp at e1;omega) (by simpa using e2)⟩
  refine⟨by omega,λi hi=>(e3 i (by omega) λp hp=>?_).trans (kg.get i hi)⟩
  simp only[Aa]at hp
  subst hp;simp only;omega
theorem zzb(ag:AgM M h){xs:List Tr}{s:Sl}(hr:Rd M (.row .tree) xs [slV s])(hx:xs.length*72<=140737488355328)
  (hK:∀(s':Sl) (h':zb) (cells:List Value),Keep h.size h h'->s'.len=xs.length->Owns h' h.size 25 4 s' cells->RowC M .tree xs cells->K (slV s') h'):XC Tp 100 #[slV s] h K:=by
 obtain⟨Z,ae,af⟩:=rowLen hr
 obtain⟨s2,e2,_,_,cells,hc,ha⟩:=Rd.rowC ag hr
 simp only[slV,AO]at e2
 have ac:s2.a=s.a:=e2.1.symm
 rw[ac]at ha
 have O:cells.length=xs.length*4:=hc.1
 apply xl s
 refine⟨λhn=>?_,λhn=>?_⟩
 ·have aa:cells=[]:=by
   rcases ha with h0|⟨b,o,e1,_⟩
   ·exact h0
   ·rw[e1]at hn;cases hn
  subst aa
  have:xs.length=0:=by simp at O;omega
  exact hK ⟨none,0,0⟩ h [] (Keep.refl _ _) (by simp[this]) (Owns.nil _ _ _ _) hc
 ·intro g
  have kg:Keep h.size h g:=Keep.push _ _ (Ae _)
  have sg:g.size=h.size+1:=Ak _
  have og:Owns g h.size 25 4 ⟨some ⟨h.size,0,none⟩,0,0⟩ []:=zo2 (Keep.refl _ _) _ (Ae _)
  clear_value g
  refine Xw elemTree og (src:=⟨s.a,s.len,s.cap⟩) (news:=cells) (n:=h.size) (ha.keep kg) (by rw[O,Z]) hc.one (by simp only;omega) (by simp only;omega) (by omega) λs' h' e1 e2 e3 e4 e5=>⟨s',rfl,hK s' h' cells ?_ (by simp at e1;omega) (by simpa using e2) hc⟩
  refine⟨by omega,λi hi=>(e3 i (by omega) λp hp=>?_).trans (kg.get i hi)⟩
  simp only[Aa]at hp
  subst hp;simp only;omega
theorem Owns.blk{base:Nat}{sz:Nat}{s:Sl}{cells:List Value}(H:Owns h base e sz s cells):(s.len=0/\cells=[]/\s.cap=0)\/∃b cs,s.a=some ⟨b,0,none⟩/\base<=b/\Blk h b cs/\s.cap*sz<=cs.size/\cut cs 0 (s.len*sz)=cells/\s.len<=s.cap:=by
 rcases H.2 with⟨hv,h0⟩|⟨g,cap,O,hv,hb,hg,aa,hm,Z,ht⟩
 ·left
  have:=H.1
  rw[h0,Dc]at this
  simp only[AO]at hv
  exact⟨h0,Aw this,hv.2.2⟩
 ·right
  simp only[AO]at hv
  refine⟨g,O,hv.1,hb,⟨e,hg⟩,?_,by unfold cut;rw[A2];exact ht,by rw[hv.2.2];exact aa⟩
  rw[Z,hv.2.2];exact Ae _
theorem qax{n i k:Nat}(h:i+k<=n):(List.drop i (cut cs 0 n)).take k=cut cs i k:=by
 unfold cut
 rw[A2,Ep,Er,CP (by omega)]
theorem zml{h:zb}{b:Nat}{cs:Array Value}(H:Blk h b cs):∀{vs:List Value} {o i:Nat},cut cs (o+i) vs.length=vs->zd h ⟨b,o,none⟩ i vs
 |[],_,_,_=>trivial
 |v::vs,o,i,e=>by
  unfold cut at e
  have O:o+i<cs.toList.length:=by
   rcases AR (o+i) cs.toList.length with hh|hh
   ·exact hh
   ·rw[A7 hh]at e;simp at e
  rw[AL O,Av,B5]at e
  injection e with e1 e2
  refine⟨?_,zml H (i:=i+1) e2⟩
  refine H.cellAdd ?_
  rw[AK (by simpa using O),<-e1];simp
theorem zq0:cut vs.toArray 0 vs.length=vs:=by unfold cut;simp
theorem qay:yu Tp 25=true:=by kernel_rfl
theorem qaz:yr Tp 25=4:=by kernel_rfl
theorem zzc:yu Tp 22=true:=by kernel_rfl
theorem z4o:yr Tp 22=1:=by kernel_rfl
theorem ztc:yu Tp 23=true:=by kernel_rfl
theorem ztd:yr Tp 23=1:=by kernel_rfl
def zc(k:Int)(s:Bt)(sk si:Sl):List Value:=[.int .i64 k,.string s,slV sk,slV si]
theorem zkp(k:Int)(s:Bt)(sk si:Sl):∀u∈zc k s sk si,u.oneCell'=true:=by
 intro u hu
 simp[zc]at hu
 rcases hu with rfl|rfl|rfl|rfl <;> simp[Value.oneCell',slV]
theorem zeu(k:Int)(s:Bt)(sk si:Sl):(EY #[.int .i64 k,.string s,slV sk,slV si]).cells.toList=zc k s sk si:=rfl
theorem zzd(h:cs.size=vs.length):upd cs 0 vs=vs.toArray:=by
 unfold upd
 rw[CM,BJ,AD,<-h]
 have:cs.toList.drop cs.size=[]:=A7 (by simp)
 rw[this,Ba]
theorem qf{b:Nat}(H:Blk h b cs)(hn:cs.size=4)(k:Int)(s:Bt)(sk si:Sl){K:zb->Prop}
  (hK:∀h':zb,Blk h' b (zc k s sk si).toArray->h'.size=h.size->(∀j,j≠b->h'[j]?=h[j]?)->K h'):XRunU Tp (Al 25 (.pointer (some ⟨b,0,none⟩)) (.agg #[.int .i64 k,.string s,.slice sk.a sk.len sk.cap,.slice si.a si.len si.cap])) h K:=
 Q1 (vs:=zc k s sk si) qay H (zeu k s sk si) qaz (by rw[hn];exact Ae _) (zkp k s sk si) λh' e1 e2 e3=>hK h' (by rw[zzd (by rw[hn];rfl)]at e1;exact e1) e2 e3
theorem zmm{bf:Nat->List Nat}{k x:Nat}:x∈(BE k).flatMap bf↔∃j,j<k/\x∈bf j:=by simp[Bp]
structure CI (h2 h':zb) (M:Fr) (v:Tr) (b1 b2:Nat) (s1 s2:Sl) (bk bb:List Nat) (b:Nat) (cs:Array Value) (bf:Nat->List Nat) (k:Nat):Prop where
 ag:AgM M h'
 box1:Blk h' b1 (zc v.kind v.text s1 s2).toArray
 box2:∃c2:Array Value,Blk h' b2 c2/\c2.size=4
 keys:OKeys h' v.keys bk s1
 hz:(v.items=[]/\bb=[]/\s2.cap=0)\/(bb=[b]/\s2.a=some ⟨b,0,none⟩/\Blk h' b cs/\s2.cap*4<=cs.size)
 did:∀i (hx:i<v.items.length),i<k->OT h' v.items[i] (bf i) (cut cs (i*4) 4)
 todo:∀i (hx:i<v.items.length),k<=i->RdV M .tree v.items[i] (.agg (cut cs (i*4) 4).toArray)
 nd:(bk++(bb++(BE k).flatMap bf)).Nodup
 big:∀x∈bk++(bb++(BE k).flatMap bf),h2.size<=x
set_option maxHeartbeats 4000000 in
theorem zmn(n:Nat):∀(v:Tr),tsz v<=n->Sm v->∀{h:zb} {M:Fr} {u:Value},AgM M h->RdV M .tree v u ->
  XC Tp 58 #[u] h λw h'=>Keep h.size h h'/\∃bs sk si,w=.agg #[.int .i64 v.kind,.string v.text,slV sk,slV si]/\OT h' v bs (zc v.kind v.text sk si)/\∀b∈bs,h.size<=b:=by
 induction n with
 |zero=>intro v hn;have:=zme v;omega
 |succ n ih=>
 intro v hn hv h M u ag hu
 obtain⟨sk,si,rfl,rk,ri⟩:=wq hu
 have bq:=hv.items
 have bp:=hv.keys
 apply zi6 v.kind v.text sk si
 intro h1 h2
 have kh:Keep h.size h h2:=(Keep.push h (.cells (zc v.kind v.text sk si).toArray 25) (Ae _)).trans (Keep.push h1 _ (Ae _)) (by show h.size<=h1.size;simp[h1])
 have s1:h1.size=h.size+1:=Ak _
 have s2:h2.size=h1.size+1:=Ak _
 have b1:Blk h2 h.size (zc v.kind v.text sk si).toArray:=by
  have:Blk h1 h.size (zc v.kind v.text sk si).toArray:=Blk.new _ _ _
  exact this.ofKeep (Keep.push _ _ (Ae _))
 have b2:Blk h2 h1.size (zc 0 ⟨#[]⟩ ⟨none,0,0⟩ ⟨none,0,0⟩).toArray:=Blk.new _ _ _
 clear_value h1 h2
 have aI:=ag.keep kh
 refine⟨sk,b1.cellAdd (o:=0) (k:=2) rfl,si,b1.cellAdd (o:=0) (k:=3) rfl,?_⟩
 refine z2u aI rk (by omega) λc1 h3 k3 l3 o3=>⟨c1,rfl,k3,?_⟩
 have aZ:=aI.keep k3
 refine zzb aZ ri (by omega) λc2 h4 cells k4 l4 o4 rc=>⟨c2,rfl,?_⟩
 have aL:=(b1.ofKeep k3).ofKeep k4
 have aP:=(b2.ofKeep k3).ofKeep k4
 have z3:=k3.size
 have z4:=k4.size
 rw[show Aj ⟨h.size,0,none⟩ 2=⟨h.size,2,none⟩from zh _ _ _,show Aj ⟨h.size,0,none⟩ 3=⟨h.size,3,none⟩from zh _ _ _]
 refine Q1 (vs:=[slV c1]) zzc aL rfl z4o (by simp[zc]) (by simp[Value.oneCell',slV]) λh5 aD z5 f5=>?_
 refine Q1 (vs:=[slV c2]) ztc aD rfl ztd (by simp[zc,upd]) (by simp[Value.oneCell',slV]) λh6 aj z6 f6=>?_
 have aU:upd (upd (zc v.kind v.text sk si).toArray 2 [slV c1]) 3 [slV c2]=(zc v.kind v.text c1 c2).toArray:=by simp[upd,zc]
 rw[aU]at aj
 have ac:∀j,j≠h.size->h6[j]?=h4[j]?:=λj hj=>(f6 j hj).trans (f5 j hj)
 refine⟨c2,aj.cell (o:=3) rfl,?_⟩
 have aF:Keep h.size h h6:=⟨by omega,λi hi=>by rw[ac i (by omega),k4.get i (by omega),k3.get i (by omega)];exact kh.get i hi⟩
 obtain⟨bk,ah,ax,aG,ay⟩:∃bk,OKeys h6 v.keys bk c1/\bk.Nodup/\(∀x∈bk,h2.size<=x)/\(∀x∈bk,x<h3.size):=by
  rcases Owns.blk o3 with⟨h0,hc,ap⟩|⟨b,cs,e1,e2,e3,e4,e5,e6⟩
  ·exact⟨[],⟨l3,by omega,by(have:v.keys.length=0:=by omega);omega,.inl ⟨by simpa using hc,rfl,ap⟩⟩,Ek,by simp,by simp⟩
  ·refine⟨[b],⟨l3,by omega,by omega,.inr ⟨b,cs,rfl,e1,(e3.ofKeep k4).keep (ac b (by omega)),by omega,by rw[<-l3];simpa using e5⟩⟩,by simp,by simpa using e2,by simpa using e3.lt⟩
 obtain⟨bb,b,cs,aB,O,an,aJ,aa⟩:∃(bb:List Nat) (b:Nat) (cs:Array Value),v.items.length<=c2.cap/\((v.items=[]/\bb=[]/\c2.cap=0)\/(bb=[b]/\c2.a=some ⟨b,0,none⟩/\Blk h6 b cs/\c2.cap*4<=cs.size))/\(∀i,i<v.items.length->cut cs (i*4) 4=(cells.drop (i*4)).take 4)/\bb.Nodup/\∀x∈bb,h3.size<=x:=by
  rcases Owns.blk o4 with⟨h0,hc,ap⟩|⟨b,cs,e1,e2,e3,e4,e5,e6⟩
  ·have:v.items.length=0:=by omega
   exact⟨[],0,#[],by omega,.inl ⟨Aw this,rfl,ap⟩,λi hi=>by omega,Ek,by simp⟩
  ·refine⟨[b],b,cs,by omega,.inr ⟨rfl,e1,e3.keep (ac b (by omega)),e4⟩,λi hi=>?_,by simp,by simpa using e2⟩
   rw[<-e5,qax (by rw[l4];omega)]
 have aH:CI h2 h6 M v h.size h1.size c1 c2 bk bb b cs (λ_=>[]) 0:={
  ag:=ag.keep aF,box1:=aj,box2:=⟨_,aP.keep (ac _ (by omega)),rfl⟩,keys:=ah,hz:=O,did:=λi _ hi=>by omega
  todo:=λi hx _=>by
   rw[an i hx]
   have:=rc.2 i hx
   unfold RdV;simp only[zdn,if_true]
   exact⟨_,rfl,this⟩
  nd:=by
   simp only[List.range_zero,List.flatMap_nil,Ba]
   rw[A6]
   exact⟨ax,aJ,λx hx y hy e=>by have:=ay x hx;have:=aa y hy;omega⟩
  big:=by
   simp only[List.range_zero,List.flatMap_nil,Ba,An]
   rintro x (hx|hx)
   ·exact aG x hx
   ·have:=aa x hx;omega }
 refine⟨λi h'=>∃(k:Nat) (cs:Array Value) (bf:Nat->List Nat),i=(k:Int)/\k<=v.items.length/\Keep h.size h h'/\h2.size<=h'.size/\CI h2 h' M v h.size h1.size c1 c2 bk bb b cs bf k,λi _=>v.items.length-i.toNat,⟨0,cs,_,rfl,by omega,aF,by omega,aH⟩,?_⟩
 clear aH an O ah aj aD aL aP ac f5 f6 o3 o4 rc
 rintro i h7 ⟨k,cs,bf,rfl,hk,k7,z7,I⟩
 refine⟨λhc=>?_,λhc=>?_⟩
 ·have Z:k<v.items.length:=by simp at hc;omega
  rcases I.hz with⟨h0,_⟩|⟨O,e1,hb,aO⟩
  ·rw[h0]at Z;simp at Z
  have an:v.items.length*4<=cs.size:=by omega
  have a6:=I.todo k Z (Ae _)
  obtain⟨tk,ti,q,a1,be⟩:=wq a6
  have aC:cut cs (k*4) 4=zc v.items[k].kind v.items[k].text tk ti:=by
   injection q with q
   exact congrArg D9 q
  refine⟨⟨b,0,none⟩,⟨e1,by omega,by omega⟩,v.items[k].kind,v.items[k].text,tk,ti,?_,?_⟩
  ·rw[zh,Ah,AD]
   exact zml hb (vs:=zc v.items[k].kind v.items[k].text tk ti) (o:=k*4) (i:=0) aC
  ·intro h8
   have z8:h8.size=h7.size+1:=Ak _
   have k8:Keep h7.size h7 h8:=Keep.push _ _ (Ae _)
   have b8:Blk h8 h7.size (zc 0 ⟨#[]⟩ ⟨none,0,0⟩ ⟨none,0,0⟩).toArray:=Blk.new _ _ _
   clear_value h8
   refine qf b8 rfl _ _ _ _ λh9 b9 z9 f9=>?_
   have k9:Keep h7.size h7 h9:=⟨by omega,λj hj=>by rw[f9 j (by omega)];exact k8.get j hj⟩
   have box1:=I.box1.ofKeep k9
   refine⟨c2,box1.cell (o:=3) rfl,v.items[k].kind,v.items[k].text,tk,ti,zml b9 (vs:=zc v.items[k].kind v.items[k].text tk ti) (o:=0) (i:=0) zq0,⟨b,0,none⟩,⟨e1,by omega,by omega⟩,?_⟩
   have hm:v.items[k]∈v.items:=Ay Z
   have bh:=wn hm
   refine(ih v.items[k] (by omega) (hv.item hm) (I.ag.keep k9) (yh a1 be)).mono ?_
   rintro w h10 ⟨af,bs,dk,di,rfl,ot,ar⟩
   refine⟨v.items[k].kind,v.items[k].text,dk,di,rfl,af,?_⟩
   have aN:=(hb.ofKeep k9).ofKeep af
   have bm:=af.size
   rw[zh,Ah,AD]
   refine Q1 (vs:=zc v.items[k].kind v.items[k].text dk di) qay aN (zeu _ _ _ _) qaz (by show k*4+4<=cs.size;omega) (zkp _ _ _ _) λaY a7 bu aA=>?_
   have aQ:Keep h7.size h7 h10:=k9.trans af (by omega)
   have ba:=hb.lt
   have fr:∀x,x≠b->x<h7.size->aY[x]?=h7[x]?:=λx hx hl=>by rw[aA x hx];exact aQ.get x hl
   have aM:∀x∈bk++(bb++(BE k).flatMap bf),h2.size<=x:=I.big
   have aa:h2.size<=b:=aM b (by rw[O];simp)
   have aE:=I.nd
   rw[A6]at aE
   obtain⟨bj,au,bc⟩:=aE
   rw[A6]at au
   obtain⟨bo,bn,aV⟩:=au
   have ae:∀x∈bk++(bb++(BE k).flatMap bf),x<h7.size:=by
    intro x hx
    rw[An,An]at hx
    rcases hx with hx|hx|hx
    ·obtain⟨_,_,_,q4⟩:=I.keys
     rcases q4 with⟨_,rfl,_⟩|⟨b',cs',rfl,_,e,_⟩
     ·cases hx
     ·simp at hx;subst hx;exact e.lt
    ·rw[O]at hx;simp at hx;subst hx;exact ba
    ·obtain⟨j,hj,hx⟩:=zmm.1 hx
     exact(I.did j (by omega) hj).lt x hx
   have ah:∀x∈bk,x≠b:=λx hx e=>bc x hx b (by rw[O];simp) e
   have aT:∀j,j<k->∀x∈bf j,x≠b:=λj hj x hx e=>aV b (by rw[O];simp) x (zmm.2 ⟨j,hj,hx⟩) e.symm
   have az:∀x∈bs,x≠b:=λx hx e=>by have:=ar x hx;omega
   have ak:(BE (k+1)).flatMap (λj=>if j=k then bs else bf j)=(BE k).flatMap bf++bs:=by
    rw[List.range_succ,List.flatMap_append]
    congr 1
    ·have:∀(l:List Nat),(∀x∈l,x<k)->l.flatMap (λj=>if j=k then bs else bf j)=l.flatMap bf:=by
      intro l
      induction l with
      |nil=>intro _;rfl
      |cons a l aS=>
       intro hl
       rw[DR,DR,if_neg (by have:=hl a (by simp);omega),aS λx hx=>hl x (by simp[hx])]
     exact this _ λx hx=>by simpa using hx
    ·simp
   rw[Zz Z (by omega)]
   refine⟨⟨k+1,upd cs (k*4) (zc v.items[k].kind v.items[k].text dk di),λj=>if j=k then bs else bf j,rfl,by omega,⟨by omega,λx hx=>by rw[fr x (by omega) (by omega)];exact k7.get x hx⟩,by omega,{
    ag:=λx c e=>?_,box1:=I.box1.keep (fr _ (by omega) (by have:=I.box1.lt;omega)),box2:=?_,keys:=I.keys.frame λx hx=>fr x (ah x hx) (ae x (by simp[hx])),hz:=.inr ⟨O,e1,a7,by rw[y7 (by show k*4+4<=cs.size;omega)];exact aO⟩,did:=?_,todo:=?_,nd:=?_,big:=?_ }⟩,by simp only[Ah];omega⟩
   ·have hx:=ag.lt e
    obtain⟨T,m,e'⟩:=I.ag x c e
    exact⟨T,m,by rw[fr x (by omega) (by omega)];exact e'⟩
   ·obtain⟨q,ai,am⟩:=I.box2
    exact⟨q,ai.keep (fr _ (by omega) ai.lt),am⟩
   ·intro j hj a8
    by_cases al:j=k
    ·subst al
     simp only[if_true]
     have:=zmh (cs:=cs) (o:=j*4) (vs:=zc v.items[j].kind v.items[j].text dk di) (by show j*4+4<=cs.size;omega)
     rw[show(zc v.items[j].kind v.items[j].text dk di).length=4 from rfl]at this
     rw[this]
     exact ot.frame λx hx=>aA x (az x hx)
    ·simp only[al,if_false]
     rw[zd6 (by show k*4+4<=cs.size;omega) (by left;omega)]
     exact(I.did j hj (by omega)).frame λx hx=>fr x (aT j (by omega) x hx) (ae x (by
      rw[An,An]
      exact .inr (.inr (zmm.2 ⟨j,by omega,hx⟩))))
   ·intro j hj a8
    rw[zd6 (by show k*4+4<=cs.size;omega) (by right;show k*4+4<=j*4;omega)]
    exact I.todo j hj (by omega)
   ·rw[ak,<-AQ,<-AQ,A6]
    refine⟨by rw[AQ];exact I.nd,ot.nodup,λx hx y hy e=>?_⟩
    have h1:=ae x (by rw[<-AQ];exact hx)
    have h2:=ar y hy
    omega
   ·intro x hx
    rw[ak,<-AQ,<-AQ,An]at hx
    rcases hx with hx|hx
    ·exact I.big x (by rw[<-AQ];exact hx)
    ·have:=ar x hx;omega
 ·have Z:k=v.items.length:=by simp at hc;omega
  subst Z
  refine⟨v.kind,v.text,c1,c2,zml I.box1 (vs:=zc v.kind v.text c1 c2) (o:=0) (i:=0) zq0,?_⟩
  obtain⟨q,ai,am⟩:=I.box2
  refine qf ai am _ _ _ _ λh8 b8 z8 f8=>?_
  refine⟨v.kind,v.text,c1,c2,zml b8 (vs:=zc v.kind v.text c1 c2) (o:=0) (i:=0) zq0,⟨by omega,λx hx=>by rw[f8 x (by omega)];exact k7.get x hx⟩,_,c1,c2,rfl,?_,λx hx=>by have:=I.big x hx;omega⟩
  have ot:OT h7 (.mk v.kind v.text v.keys v.items) (bk++(bb++(BE v.items.length).flatMap bf)) (zc v.kind v.text c1 c2):=by
   exact OT.mk (b:=b) (cs:=cs) I.keys ⟨l4,by omega,aB⟩ I.hz (λi hx=>I.did i hx hx) I.nd
  rw[y8]at ot
  exact ot.frame λx hx=>f8 x (by have:=I.big x hx;omega)
end
section
variable {gl:Fr} {R:Tr -> Prop} {l:List Tr}
theorem z4p{gl:Fr}(v:Tr)(l d:Int)(hl:0<=l/\l<=1000)(hd:0<=d/\d<=61){R:Int->Prop}(h:∀r,-1000000000000000<=r->r<=l->(0<=r->r+tks v<=l)->R r):PC Tp gl 30 [Arg.mk .tree v,Arg.mk (.int .i64) l,Arg.mk (.int .i64) d] [.int .i64] R:=by
 refine PC.bd λZ=>?_
 have hb:v.keys.length<=140737488355328/\v.items.length<=140737488355328:=Z ⟨.tree,v⟩ (by simp)
 apply zdz
 refine⟨λhx=>h _ (by omega) (by omega) (by omega),λhx=>?_⟩
 have ac:d<=60:=by simp at hx;omega
 rw[w64 (n:=l-1) (by omega),w64 (by omega)]
 refine⟨λl' i=>∃k:Nat,i=k/\k<=v.items.length/\-1000000000000000<=l'/\l'<=l/\(0<=l'->l'+(1+v.keys.length+zkk (v.items.take k))<=l),λl' i=>v.items.length-i.toNat,⟨0,rfl,by omega,by omega,by omega,λ_=>by simp[zkk];omega⟩,?_⟩
 rintro l' i ⟨k,rfl,hk,h1,h2,h3⟩
 refine⟨λhc=>?_,λhc=>h l' h1 h2 λh0=>?_⟩
 ·have O:k<v.items.length/\0<=l':=by simp at hc;omega
  refine⟨v.items[k],⟨by omega,zd8 O.1⟩,?_⟩
  rw[y8,w64 (by omega)]
  have aa:=wn (Ay O.1)
  refine z4p v.items[k] l' (d+1) ⟨O.2,by omega⟩ (by omega) λr r1 r2 r3=>?_
  rw[Zz O.1 (by omega)]
  refine⟨⟨k+1,rfl,by omega,r1,by omega,λh0=>?_⟩,by simp only[Ah];omega⟩
  have:=r3 h0;have:=h3 O.2
  rw[zyw O.1];omega
 ·have O:k=v.items.length:=by simp at hc;omega
  subst O
  have:=h3 h0
  rw[AN]at this
  rw[qar];omega
termination_by tsz v
theorem zte{gl:Fr}(v:Tr){R:Bool->Prop}(h:∀b,(b=true->txS v)->R b):PC Tp gl 31 [Arg.mk .tree v] [.bool] R:=by
 refine PC.bd λac=>?_
 have hb:v.keys.length<=140737488355328/\v.items.length<=140737488355328:=ac ⟨.tree,v⟩ (by simp)
 apply zbb
 refine⟨λhx=>h _ (λe=>by cases e),λhx=>?_⟩
 have ae:v.text.size<=2048:=by simp at hx;omega
 refine⟨λi=>∃k:Nat,i=k/\k<=v.keys.length/\∀x∈v.keys.take k,x.size<=1024,λi=>v.keys.length-i.toNat,⟨0,rfl,by omega,by simp⟩,?_⟩
 rintro i ⟨k,rfl,hk,h1⟩
 refine⟨λhc=>?_,λhc=>?_⟩
 ·have Z:k<v.keys.length:=by simp at hc;omega
  refine⟨v.keys[k],⟨by omega,zvn Z⟩,λ_=>h _ (λe=>by cases e),λhq=>?_⟩
  have aa:v.keys[k].size<=1024:=by simp at hq;omega
  rw[Zz Z (by omega)]
  refine⟨⟨k+1,rfl,by omega,?_⟩,by simp only[Ah];omega⟩
  rw[Am Z]
  intro x hx
  rcases An.1 hx with hx|hx
  ·exact h1 x hx
  ·simp at hx;subst hx;exact aa
 ·have Z:k=v.keys.length:=by simp at hc;omega
  subst Z
  rw[AN]at h1
  refine⟨λi=>∃k:Nat,i=k/\k<=v.items.length/\∀x∈v.items.take k,txS x,λi=>v.items.length-i.toNat,⟨0,rfl,by omega,by simp⟩,?_⟩
  rintro i ⟨k,rfl,hk,h2⟩
  refine⟨λhd=>?_,λhd=>h _ λ_=>?_⟩
  ·have O:k<v.items.length:=by simp at hd;omega
   refine⟨v.items[k],⟨by omega,zd8 O⟩,?_⟩
   rw[y8]
   have af:=wn (Ay O)
   refine zte v.items[k] λb hb=>⟨λ_=>h _ (λe=>by cases e),λhq=>?_⟩
   rw[Zz O (by omega)]
   refine⟨⟨k+1,rfl,by omega,?_⟩,by simp only[Ah];omega⟩
   rw[Am O]
   intro x hx
   rcases An.1 hx with hx|hx
   ·exact h2 x hx
   ·simp at hx;subst hx;exact hb (by simpa using hq)
  ·have O:k=v.items.length:=by simp at hd;omega
   subst O
   rw[AN]at h2
   exact(qas v).2 ⟨⟨ae,h1⟩,zs2.2 h2⟩
termination_by tsz v
theorem z4q{v:Tr}{m:Int}(hm:0<=m/\m<=1000){R:Bool->Prop}(h:∀b,(b=true->tks v<=m/\Sm v)->R b):PC Tp gl 10 [Arg.mk .tree v,Arg.mk (.int .i64) m] [.bool] R:=by
 apply zdw
 rw[y8]
 refine z4p v m 0 hm (by omega) λr h1 h2 h3=>⟨λb=>b=true->txS v,λ_=>zte v λb hb=>hb,λb hb=>h _ λe=>?_⟩
 cases hr:decide (r>=0)with
 |false=>rw[hr]at e;cases e
 |true=>
  rw[hr,cond_true]at e
  have h0:0<=r:=by simp at hr;omega
  have:=h3 h0
  exact⟨by omega,Sm.few (by omega) (hb hr e)⟩
theorem ztf{l:List Bt}{R:Bool->Prop}(h:∀b,(b=true->PS l)->R b):PC Tp gl 19 [Arg.mk (.row .str) l] [.bool] R:=by
 apply za9
 refine⟨λi=>∃k:Nat,i=k/\k<=l.length/\k<=300/\∀x∈l.take k,x.size<=1024,λi=>l.length-i.toNat,⟨0,rfl,by omega,by omega,by simp⟩,?_⟩
 rintro i ⟨k,rfl,hk,aa,h1⟩
 refine⟨λhc=>?_,λhc=>h _ λe=>?_⟩
 ·have O:k<l.length/\k<300:=by simp at hc;omega
  refine⟨l[k],⟨by omega,zvn O.1⟩,λ_=>h _ (λe=>by cases e),λhq=>?_⟩
  have Z:l[k].size<=1024:=by simp at hq;omega
  rw[w64 (by omega)]
  refine⟨⟨k+1,by omega,by omega,by omega,?_⟩,by have:=O.1;simp only[Ah];omega⟩
  rw[Am O.1]
  intro x hx
  rcases An.1 hx with hx|hx
  ·exact h1 x hx
  ·simp at hx;subst hx;exact Z
 ·have e':l.length<=200:=by simp at e;omega
  have O:k=l.length:=by simp at hc;omega
  subst O
  rw[AN]at h1
  exact⟨e',λx hx=>by rw[zcp];exact h1 x hx⟩
theorem zze(h:R (.mk 5 ⟨#[]⟩ [] l)):PC Tp gl 29 [Arg.mk (.row .tree) l] [.tree] R:=by
 apply zdy;exact h
theorem qa0{ks:List Bt}(h:R (.mk 6 ⟨#[]⟩ ks l)):PC Tp gl 28 [Arg.mk (.row .str) ks,Arg.mk (.row .tree) l] [.tree] R:=by
 apply zdx;exact h
theorem ztg(hg:GL gl){n:Int}(h1:-1000000<=n)(h2:n<=1000000)(h:R (.mk 3 (bl (zan (yy (Lib.itoa n)).1)) [] [])):PC Tp gl 27 [Arg.mk (.int .i64) n] [.tree] R:=by
 apply zol
 refine qck hg.pow (by omega) (by omega) ?_
 exact zyk hg.pow (Xi _ (by have:=Go.X.itoa_len n;omega)) h
theorem zo3{gl:Fr}(a b:Tr)(ha:tsz a<=1000000000000){R:Bool->Prop}(h:∀r,(r=true↔a=b)->R r):PC Tp gl 15 [Arg.mk .tree a,Arg.mk .tree b] [.bool] R:=by
 refine PC.bd λaf=>?_
 have hb:a.keys.length<=140737488355328/\a.items.length<=140737488355328:=af ⟨.tree,a⟩ (by simp)
 apply zba
 have te:∀s t:Bt,(s.toList==t.toList)=decide (s=t):=λs t=>by
  rw[wz,wz,AJ,beq_iff_eq,decide_eq_true_eq];exact zon
 simp only[te]
 refine⟨λhx=>h _ ⟨λe=>(by cases e),λe=>?_⟩,λhx=>?_⟩
 ·subst e;simp at hx
 ·have ah:a.kind=b.kind/\a.text=b.text/\a.keys.length=b.keys.length/\a.items.length=b.items.length:=by
   simp at hx
   obtain⟨⟨⟨h1,h2⟩,h3⟩,h4⟩:=hx
   exact⟨h1,h2,by omega,by omega⟩
  obtain⟨q1,q2,q3,q4⟩:=ah
  refine⟨λi=>∃k:Nat,i=k/\k<=a.keys.length/\a.keys.take k=b.keys.take k,λi=>a.keys.length-i.toNat,⟨0,rfl,by omega,by simp⟩,?_⟩
  rintro i ⟨k,rfl,hk,h1⟩
  refine⟨λhc=>?_,λhc=>?_⟩
  ·have Z:k<a.keys.length:=by simp at hc;omega
   have ac:k<b.keys.length:=by omega
   refine⟨a.keys[k],⟨by omega,zvn Z⟩,b.keys[k],⟨by omega,zvn ac⟩,λhq=>h _ ⟨λe=>(by cases e),λe=>?_⟩,λhq=>?_⟩
   ·subst e;simp at hq
   ·have aa:a.keys[k]=b.keys[k]:=by simpa using hq
    rw[Zz Z (by omega)]
    refine⟨⟨k+1,rfl,by omega,?_⟩,by simp only[Ah];omega⟩
    rw[Am Z,Am ac,h1,aa]
  ·have Z:k=a.keys.length:=by simp at hc;omega
   subst Z
   rw[AN,q3,AN]at h1
   refine⟨λi=>∃k:Nat,i=k/\k<=a.items.length/\a.items.take k=b.items.take k,λi=>a.items.length-i.toNat,⟨0,rfl,by omega,by simp⟩,?_⟩
   rintro i ⟨k,rfl,hk,h2⟩
   refine⟨λhd=>?_,λhd=>h _ ⟨λ_=>?_,λ_=>rfl⟩⟩
   ·have O:k<a.items.length:=by simp at hd;omega
    have ae:k<b.items.length:=by omega
    refine⟨a.items[k],⟨by omega,zd8 O⟩,b.items[k],⟨by omega,zd8 ae⟩,?_⟩
    rw[y8,y8]
    have ai:=wn (Ay O)
    refine zo3 a.items[k] b.items[k] (by omega) λr hr=>⟨λhq=>h _ ⟨λe=>(by cases e),λe=>?_⟩,λhq=>?_⟩
    ·subst e
     rw[hr.2 rfl]at hq;cases hq
    ·have aa:a.items[k]=b.items[k]:=hr.1 (by simpa using hq)
     rw[Zz O (by omega)]
     refine⟨⟨k+1,rfl,by omega,?_⟩,by simp only[Ah];omega⟩
     rw[Am O,Am ae,h2,aa]
   ·have O:k=a.items.length:=by simp at hd;omega
    subst O
    rw[AN,q4,AN]at h2
    have:=y8 a
    rw[q1,q2,h1,h2,y8]at this
    exact this.symm
termination_by tsz a
end
section
variable {a b:List Bt} {k:Nat} {gl:Fr}
structure SL (l:List Bt):Prop where
 n:l.length<=1000000
 s:∀x∈l,(lb x).length<=1048576
theorem PS.sl{l:List Bt}(h:PS l):SL l:=⟨by have:=h.n;omega,λx hx=>by have:=h.s x hx;omega⟩
theorem zmo(s t:Bt):CV s.toList t.toList=decide (zo0 (lb s) (lb t)=-1):=by rw[wz,wz,zs5]
theorem qa1(s t:Bt):(s.toList==t.toList)=decide (zo0 (lb s) (lb t)=0):=by
 rw[wz,wz,AJ,beq_iff_eq,decide_eq_true_eq,cmpS_is.eq0]
def z00(a b:List Bt):Int:=cmpL (a.map lb) (b.map lb)
theorem zzf(h:a.take k=b.take k):z00 a b=z00 (a.drop k) (b.drop k):=by
 unfold z00
 rw[z7b (k:=k),List.map_drop,List.map_drop]
 rw[<-List.map_take,<-List.map_take,h]
theorem zzg(x y:Bt)(a b:List Bt):z00 (x::a) (y::b)=if zo0 (lb x) (lb y)=0 then z00 a b else zo0 (lb x) (lb y):=rfl
theorem z2v(h : a.take k = b.take k)(hk : k = a.length \/ k = b.length): z00 a b = if a.length < b.length then -1 else if b.length < a.length then 1 else 0 := by
  have hl := congrArg CN h
  simp only [AY] at hl
  rw [zzf h]
  rcases hk with rfl | rfl
  · rw [C4]
    cases hd : b.drop a.length with
    | nil => have := List.drop_eq_nil_iff.1 hd; (rw [if_neg (by omega), if_neg (by omega)]; rfl)
    | cons y t => have : a.length < b.length := by
                    rcases AR a.length b.length with q | q
                    · exact q
                    · rw [A7 q] at hd; cases hd
                  rw [if_pos this]; rfl
  · rw [C4]
    cases hd : a.drop b.length with
    | nil => have := List.drop_eq_nil_iff.1 hd; (rw [if_neg (by omega), if_neg (by omega)]; rfl)
    | cons y t => have : b.length < a.length := by
                    rcases AR b.length a.length with q | q
                    · exact q
                    · rw [A7 q] at hd; cases hd
                  rw [if_neg (by omega), if_pos this]; rfl
theorem zzh(h:a.take k=b.take k)(ha:k<a.length)(hb:k<b.length)(O:zo0 (lb a[k]) (lb b[k])≠0):z00 a b=zo0 (lb a[k]) (lb b[k]):=by
 rw[zzf h,AL ha,AL hb,zzg,if_neg O]
theorem zvo(h:a.take k=b.take k)(ha:k<a.length)(hb:k<b.length)(he:zo0 (lb a[k]) (lb b[k])=0):a.take (k+1)=b.take (k+1):=by
 rw[Am ha,Am hb,h,zon.1 ((cmpS_is.eq0 _ _).1 he)]
theorem zq1(hl:a.length<=1000000){R:Int->Prop}(h:R (z00 a b)):PC Tp gl 95 [Arg.mk (.row .str) a,Arg.mk (.row .str) b] [.int .i64] R:=by
 apply W7
 refine⟨λi=>∃k:Nat,i=k/\k<=a.length/\k<=b.length/\a.take k=b.take k,λi=>a.length-i.toNat,⟨0,rfl,by omega,by omega,by simp⟩,?_⟩
 rintro i ⟨k,rfl,hk,ae,he⟩
 refine⟨λhc=>?_,λhc=>?_⟩
 ·have O:k<a.length/\k<b.length:=by simp at hc;omega
  have e1:=zvn O.1
  have e2:=zvn O.2
  have hp:=zzh he O.1 O.2
  have hr:=cmpS_is.rng (lb a[k]) (lb b[k])
  refine⟨a[k],⟨by omega,e1⟩,b[k],⟨by omega,e2⟩,λhq=>?_,λhq=>⟨a[k],⟨by omega,e1⟩,b[k],⟨by omega,e2⟩,λZ=>?_,λZ=>?_⟩⟩
  ·rw[zmo]at hq
   have aa:zo0 (lb a[k]) (lb b[k])=-1:=by simpa using hq
   rw[hp (by omega),aa]at h;exact h
  ·rw[zmo,qa1]at Z
   have aa:zo0 (lb a[k]) (lb b[k])=1:=by simp at Z;omega
   rw[hp (by omega),aa]at h;exact h
  ·rw[zmo]at hq
   rw[zmo,qa1]at Z
   have aa:zo0 (lb a[k]) (lb b[k])=0:=by simp at hq Z;omega
   have ac:=Zz O.1 (by omega)
   rw[ac]
   exact⟨⟨k+1,rfl,by omega,by omega,zvo he O.1 O.2 aa⟩,by have:=O.1;simp only[Ah];omega⟩
 ·have O:k=a.length\/k=b.length:=by
   simp at hc
   by_cases hq:k<a.length
   ·right;have:=hc hq;omega
   ·left;omega
  rw[z2v he O]at h
  refine⟨λhq=>?_,λhq=>⟨λZ=>?_,λZ=>?_⟩⟩
  ·have:a.length<b.length:=by simp at hq;omega
   rw[if_pos this]at h;exact h
  ·have:b.length<a.length:=by simp at Z;omega
   rw[if_neg (by omega),if_pos this]at h;exact h
  ·have h1:¬a.length<b.length:=by simp at hq;omega
   have h2:¬b.length<a.length:=by simp at Z;omega
   rw[if_neg h1,if_neg h2]at h;exact h
theorem z7k(a b:List Bt):z00 a b=0↔a=b:=by
 unfold z00
 rw[cmpL_is.eq0]
 constructor
 ·intro h
  have:=congrArg (List.map bl) h
  rw[DG,DG]at this
  have e:(bl ∘ lb)=(id:Bt->Bt):=funext λx=>W8 x
  rw[e,EW,EW]at this
  exact this
 ·rintro rfl;rfl
theorem zth(hl:a.length<=1000000){R:Bool->Prop}(h:∀r,(r=true↔a=b)->R r):PC Tp gl 55 [Arg.mk (.row .str) a,Arg.mk (.row .str) b] [.bool] R:=by
 apply zco
 refine zq1 hl (h _ ?_)
 rw[<-z7k];simp
end
section
theorem z2w{l:List Bs}{m:Nat}(h:∀x∈l,x.length<=m):(Wj l).length<=l.length*(2*m+1):=by
 induction l with
 |nil=>simp[Wj]
 |cons x l ih=>
  rw[show x::l=[x]++l from rfl,yf,xe,Ar,Av,Ar,CH,BB,Dd]
  have h1:=ih λy hy=>h y (by simp[hy])
  have h2:=zqw x
  have h3:=h x (by simp)
  omega
end
end Go.X
end
section
namespace Go.X
open Go Go.Proofs Go.Shelf Go.RowKit
section
def zc6:Go.Shelf.Ren:=⟨fun|169=>123|n=>n,fun|70=>125|9=>9|0=>0|72=>127|37=>99|127=>154|3=>3|5=>5|n=>n,fun|n=>n⟩
theorem zzi:Go.Proofs.Lays.n169 Tp zc6:={
 mixed:=by kernel_rfl
 f169:=LF Tryz.func123
 t0:=BI
 a0:=Cv
 z0:=Cn
 v0:=BO
 t3:=Bh
 a3:=BU
 z3:=BP
 v3:=Bq
 t9:=A9
 a9:=BV
 z9:=BQ
 v9:=Br
 t37:=Dh
 a37:=Ez
 z37:=Ee
 v37:=Dp
 t70:=Tryz.underlying125
 a70:=Tryz.isAgg125
 z70:=Tryz.sizeOf125
 v70:=Tryz.zeroValue125
 t72:=Tryz.underlying127
 a72:=Tryz.isAgg127
 z72:=Tryz.sizeOf127
 v72:=Tryz.zeroValue127
 t127:=DD
 a127:=EM
 z127:=EA
 v127:=DX }
theorem zbm:Builder.Extra Tp zc6:={
 sizeBuilder:=by kernel_rfl
 liesBuilder:=by kernel_rfl
 t5:=Bo
 a5:=B7
 z5:=BS
 v5:=Bz
 infoByte:=by kernel_rfl
 cellsByte:=by kernel_rfl
 sizeByte:=by kernel_rfl
 neB5:=by decide }
theorem zai(B b:Nat)(l:List UInt8)(w:World)(h:Lib.IsBuilder 127 5 B b (Lib.byteCells l) w)(O:B<=w.heap.size):
  Calls Tp 123 #[.pointer (some ⟨b,0,none⟩)] w λe w'=>e=.returned (.string ⟨l.toArray⟩)/\Below B w w':=Any.Builder_String_any zzi zbm B b l w h O
def zmp:Go.Shelf.Ren:=⟨fun|153=>202|152=>222|226=>225|227=>158|228=>193|137=>191|119=>237|224=>232|225=>231|217=>221|266=>236|n=>n,fun|9=>9|3=>3|4=>4|5=>5|21=>21|117=>164|116=>163|0=>0|46=>176|124=>167|n=>n,fun|n=>n⟩
theorem zzj:Go.Proofs.Lays.n153 Tp zmp:={
 mixed:=by kernel_rfl
 f119:=LF Es
 f137:=LF Et
 f152:=LF Eu
 f153:=LF Tryz.func202
 f217:=LF De
 f224:=LF Dv
 f225:=LF Dw
 f226:=LF Tryz.func225
 f227:=LF Tryz.func158
 f228:=LF Tryz.func193
 f266:=LF Df
 t0:=BI
 a0:=Cv
 z0:=Cn
 v0:=BO
 t3:=Bh
 a3:=BU
 z3:=BP
 v3:=Bq
 t4:=Bn
 a4:=Cf
 z4:=BW
 v4:=BF
 t5:=Bo
 a5:=B7
 z5:=BS
 v5:=Bz
 t9:=A9
 a9:=BV
 z9:=BQ
 v9:=Br
 t21:=Co
 a21:=Dg
 z21:=CZ
 v21:=Cw
 t46:=BG
 a46:=Cj
 z46:=BZ
 v46:=BK
 t116:=Tryz.underlying163
 a116:=Tryz.isAgg163
 z116:=Tryz.sizeOf163
 t117:=Tryz.underlying164
 a117:=Tryz.isAgg164
 z117:=Tryz.sizeOf164
 v117:=Tryz.zeroValue164
 t124:=Tryz.underlying167
 a124:=Tryz.isAgg167
 z124:=Tryz.sizeOf167
 v124:=Tryz.zeroValue167 }
open Go.RowKit Go.Lib in
theorem J7(aa:∀w,(zeroValue 163).run Tp w=.ok (.agg (Bc 256 (.bool false))) w)(s O:Bt)(w:World)(h2:2<=O.size)(h8:8<s.size)(hs:s.size<4294967281)(ac:O.size<4294967281)(Z:∀(j:Nat) b,O.data.toList[j]?=some b->b.toNat<128):
  Calls Tp 202 #[.string s,.string O] w λe w'=>e=.returned (.int .i64 (Lib.indexAny s.data.toList O.data.toList))/\w'=((w.alloc (.cells (Lib.setCells O.data.toList) 163)).alloc (.cells (Lib.setCells O.data.toList) 163)):=Any.strings_IndexAny_long zzj aa (by kernel_rfl) s O w h2 h8 hs ac Z
end
end Go.X
end
section
namespace Go.X
open Go Go.X Go.Proofs Go.RowKit
section
variable {h h':zb} {b:Nat} {l:Bs} {K:Value -> zb -> Prop}
def Bld(h:zb)(b:Nat)(l:Bs):Prop:=∃(p:Option Addr) (s:Sl),h[b]?=some (.cells #[.pointer p,slV s] 127 (0,0))/\(p=none\/p=some ⟨b,0,none⟩)/\Owns h (b+1) 5 1 s (Lib.byteCells l)
theorem Bld.lt(H:Bld h b l):b<h.size:=by
 obtain⟨p,s,e,_⟩:=H
 rcases AR b h.size with q|q
 ·exact q
 ·rw[Array.getElem?_eq_none q]at e;cases e
theorem Bld.keep(H:Bld h b l)(k:Keep h.size h h'):Bld h' b l:=by
 have O:=H.lt
 obtain⟨p,s,e,hp,ho⟩:=H
 exact⟨p,s,by rw[k.get b O];exact e,hp,ho.keepN k⟩
theorem Bld.new(h:zb):Bld (h.push (.cells #[.pointer none,.slice none 0 0] 127)) h.size []:=
 ⟨none,⟨none,0,0⟩,j6 _ _,.inl rfl,Owns.nil _ _ _ _⟩
theorem zzk:(AF.info? 127).map (·.size)=some 2:=by kernel_rfl
theorem z7l:liesAt Tp AF.depth 127 (2 / AF.cellsOf 127) 0 127 1=true:=by kernel_rfl
theorem zzl:AF.underlying 125=some (.pointer 127):=by kernel_rfl
theorem zzm:AF.underlying 183=some .unsafePointer:=by kernel_rfl
set_option maxHeartbeats 1000000 in
set_option maxRecDepth 100000 in
theorem zvp(b:Nat)(w:World)(h0:w.cell? ⟨b,0,none⟩=some (.pointer (some ⟨b,0,none⟩))):
  Calls Tp 148 #[.pointer (some ⟨b,0,none⟩)] w λe w'=>e=.returned (.tuple #[])/\w'=w:=by
 obtain⟨j,hj,_⟩:=CC.1 zzk
 have mixed:=Tryz.mixed
 go_enter Tryz.func148,Tryz.ntmps148
 go_wp2
 rw[Lib.run_neq_ptr_same w _ zzl hj]
 go_wp2
 go_end0
 exact⟨rfl,rfl⟩
set_option maxHeartbeats 1000000 in
set_option maxRecDepth 100000 in
theorem zq2(b:Nat)(w:World)(h0:w.cell? ⟨b,0,none⟩=some (.pointer none))(O:w.shape? b=some (127,2))(aa:w.frozen? ⟨b,0,none⟩=false):
  Calls Tp 148 #[.pointer (some ⟨b,0,none⟩)] w λe w'=>e=.returned (.tuple #[])/\w'=w.setCell ⟨b,0,none⟩ (.pointer (some ⟨b,0,none⟩)):=by
 obtain⟨j,hj,Z⟩:=CC.1 zzk
 have mixed:=Tryz.mixed
 go_enter Tryz.func148,Tryz.ntmps148
 go_wp2
 rw[Lib.run_to_unsafe w ⟨b,0,none⟩ zzl zzm hj (by rw[Z];decide) O (Nat.zero_lt_succ 1)]
 simp only[Result.andThen]
 rw[Oper.upon_value]
 go_wp2
 rw[run_callFunc_extern Tryz.func180 (by kernel_rfl) (by kernel_rfl) (by kernel_rfl) (e:=Extern.AbiNoEscape.same) (by kernel_rfl)]
 rw[Lib.run_noEscape]
 simp only[Result.andThen]
 rw[Oper.upon_value]
 go_wp2
 rw[Lib.run_from_unsafe w ⟨b,0,none⟩ zzm zzl hj O z7l]
 simp only[Result.andThen]
 rw[Oper.upon_value]
 go_wp2
 go_end0
 exact⟨rfl,rfl⟩
theorem zvq{b o:Nat}{cs:Array Value}{T:TypeId}(e:h[b]?=some (.cells cs T (0,0)))(v:Value)(B:World)(d:Nat):(mk B d h).setCell ⟨b,o,none⟩ v=mk B d (h.setIfInBounds b (.cells (cs.setIfInBounds o v) T (0,0))):=by
 unfold World.setCell mk
 simp only
 congr 1
 have hb:b<h.size:=(Ac.1 e).1
 apply Array.ext_getElem?
 intro i
 rw[Array.getElem?_modify]
 by_cases hi:i=b
 ·subst hi
  have e':h[i]=.cells cs T (0,0):=by
   have:=AK hb
   rw[e]at this
   exact(Au this).symm
  simp[hb,e']
 ·rw[if_neg (Ne.symm hi),AH (Ne.symm hi)]
theorem Keep.ne(hs:h'.size=h.size)(hf:∀i,i≠b->h'[i]?=h[i]?):Keep b h h':=⟨by omega,λi hi=>hf i (by omega)⟩
theorem chk(H:Bld h b l)(hK:∀h',Bld h' b l->Keep b h h'->h'.size=h.size->K (.tuple #[]) h'):XC Tp 148 #[.pointer (some ⟨b,0,none⟩)] h K:=by
 have Z:=H.lt
 obtain⟨p,s,e,hp,ho⟩:=H
 have O:∀B d,(mk B d h).cell? ⟨b,0,none⟩=some (.pointer p):=λB d=>by
  have:(mk B d h).heap[b]?=some (.cells #[.pointer p,slV s] 127 (0,0)):=e
  simp[World.cell?,this]
 rcases hp with rfl|rfl
 ·refine XC.of_calls λB d=>(zq2 b (mk B d h) (O B d) ?_ ?_).mono ?_
  ·have:(mk B d h).heap[b]?=some (.cells #[.pointer none,slV s] 127 (0,0)):=e
   simp[World.shape?,this]
  ·exact zju ⟨_,e⟩ B d
  ·rintro e' w' ⟨rfl,rfl⟩
   rw[zvq e]
   refine⟨_,rfl,rfl,rfl,rfl,?_⟩
   show K _ (h.setIfInBounds b _)
   refine hK _ ⟨_,s,?_,.inr rfl,?_⟩ ?_ (by simp)
   ·rw[Array.getElem?_setIfInBounds_self_of_lt Z];rfl
   ·refine ho.keep λq hq=>?_
    have:=ho.base_le q hq
    rw[AH (by omega)]
   ·exact Keep.setBlk _ (Ae _)
 ·refine XC.of_calls λB d=>(zvp b (mk B d h) (O B d)).mono ?_
  rintro e' w' ⟨rfl,rfl⟩
  exact⟨_,rfl,rfl,rfl,rfl,hK _ ⟨_,s,e,.inr rfl,ho⟩ (Keep.refl _ _) rfl⟩
theorem z4r:ElemT Tp 99 5 (.int .u8 0) 1 1:=⟨by kernel_rfl,⟨Tryz.t5,by kernel_rfl,by kernel_rfl,by kernel_rfl,by kernel_rfl⟩,rfl,by omega⟩
theorem qdg:AF.underlying 9=some .string:=by kernel_rfl
theorem z7m:yu Tp 99=true:=by kernel_rfl
theorem z7n:yr Tp 99=1:=by kernel_rfl
theorem z4s{p:Option Addr}{s s0:Sl}(e:h[b]?=some (.cells #[.pointer p,slV s0] 127 (0,0)))(hp:p=none\/p=some ⟨b,0,none⟩)(ho:Owns h (b+1) 5 1 s (Lib.byteCells l)){K:zb->Prop}
  (hK:∀h',Bld h' b l->Keep b h h'->h'.size=h.size->K h'):XRunU Tp (Al 99 (.pointer (some ⟨b,1,none⟩)) (.slice s.a s.len s.cap)) h K:=by
 intro B d
 obtain⟨h',r1,r2,r3,r4⟩:=Jt (P:=Tp) z7m z7n e (o:=1) (v:=slV s) rfl (by simp) (by simp[slV,Value.cells,Value.oneCell']) B d
 refine⟨d,h',r1,hK h' ⟨p,s,?_,hp,?_⟩ (Keep.ne r3 r4) r3⟩
 ·rw[r2];rfl
 ·refine ho.keep λq hq=>?_
  have:=ho.base_le q hq
  exact r4 _ (by omega)
theorem zq3(H:Bld h b l)(hl:l.length<140737488355328)(c:UInt8)(hK:∀h',Bld h' b (l++[c])->Keep b h h'->K .nilIface h'):
  XC Tp 120 #[.pointer (some ⟨b,0,none⟩),.int .u8 (c.toNat:Int)] h K:=by
 apply Qg
 refine chk H λh2 H2 k2 z2=>⟨rfl,_,rfl,?_⟩
 have Z:=H2.lt
 obtain⟨p,s,e,hp,ho⟩:=H2
 have O:=ho.1
 rw[Lib.byteCells_length,B6]at O
 refine⟨s,Blk.cellAdd (o:=0) (k:=1) (cs:=#[.pointer p,slV s]) ⟨_,e⟩ rfl,?_⟩
 intro h5
 have k5:Keep h2.size h2 h5:=Keep.push _ _ (Ae _)
 have s5:h5.size=h2.size+1:=Ak _
 have b5:Blk h5 h2.size #[.int .u8 (c.toNat:Int)]:=Blk.new _ _ _
 have e5:h5[b]?=some (.cells #[.pointer p,slV s] 127 (0,0)):=by rw[k5.get b Z];exact e
 have o5:=ho.keepN k5
 clear_value h5
 refine Xw z4r o5 (src:=⟨some ⟨h2.size,0,none⟩,1,1⟩) (news:=[.int .u8 (c.toNat:Int)]) (n:=h5.size) ?_ rfl (by simp[Value.oneCell']) (by simp only;omega) (by simp only;omega) (by omega) λs' h6 q1 q2 q3 q4 q5=>⟨s',rfl,_,rfl,?_⟩
 ·refine .inr ⟨h2.size,0,rfl,by omega,λi v hv=>?_⟩
  match i,hv with
  |0,hv=>cases hv;exact b5.cell rfl
 ·have e6:h6[b]?=some (.cells #[.pointer p,slV s] 127 (0,0)):=by
   rw[q3 b (by omega) λq hq=>by have:=ho.base_le q hq;omega];exact e5
  have o6:Owns h6 (b+1) 5 1 s' (Lib.byteCells (l++[c])):=by
   have:Lib.byteCells (l++[c])=Lib.byteCells l++[.int .u8 (c.toNat:Int)]:=by unfold Lib.byteCells;rw[Cq];rfl
   rw[this];exact q2
  have kk:Keep b h h6:=k2.trans ⟨by omega,λi hi=>by
   rw[q3 i (by omega) λq hq=>by have:=ho.base_le q hq;omega]
   exact k5.get i (by omega)⟩ (Ae _)
  refine z4s e6 hp o6 λh7 H7 k7 z7=>hK h7 H7 (kk.trans k7 (Ae _))
theorem zmq(H:Bld h b l)(t:Bs)(hl:l.length+t.length<=140737488355328)(hK:∀h',Bld h' b (l++t)->Keep b h h'->K (.tuple #[.int .i64 (t.length:Int),.nilIface]) h'):
  XC Tp 121 #[.pointer (some ⟨b,0,none⟩),.string (bl t)] h K:=by
 apply Z0
 refine chk H λh2 H2 k2 z2=>⟨rfl,_,rfl,?_⟩
 have aa:=H2.lt
 obtain⟨p,s,e,hp,ho⟩:=H2
 have Z:=ho.1
 rw[Lib.byteCells_length,B6]at Z
 refine⟨s,Blk.cellAdd (o:=0) (k:=1) (cs:=#[.pointer p,slV s]) ⟨_,e⟩ rfl,?_⟩
 have O:=zq t
 refine zdq z4r ho (x:=.string (bl t)) (m:=(bl t).size) (news:=Lib.byteCells t) (λB d=>?_) (by rw[O];omega) (by rw[O];omega) (by omega) λs' h6 q1 q2 q3 q4 q5=>⟨s',rfl,_,rfl,?_⟩
 ·have:=Src.ofString (P:=Tp) (w:=mk B d h2) qdg (bl t)
  have e2:byteCells (bl t)=Lib.byteCells t:=by
   unfold byteCells Lib.byteCells
   have:(bl t).data.toList=t:=js t
   rw[this]
  rw[e2]at this;exact this
 ·have e6:h6[b]?=some (.cells #[.pointer p,slV s] 127 (0,0)):=by
   rw[q3 b (by omega) λq hq=>by have:=ho.base_le q hq;omega];exact e
  have o6:Owns h6 (b+1) 5 1 s' (Lib.byteCells (l++t)):=by
   have:Lib.byteCells (l++t)=Lib.byteCells l++Lib.byteCells t:=by unfold Lib.byteCells;rw[Cq]
   rw[this];exact q2
  have kk:Keep b h h6:=k2.trans ⟨by omega,λi hi=>q3 i (by omega) λq hq=>by have:=ho.base_le q hq;omega⟩ (Ae _)
  refine z4s e6 hp o6 λh7 H7 k7 z7=>?_
  rw[O]
  exact hK h7 H7 (kk.trans k7 (Ae _))
theorem z2x(H:Bld h b l)(hK:∀h',Keep b h h'->K (.string (bl l)) h'):XC Tp 123 #[.pointer (some ⟨b,0,none⟩)] h K:=by
 have Z:=H.lt
 obtain⟨p,s,e,hp,ho⟩:=H
 refine XC.of_calls λB d=>(zai b b l (mk B d h) ?_ (Nat.le_of_lt Z)).mono ?_
 ·have hb:Lib.BuilderAt 127 5 b b (.pointer p) (Lib.byteCells l) (mk B d h):=by
   refine⟨Ae _,slV s,e,?_,?_⟩
   ·have h1:=ho.1
    rw[B6]at h1
    rw[h1]
    exact ho.base (Nat.le_succ b)
   ·intro hq
    cases ha:s.a with
    |none=>rw[slV,ha]at hq;cases hq
    |some q=>
     have:=ho.base_le q ha
     rw[slV,ha]at hq
     have:q.block=b:=by simpa[Value.ownBlock]using hq
     omega
  rcases hp with rfl|rfl
  ·exact .inl hb
  ·exact .inr hb
 ·rintro e' w' ⟨rfl,O⟩
  exact⟨_,rfl,O.os,O.tape,O.output,hK _ ⟨O.size,O.block⟩⟩
end
end Go.X
end
section
namespace Go.X
section
variable {gl:Fr} {l:List Bt} {R:Bool -> Prop}
theorem zfy(hg:GL gl)(hl:SL l)(hR:R (jc l)):PC Tp gl 37 [Arg.mk (.row .str) l] [.bool] R:=by
 intro h M vs hM ag ha
 match vs,ha with
 |[u],⟨hu,_⟩=>
  obtain⟨s,rfl,hr⟩:=zin hu
  have hr:Rd M (.row .str) l [slV s]:=hr
  obtain⟨aa,ah,ai⟩:=rowLen hr
  apply PX.of
  apply zfa s
  have hd:decide (((s.len:Nat):Int)<=64)=decide (l.length<=64):=by rw[aa,AJ,decide_eq_true_eq,decide_eq_true_eq];omega
  rw[hd]
  refine⟨λv h'=>∃b,v=.bool b/\(decide (l.length<=64)=true->b=l.any λx=>!(j9 (lb x)))/\∃M',Later h M h' M',λhc=>?_,λhc=>⟨true,true,rfl,λe=>(by rw[e]at hc;cases hc),M,Later.refl ag⟩,λ_ v h' ⟨b,e,_⟩=>⟨b,e⟩,?_⟩
  ·refine(qcp (gl:=gl) ag hr (p:=λx=>!(j9 (lb x))) λx hx=>⟨by kernel_rfl,λh' M' u' L' ac=>?_⟩).go λw h4 M4 b L4 O ae=>⟨b,zdd O,b,rfl,λ_=>ae,M4,L4⟩
   have:=z1z ac
   subst this
   apply PX.of
   show XC Tp 74 #[.string x] h' _
   apply zc4
   have hp:=zs0 hg.tabs (l:=lb x) (R:=λb=>b=j9 (lb x)) (by have:=hl.s x hx;omega) rfl
   rw[W8]at hp
   exact hp.go (vs:=[.string x]) (hM.trans L'.le) L'.ag (yj (rdStr _) wm) λw h5 M5 b L5 Z af=>⟨b,zdd Z,M5,_,L5,zcn.2 (rdBool _),by rw[af]⟩
  ·rintro b h' ⟨b',e,hb,M',L'⟩
   cases e
   refine⟨M',_,L',zcn.2 (rdBool _),?_⟩
   have:(bif decide (l.length<=64)then !b else false)=jc l:=by
    unfold jc
    cases hc:decide (l.length<=64)with
    |false=>rfl
    |true=>
     rw[hb hc,cond_true,B0,AJ];simp
   rw[this];exact hR
theorem z2y(hg:GL gl){s:Bs}(hs:s.length<=1048576)(h:R (qu s)):PC Tp gl 150 [Arg.mk .str (bl s)] [.bool] R:=by
 apply ze4
 refine⟨λx=>∃t:Bs,x=bl t/\t.length<=s.length/\qu t=qu s,λx=>(lb x).length,⟨s,rfl,Ae _,rfl⟩,?_⟩
 rintro x ⟨t,rfl,ht,hw⟩
 refine qak hg.max (s:=bl t) (sep:=bl [126]) (by rw[zq];omega) ?_
 simp only[js]
 rcases Lib.index_ge t [126] |> λ_=>Zb t [126]with e|⟨i,e⟩
 ·have hc:Lib.cut t [126]=(t,[],false):=by unfold Lib.cut;rw[if_neg (by omega)]
  rw[hc]
  refine⟨λ_=>?_,λhx=>by cases hx⟩
  rw[zkl e]at hw
  rw[<-hw]at h;exact h
 ·have hf:=zg7 e
  have hc:Lib.cut t [126]=(t.take i,t.drop (i+1),true):=by
   unfold Lib.cut;rw[if_pos (by omega),e];rfl
  rw[hc]
  rw[zo1 e]at hw
  rw[CH]at hf
  have aa:(t.drop (i+1)).length+(i+1)=t.length:=by rw[AX];omega
  generalize t.drop (i+1)=r at *
  simp only
  refine⟨λhx=>(by cases hx),λ_=>?_⟩
  rw[zta,js,show(0:Int).toNat=0 from rfl,Qw,zq]
  cases r with
  |nil=>
   refine⟨λhx=>by simp at hx,λhx=>by simp at hx,λ_=>?_,λhx=>by simp at hx⟩
   have Z:qu s=false:=by simpa using hw
   rw[Z]at h;exact h
  |cons c r=>
   refine⟨λ_=>by simp,λ_=>by simp,λhx=>?_,λhx=>⟨⟨c::r,rfl,by omega,?_⟩,?_⟩⟩
   ·have O:c≠48/\c≠49:=by
     have e1:(((c::r)[0]?.getD 0).toNat:Int)=(c.toNat:Int):=rfl
     rw[e1,J4 (n:=48) 48 rfl,J4 (n:=49) 49 rfl]at hx
     simpa using hx
    have e1:(c==48)=false:=by simpa using O.1
    have e2:(c==49)=false:=by simpa using O.2
    have Z:qu s=false:=by rw[<-hw];simp[e1,e2]
    rw[Z]at h;exact h
   ·have O:c=48\/c=49:=by
     have e1:(((c::r)[0]?.getD 0).toNat:Int)=(c.toNat:Int):=rfl
     rw[e1,J4 (n:=48) 48 rfl,J4 (n:=49) 49 rfl]at hx
     simp at hx
     by_cases q:c=48
     ·exact .inl q
     ·exact .inr (hx q)
    rcases O with rfl|rfl <;> simpa using hw
   ·show(c::r).length<t.length
    omega
theorem zti(hg:GL gl){s old new:Bs}(hs:s.length<=4194304)(ho:1<=old.length)(hn:new.length<=2){R:Bt->Prop}(h:R (bl (Lib.replaceAll s old new))):PC Tp gl 122 [Arg.mk .str (bl s),Arg.mk .str (bl old),Arg.mk .str (bl new)] [.str] R:=by
 have hc:=Lib.countB_le (bl old) (by rw[zq];exact ho) (bl s).size (bl s) (Ae _)
 rw[zq]at hc
 have hm:Lib.countB (bl s) (bl old)*new.length<=s.length*2:=Nat.mul_le_mul hc hn
 refine zl8 hg.max (by rw[zq];omega) (by rw[zq];exact ho) (by rw[zq,zq];omega) ?_
 rw[js,js,js];exact h
set_option maxHeartbeats 1000000 in
theorem z2z(hg:GL gl){s:Bs}(hs:s.length<=1048576){R:List Bt×Int->Prop}(h:R ((zqx s).1.map bl,(zqx s).2)):PC Tp gl 124 [Arg.mk .str (bl s)] [.row .str,.int .i64] R:=by
 rw[<-qau]at h
 apply ze1
 simp only[zq,Qw,show(0:Int).toNat=0 from rfl,zta,js]
 intro K hK
 have ac:(bif (!(s==[]))then((((s[0]?).getD 0).toNat:Int) != 47)else false)=(!s.isEmpty&&s.head? != some 47):=by
  cases s with
  |nil=>simp
  |cons c t=>
   show(bif (!((c::t)==[]))then((c.toNat:Int) != 47)else false)=_
   rw[J4 (n:=47) 47 rfl,AJ];simp
 rw[ac]
 have Z:∀b,b=(!(j9 s)||(!s.isEmpty&&s.head? != some 47) || !(qu s))->K b:=by
  rintro b rfl
  refine hK _ ⟨λhx=>?_,λhx=>?_⟩
  ·unfold goP at h
   rw[if_pos hx]at h;exact h
  ·unfold goP at h
   rw[if_neg (by rw[hx];simp)]at h
   have ai:=zd5 s 47
   refine z2d hg.max (s:=bl s) (sep:=bl [47]) (by rw[zq];omega) (by rw[zq];simp) ?_
   rw[ai]
   refine⟨λhq=>?_,λhq=>?_⟩
   ·have aa:64<s.count 47:=by simp at hq;omega
    rw[if_pos aa]at h;exact h
   ·have aa:¬64<s.count 47:=by simp at hq;omega
    rw[if_neg aa]at h
    refine⟨λh0=>?_,λh0=>?_⟩
    ·have:s=[]:=by simpa using h0
     rw[if_pos this]at h;exact h
    ·have af:s≠[]:=by simpa using h0
     rw[if_neg af]at h
     have ak:=A5.2 af
     refine⟨by omega,?_⟩
     rw[zvh (l:=s) (n:=1) (k:=1) rfl,List.drop_one]
     have an:s.tail.length<=s.length:=by simp
     have aj:Lib.countB (bl s.tail) (bl [47])<=1048576:=by
      rw[zd5]
      have:=List.count_le_length (a:=(47:UInt8)) (l:=s.tail)
      omega
     refine z2e hg.max (s:=bl s.tail) (sep:=bl [47]) (by rw[zq];omega) (by rw[zq];simp) (by omega) (Lib.splitB_all _ (by rw[zq];simp) 0 _ _ rfl) ?_
     rw[zvl]
     have ae:=zfv 47 s.tail
     have ah:(Jg 47 s.tail).length<=1048577:=by
      rw[zbc]
      have:=List.count_le_length (a:=(47:UInt8)) (l:=s.tail)
      omega
     generalize Jg 47 s.tail=ys at *
     refine⟨λout i=>∃k:Nat,i=k/\k<=ys.length/\out=((ys.take k).map J6).map bl,λ_ i=>ys.length-i.toNat,⟨0,rfl,by omega,by simp⟩,?_⟩
     rintro out i ⟨k,rfl,hk,rfl⟩
     simp only[Bv]
     refine⟨λhc=>?_,λhc=>?_⟩
     ·have O:k<ys.length:=by simp at hc;omega
      refine⟨bl ys[k],⟨by omega,by rw[Ah,Cc,Ai O];rfl⟩,?_⟩
      have am:=ae ys[k] (Ay O)
      have al:(Lib.replaceAll ys[k] [126,49] [47]).length<=ys[k].length:=by
       rw[xw (by simp) (by simp)]
       exact z2q _ _ (by simp) (by simp) _ _ (Ae _)
      refine zti hg (s:=ys[k]) (old:=[126,49]) (new:=[47]) (by omega) (by simp) (by simp) ?_
      refine zti hg (old:=[126,48]) (new:=[126]) (by omega) (by simp) (by simp) ?_
      rw[zy4]
      have hw:=Zz O (by omega)
      rw[hw]
      refine⟨by simp;omega,⟨k+1,rfl,by omega,?_⟩,by simp only[Ah];omega⟩
      rw[Am O,Cq,Cq];rfl
     ·have O:k=ys.length:=by simp at hc;omega
      subst O
      rw[AN];exact h
 refine zs0 hg.tabs (by omega) ⟨λhx=>Z _ ?_,λhx=>⟨λhy=>⟨by omega,?_⟩,λhy=>Z _ ?_,λhy=>z2y hg hs (Z _ ?_)⟩⟩
 ·simp at hx;simp[hx]
 ·have:s≠[]:=by simpa using hy
  have:=A5.2 this
  omega
 ·rw[hy];simp
 ·simp at hx;rw[hy];simp[hx]
theorem z7o(hg:GL gl)(hl:SL l){R:Bt×Int->Prop}(h1:jc l=true->R (bl (Wj (l.map lb)),0))(h2:jc l=false->R (bl [],1)):PC Tp gl 89 [Arg.mk (.row .str) l] [.str,.int .i64] R:=by
 intro h M vs hM ag ha
 match vs,ha with
 |[u],⟨hu,_⟩=>
  obtain⟨s,rfl,hr⟩:=zin hu
  have hr:Rd M (.row .str) l [slV s]:=hr
  obtain⟨aB,aF,aI⟩:=rowLen hr
  have ret:∀(M':Fr) (x:Bt) (e:Int),zak M' [.str,.int .i64] (x,e) (.tuple #[.string x,.int .i64 e]):=λM' x e=>⟨[_,_],⟨_,_,rfl,rfl,_,rfl,rfl⟩,rfl⟩
  apply PX.of
  apply zhn s
  have Z:PC Tp gl 37 [Arg.mk (.row .str) l] [.bool] (λr=>r=jc l):=zfy hg hl rfl
  refine Z.go (vs:=[slV s]) hM ag (yj hu wm) λw g M2 r L2 aj al=>⟨r,zdd aj,λhx=>⟨M2,_,L2,ret _ _ _,h2 (by rw[<-al];simpa using hx)⟩,λhx=>?_⟩
  have ac:jc l=true:=by rw[<-al];simpa using hx
  have hn:l.length<=64:=by unfold jc at ac;simp at ac;exact ac.1
  have tl:∀k,(Wj ((l.take k).map lb)).length<=200000000:=by
   intro k
   have:=z2w (l:=(l.take k).map lb) (m:=1048576) λx hx=>by
    obtain⟨y,hy,rfl⟩:=BC.1 hx
    exact hl.s y (BR hy)
   have e:((l.take k).map lb).length<=64:=by rw[Bv,AY];omega
   have:((l.take k).map lb).length*(2*1048576+1)<=64*(2*1048576+1):=AM _ e
   omega
  intro g4
  have L4:Later g M2 g4 M2:=Later.push L2.ag _
  have b4:Bld g4 g.size []:=Bld.new g
  have aN:=L2.trans L4
  have aE:=b4.lt
  clear_value g4
  refine⟨λi h8=>∃k:Nat,i=k/\k<=l.length/\Bld h8 g.size (Wj ((l.take k).map lb))/\Keep g.size g4 h8,λi _=>l.length-i.toNat,⟨0,rfl,by omega,by simpa[Wj]using b4,Keep.refl _ _⟩,?_⟩
  rintro i h8 ⟨k,rfl,hk,B8,k8⟩
  have gz:g.size<=g4.size:=L4.keep.size
  have ah:Keep g.size g h8:=L4.keep.trans k8 (Ae _)
  have aA:AgM M2 h8:=L2.ag.keep ah
  refine⟨λhc=>?_,λhc=>?_⟩
  ·have O:k<l.length:=by simp at hc;omega
   refine zio aA (Rd.mono L2.le hr) O rfl rfl ?_
   have hT:=tl k
   have aJ:=hl.s _ (Ay O)
   refine zq3 B8 (by omega) 47 λh9 B9 k9=>⟨_,rfl,?_⟩
   have ar:=ah.trans k9 (Ae _)
   have ap:AgM M2 h9:=L2.ag.keep ar
   have e1:=zqw (lb l[k])
   have aC:=z2r (lb l[k])
   have p1:=zti (gl:=gl) hg (s:=lb l[k]) (old:=[126]) (new:=[126,48]) (by omega) (by simp) (by simp) (R:=λr=>r=bl (Lib.replaceAll (lb l[k]) [126] [126,48])) rfl
   rw[W8]at p1
   have ai:=hM.trans L2.le
   refine p1.go (vs:=[.string l[k],.string (bl [126]),.string (bl [126,48])]) ai ap (yj (rdStr _) (yj (rdStr _) (yj (rdStr _) wm))) λv aL aD r ae aa an=>⟨r,qc2 aa,?_⟩
   subst an
   have p2:=zti (gl:=gl) hg (s:=Lib.replaceAll (lb l[k]) [126] [126,48]) (old:=[47]) (new:=[126,49]) (by omega) (by simp) (by simp) (R:=λr=>r=bl (esc (lb l[k]))) (by rw[z6z])
   refine p2.go (vs:=[.string _,.string (bl [47]),.string (bl [126,49])]) (ai.trans ae.le) ae.ag (yj (rdStr _) (yj (rdStr _) (yj (rdStr _) wm))) λv aM aG r au af ak=>⟨r,qc2 af,?_⟩
   subst ak
   have am:=ae.keep.trans au.keep ae.keep.size
   have ax:=B9.keep am
   refine zmq ax _ (by simp only[Ar,CH];omega) λaH ay az=>⟨_,_,rfl,?_⟩
   have hw:=Zz O (by omega)
   rw[hw]
   refine⟨⟨k+1,rfl,by omega,?_,?_⟩,by simp only[Ah];omega⟩
   ·rw[Am O,Cq,yf]
    have:Wj (List.map lb [l[k]])=[47]++esc (lb l[k]):=by simp[Wj]
    rw[this,<-AQ];exact ay
   ·have z9:=B9.lt
    exact((k8.trans k9 (Ae _)).trans (am.mono (by omega)) (Ae _)).trans az (Ae _)
  ·have O:k=l.length:=by simp at hc;omega
   subst O
   rw[AN]at B8
   refine z2x B8 λh9 k9=>⟨_,rfl,M2,_,?_,ret _ _ _,h1 ac⟩
   exact L2.trans (Later.same L2.ag (ah.trans k9 (Ae _)))
end
end Go.X
end
section
namespace Go.X
open Go Go.X Go.Proofs Go.RowKit
section
theorem qdh{z:UInt8}(h:128<=z.toNat):Lib.indexByte [95] z=-1:=by
 have:z≠95:=by rintro rfl;revert h;decide
 unfold Lib.indexByte
 simp[Lib.indexByte,this.symm]
theorem ix0{z:UInt8}:Lib.indexByte [] z=-1:=by simp[Lib.indexByte]
def VR(r:Int)(e:Ending):Prop:=∃b,e=.returned (.bool b)/\(b=true->(0<=r/\r<55296)\/(57343<r/\r<=1114111))
set_option maxHeartbeats 4000000 in
set_option maxRecDepth 1000000 in
theorem zq4(r:Int)(w:World):Calls Tp 237 #[.int .i32 r] w λe w'=>VR r e/\w'=w:=by
 have mixed:=Tryz.mixed
 go_enter Es,Tryz.ntmps237
 by_cases h1:0<=r <;> by_cases h2:r<55296 <;> by_cases h3:57343<r <;> by_cases h4:r<=1114111 <;> (go_wp2;go_ret;exact⟨⟨_,rfl,λh=>by first|omega|cases h⟩,rfl⟩)
theorem zzn(r:Int)(h:128<=r):(∃a z:UInt8,EP r=⟨#[a,z]⟩/\128<=z.toNat)\/(∃a b z:UInt8,EP r=⟨#[a,b,z]⟩/\128<=z.toNat)\/(∃a b c z:UInt8,EP r=⟨#[a,b,c,z]⟩/\128<=z.toNat):=by
 have hz:∀n:Nat,128<=(UInt8.ofNat (128+n % 64)).toNat:=λn=>by
  have:(UInt8.ofNat (128+n % 64)).toNat=(128+n % 64) % 256:=UInt8.toNat_ofNat
  rw[this,Eb (by omega)];omega
 have hc:∃c:Nat,128<=c/\(if Utf8.valid r then r.toNat else Utf8.runeError)=c:=by
  refine⟨_,?_,rfl⟩
  split
  ·omega
  ·decide
 obtain⟨c,Z,O⟩:=hc
 unfold EP
 simp only[O]
 rw[if_neg (by omega)]
 by_cases h1:c<2048
 ·rw[if_pos h1];exact .inl ⟨_,_,rfl,hz _⟩
 ·rw[if_neg h1]
  by_cases h2:c<65536
  ·rw[if_pos h2];exact .inr (.inl ⟨_,_,_,rfl,hz _⟩)
  ·rw[if_neg h2];exact .inr (.inr ⟨_,_,_,_,rfl,hz _⟩)
def IR(e:Ending):Prop:=∃n,e=.returned (.int .i64 n)
set_option maxHeartbeats 4000000 in
set_option maxRecDepth 1000000 in
theorem zq5(r:Int)(w:World)(h1:128<=r)(h2:r≠65533):Calls Tp 222 #[.string ⟨#[43,45,95]⟩,.int .i32 r] w λe w'=>IR e/\Below w.heap.size w w':=by
 have mixed:=Tryz.mixed
 have aa:∀args w,(callFunc 191 args).run Tp w=.ok (.enter 191 args) w:=enters_of Et (by kernel_rfl) rfl
 have ac:∀args w,(callFunc 237 args).run Tp w=.ok (.enter 237 args) w:=enters_of Es (by kernel_rfl) rfl
 have g1:¬r<128:=by omega
 go_enter Eu,Tryz.ntmps222
 go_wp2_with (go_at_fn 237;refine(zq4 _ _).mono ?_;rintro e w' ⟨⟨b,rfl,hb⟩,hw⟩;rw[hw];cases b)
 ·go_ret
  exact⟨⟨_,rfl⟩,Below.refl _ _⟩
 ·rcases zzn r h1 with⟨a,z,hE,hz⟩|⟨a,b,z,hE,hz⟩|⟨a,b,c,z,hE,hz⟩
  ·have O:=λ(w:World)=>run_convert_int_string (P:=Tp) w 21 9 .i32 r (by kernel_rfl) (by kernel_rfl)
   rw[hE]at O
   refine wp_scope_straight ?_
   go_wp2
   go_loop [9] (λv=>v=.int .i64 1) (λ_=>0)
   case atStart=>rfl
   case round=>
    subst hrel
    go_wp2
    refine wp_scope_straight ?_
    have Z:((45:Int) != (z.toNat:Int))=true:=bne_iff_ne.2 (by omega)
    go_wp2
    go_region
    simp only[show ∀h,((⟨#[43,45,95]⟩:Bt)[1]'h)=45 from λ_=>rfl,show ∀h,((⟨#[a,z]⟩:Bt)[1]'h)=z from λ_=>rfl,show((45:UInt8).toNat:Int)=45 from rfl,Z]
    all_goals go_wp2
    all_goals go_region_with (go_at_call 191;refine(xj _ _ _).mono ?_;rintro e w' ⟨rfl,rfl⟩)
    all_goals simp only[show ∀h,((⟨#[a,z]⟩:Bt)[1]'h)=z from λ_=>rfl,qdh hz]
    all_goals go_wp2
    all_goals simp only[Exit.noGoto,Exit.inBlock]
    all_goals go_wp2
    all_goals simp only[Exit.noGoto,Exit.inBlock]
    all_goals go_wp2
    all_goals go_ret
    all_goals exact⟨⟨_,rfl⟩,zbh w 2⟩
  ·have O:=λ(w:World)=>run_convert_int_string (P:=Tp) w 21 9 .i32 r (by kernel_rfl) (by kernel_rfl)
   rw[hE]at O
   refine wp_scope_straight ?_
   go_wp2
   go_loop [9] (λv=>v=.int .i64 2) (λ_=>0)
   case atStart=>rfl
   case round=>
    subst hrel
    go_wp2
    refine wp_scope_straight ?_
    have Z:((95:Int) != (z.toNat:Int))=true:=bne_iff_ne.2 (by omega)
    go_wp2
    go_region
    simp only[show ∀h,((⟨#[43,45,95]⟩:Bt)[2]'h)=95 from λ_=>rfl,show ∀h,((⟨#[a,b,z]⟩:Bt)[2]'h)=z from λ_=>rfl,show((95:UInt8).toNat:Int)=95 from rfl,Z]
    all_goals go_wp2
    all_goals go_region_with (go_at_call 191;refine(xj _ _ _).mono ?_;rintro e w' ⟨rfl,rfl⟩)
    all_goals simp only[show ∀h,((⟨#[a,b,z]⟩:Bt)[2]'h)=z from λ_=>rfl,ix0]
    all_goals go_wp2
    all_goals simp only[Exit.noGoto,Exit.inBlock]
    all_goals go_wp2
    all_goals simp only[Exit.noGoto,Exit.inBlock]
    all_goals go_wp2
    all_goals go_ret
    all_goals exact⟨⟨_,rfl⟩,zbh w 2⟩
  ·have O:=λ(w:World)=>run_convert_int_string (P:=Tp) w 21 9 .i32 r (by kernel_rfl) (by kernel_rfl)
   rw[hE]at O
   refine wp_scope_straight ?_
   go_wp2
   go_loop [9] (λv=>v=.int .i64 3) (λ_=>0)
   case atStart=>rfl
   case round=>
    subst hrel
    go_wp2
    go_ret
    exact⟨⟨_,rfl⟩,Below.refl _ _⟩
end
end Go.X
end
section
namespace Go.X
section
theorem Wg(gl:Fr)(s0:Bt)(O:Bt)(R:Bool->Prop)
  (H:PC Tp gl 202 [Arg.mk .str s0,Arg.mk .str O] [.int .i64] (λa:Int=>R (decide (a>=0)))):
  PC Tp gl 172 [Arg.mk .str s0,Arg.mk .str O] [.bool] R:=
 PF ⟨[],[],[],[]⟩ [.tmp 4] 9 Tryz.func172 H
theorem zbn(gl:Fr)(s0:Bt)(Z:Bt)(R:Int->Prop)
  (H:((Z.toList==(⟨#[]⟩:Bt).toList)=true->R (-1))/\((Z.toList==(⟨#[]⟩:Bt).toList)=false->(((Z.size:Int)==1)=true->(0<=(0:Int)/\(0:Int)<(Z.size:Int))/\∀a:Int->Prop,(∀b:Int,(PC Tp gl 222 [Arg.mk .str s0,Arg.mk (.int .i32) b] [.int .i64] (λc:Int=>R c))->a b)->((decide ((Ab .i32 (zf Z (0:Int).toNat))>=128))=true->a 65533)/\((decide ((Ab .i32 (zf Z (0:Int).toNat))>=128))=false->a (Ab .i32 (zf Z (0:Int).toNat))))/\(((Z.size:Int)==1)=false->∀d:Prop,((∃(e:(Bt×Nat)->Prop) (f:(Bt×Nat)->Nat),e (s0,0)/\∀O:Bt×Nat,e O->(((nxB O.1 O.2)=true->(nxB O.1 O.2)=true/\(nxB O.1 O.2)=true/\PC Tp gl 222 [Arg.mk .str Z,Arg.mk (.int .i32) (nxR O.1 O.2)] [.int .i64] (λg:Int=>(decide (g>=0)=true->R (O.2:Int))/\(decide (g>=0)=false->(e (O.1,nxP O.1 O.2)/\f (O.1,nxP O.1 O.2)<f O))))/\((nxB O.1 O.2)=false->R (-1))))->d)->PC Tp gl 225 [Arg.mk (.int .i64) (s0.size:Int)] [.bool] (λi:Bool=>(i=true->False)/\(i=false->d))))):
  PC Tp gl 202 [Arg.mk .str s0,Arg.mk .str Z] [.int .i64] R:=
 PF ⟨[],[],[(18,⟨[],[(45,[.dat .iter])],[],[1002880]⟩)],[(7,⟨[(5,.one (.dat (.int .i32)))],[],[],[100320]⟩),(17,⟨[],[],[],[]⟩)]⟩ [.tmp 4] 55 Tryz.func202 H
theorem Qd(gl:Fr)(s0:Bt)(r1:Int)(R:Int->Prop)
  (H:((bif (decide ((0:Int)<=r1))then(decide (r1<128))else false)=true->PC Tp gl 191 [Arg.mk .str s0,Arg.mk (.int .u8) (Ab .u8 r1)] [.int .i64] (λa:Int=>R a))/\((bif (decide ((0:Int)<=r1))then(decide (r1<128))else false)=false->((r1==65533)=true->∃(b:(Bt×Nat)->Prop) (c:(Bt×Nat)->Nat),b (s0,0)/\∀O:Bt×Nat,b O->(((nxB O.1 O.2)=true->(nxB O.1 O.2)=true/\(nxB O.1 O.2)=true/\(((nxR O.1 O.2:Int)==65533)=true->R (O.2:Int))/\(((nxR O.1 O.2:Int)==65533)=false->(b (O.1,nxP O.1 O.2)/\c (O.1,nxP O.1 O.2)<c O)))/\((nxB O.1 O.2)=false->R (-1))))/\((r1==65533)=false->PC Tp gl 237 [Arg.mk (.int .i32) r1] [.bool] (λd:Bool=>((!d)=true->R (-1))/\((!d)=false->False))))):
  PC Tp gl 222 [Arg.mk .str s0,Arg.mk (.int .i32) r1] [.int .i64] R:=
 PF ⟨[],[],[(38,⟨[],[(175,[.dat .iter])],[],[1011200]⟩)],[]⟩ [.tmp 4] 187 Eu H
theorem Qh(gl:Fr)(O:Int)(R:Bool->Prop)
  (H:R (decide (O>8))):
  PC Tp gl 225 [Arg.mk (.int .i64) O] [.bool] R:=
 PF ⟨[],[],[],[]⟩ [.tmp 2] 5 Tryz.func225 H
end
end Go.X
end
section
namespace Go.X
open Go Go.X Go.Proofs Go.RowKit
section
variable {gl:Fr} {R:Int -> Prop} {l:Bs}
theorem zhp{f:FuncId}{args:List Arg}{us:List Value}(Z:zcm args=some us)(hR:∀n,R n)
  (H:∀w:World,Calls Tp f us.toArray w λe w'=>IR e/\Below w.heap.size w w'):PC Tp gl f args [.int .i64] R:=by
 intro h M vs hM ag ha
 rw[W6 Z ha]
 refine XC.of_calls λB d=>(H (mk B d h)).mono ?_
 rintro e w' ⟨⟨n,rfl⟩,O⟩
 have k:Keep h.size h w'.heap:=⟨O.size,O.block⟩
 exact⟨_,rfl,O.os,O.tape,O.output,k,M,n,Fr.le.refl _,λ_ _=>rfl,ag.keep k,zlo _ _,hR n⟩
theorem zo4{r:Int}(hr:0<=r)(hR:∀n,R n):PC Tp gl 222 [Arg.mk .str (bl [43,45,95]),Arg.mk (.int .i32) r] [.int .i64] R:=by
 by_cases h1:r<128
 ·apply Qd
  have e:(bif decide ((0:Int)<=r)then decide (r<128)else false)=true:=by simp[hr,h1]
  rw[e]
  exact⟨λ_=>Xf (hR _),λhx=>by cases hx⟩
 ·by_cases h2:r=65533
  ·subst h2
   apply Qd
   refine⟨λ_=>Xf (hR _),λ_=>⟨λ_=>?_,λhx=>by cases hx⟩⟩
   refine⟨λq=>∃p:Nat,q=(bl [43,45,95],p),λq=>3-q.2,⟨0,rfl⟩,?_⟩
   rintro q ⟨p,rfl⟩
   simp only[zos]
   refine⟨λhn=>⟨hn,hn,λ_=>hR _,λ_=>⟨⟨_,rfl⟩,?_⟩⟩,λ_=>hR _⟩
   have hp:p < [43,45,95].length:=by simpa using hn
   have O:p<3:=hp
   rw[zkg _ _ hp]
   have:=(Y5 (([43,45,95]:Bs).drop p)).1
   omega
  ·exact zhp (us:=[.string ⟨#[43,45,95]⟩,.int .i32 r]) rfl hR λw=>zq5 r w (by omega) h2
theorem zzo(w:World)(o1 o2:Obj):Below w.heap.size w ((w.alloc o1).alloc o2):=((Below.refl _ w).alloc (Ae _) o1).alloc (by show w.heap.size<=(w.heap.push o1).size;simp) o2
theorem zzp(l:Bs):(0:Int)<=((dec l).1:Int):=Int.natCast_nonneg _
theorem z7p(hl:l.length<=9){R:Bool->Prop}(h1:zqy l->R (l.any λc=>[43,45,95].contains c))(h2:¬zqy l->∀b,R b):PC Tp gl 172 [Arg.mk .str (bl l),Arg.mk .str (bl [43,45,95])] [.bool] R:=by
 have O:∀(j:Nat) (b:UInt8),([43,45,95]:Bs)[j]?=some b->b.toNat<128:=by
  intro j b hb
  have:b∈([43,45,95]:Bs):=Ct hb
  simp at this
  rcases this with rfl|rfl|rfl <;> decide
 by_cases ha:zqy l
 ·refine zi0 (s:=bl l) (c:=bl [43,45,95]) (by rw[zq];omega) (by rw[zq];decide) ?_ ?_ ?_
  ·rw[js];exact λj b hb=>ha b (Ct hb)
  ·rw[js];exact O
  ·rw[js,js,Xj];exact h1 ha
 ·have hb:=h2 ha
  apply Wg
  by_cases h8:l.length<=8
  ·apply zbn
   have e1:((bl [43,45,95]).toList==(⟨#[]⟩:Bt).toList)=false:=by rw[zta,js];rfl
   have e2:((((bl [43,45,95]).size:Int))==1)=false:=by rw[zq];rfl
   rw[e1,e2]
   refine⟨λhx=>(by cases hx),λ_=>⟨λhx=>(by cases hx),λ_ K hK=>?_⟩⟩
   apply Qh
   have e3:decide (((bl l).size:Int)>8)=false:=by rw[zq];simp;omega
   rw[e3]
   refine⟨λhx=>(by cases hx),λ_=>hK ?_⟩
   refine⟨λq=>∃p:Nat,q=(bl l,p),λq=>l.length-q.2,⟨0,rfl⟩,?_⟩
   rintro q ⟨p,rfl⟩
   simp only[zos]
   refine⟨λhn=>⟨hn,hn,?_⟩,λ_=>hb _⟩
   have hp:p<l.length:=by simpa using hn
   refine zo4 (by rw[zsp];exact zzp _) λn=>⟨λ_=>hb _,λ_=>⟨⟨_,rfl⟩,?_⟩⟩
   rw[zkg _ _ hp]
   have:=(Y5 (l.drop p)).1
   omega
  ·refine zhp (us:=[.string (bl l),.string (bl [43,45,95])]) rfl (λn=>hb _) λw=>?_
   have hz:=(zero_of_info (P:=Tp) (t:=163) (v:=.agg (Bc 256 (.bool false))) (n:=256) (by kernel_rfl)).1
   refine(J7 hz (bl l) (bl [43,45,95]) w (by rw[zq];decide) (by rw[zq];omega) (by rw[zq];omega) (by rw[zq];decide) O).mono ?_
   rintro e w' ⟨rfl,rfl⟩
   exact⟨⟨_,rfl⟩,zzo w _ _⟩
theorem zzq:(bif (bif (l==[])then true else decide ((l.length:Int)>9))then true else(bif (!(l==[48]))then((((l[0]?).getD 0).toNat:Int)==48)else false))=decide (l.length<1\/9<l.length\/(1<l.length/\l.head?=some 48)):=by
 match l with
 |[]=>simp
 |[c]=>
  rw[AJ,decide_eq_true_eq]
  by_cases hc:c=48
  ·subst hc;simp
  ·have:((c.toNat:Int)==48)=false:=by
    have:=J4 (c:=c) (n:=48) 48 rfl
    unfold bne at this
    rw[<-Bool.not_not ((c.toNat:Int)==48),this];simp[hc]
   show(bif (bif ([c]==[])then true else decide ((([c]:Bs).length:Int)>9))then true else(bif (!([c]==[48]))then((c.toNat:Int)==48)else false))=true↔_
   rw[this];simp
 |c::d::t=>
  have e:((c.toNat:Int)==48)=(c==48):=by
   have:=J4 (c:=c) (n:=48) 48 rfl
   unfold bne at this
   rw[<-Bool.not_not ((c.toNat:Int)==48),this,Bool.not_not]
  show(bif (bif ((c::d::t)==[])then true else decide (((c::d::t:Bs).length:Int)>9))then true else(bif (!((c::d::t)==[48]))then((c.toNat:Int)==48)else false))=_
  rw[e,AJ,decide_eq_true_eq]
  have O:¬(c::d::t:Bs).length<1:=by simp
  have Z:1<(c::d::t:Bs).length:=by simp
  have h1:((c::d::t:Bs)==[])=false:=rfl
  have h2:((c::d::t:Bs)==[48])=false:=by simp
  rw[h1,h2,cond_false,Bool.not_false,cond_true]
  generalize (c::d::t:Bs).length=n at *
  by_cases h9:9<n
  ·have:decide ((n:Int)>9)=true:=by simp;omega
   rw[this];simp[h9]
  ·have:decide ((n:Int)>9)=false:=by simp;omega
   rw[this,cond_false];simp[h9,O,Z]
theorem z3a(h:l.any (λc=>[43,45,95].contains c)=false):∀c,l.head?=some c->c.toNat≠43/\c.toNat≠45:=by
 intro c hc
 rw[List.any_eq_false]at h
 have:=h c (List.mem_of_head? hc)
 constructor
 ·intro e
  have:c=43:=Da.1 (by rw[e];rfl)
  subst this;exact absurd rfl ‹¬_›
 ·intro e
  have:c=45:=Da.1 (by rw[e];rfl)
  subst this;exact absurd rfl ‹¬_›
theorem zo5(h:l.all yq=true):zqy l/\(l.any λc=>[43,45,95].contains c)=false:=by
 rw[AP]at h
 constructor
 ·intro c hc
  have:=h c hc
  simp[yq]at this;omega
 ·rw[List.any_eq_false]
  intro c hc hm
  have h2:=h c hc
  simp[yq]at h2
  simp at hm
  rcases hm with rfl|rfl|rfl <;> revert h2 <;> decide
theorem zhq(hg:GL gl)(hl:l.length<=1048576){R:Int×Bool->Prop}(h:R (zc2 l)):PC Tp gl 145 [Arg.mk .str (bl l)] [.int .i64,.bool] R:=by
 apply ze2
 have ah:∀s:Bs,((bl s).toList==(⟨#[48]⟩:Bt).toList)=(s==[48]):=λs=>by rw[show(⟨#[48]⟩:Bt)=bl [48]from rfl,qaw,js]
 simp only[zq,Qw,show(0:Int).toNat=0 from rfl,zta,js,ah,zzq]
 refine⟨λhx=>⟨by omega,?_⟩,?_⟩
 ·simp at hx
  have:=A5.2 hx.1.1
  omega
 unfold zc2 at h
 by_cases O:l.length<1\/9<l.length\/(1<l.length/\l.head?=some 48)
 ·rw[if_pos O]at h
  rw[decide_eq_true O]
  exact⟨λ_=>True,λhx=>(by cases hx),λr _=>⟨λ_=>h,λhx=>by cases hx⟩⟩
 ·rw[if_neg O]at h
  rw[decide_eq_false O]
  refine⟨λb=>(l.all yq=true->b=false)/\(l.all yq=false->b=false->∀v,Lib.atoiAll l≠.ok v),λ_=>?_,λb hb=>?_⟩
  ·refine z7p (by omega) (λha=>⟨λhd=>(zo5 hd).2,λhd hf=>z7f hd (z3a hf)⟩) (λZ b=>⟨λhd=>absurd (zo5 hd).1 Z,λhd hf v=>z7g Z v⟩)
  ·obtain⟨ae,af⟩:=hb rfl
   refine⟨λhx=>?_,λhx=>?_⟩
   ·have aa:b=true:=by simpa using hx
    cases hd:l.all yq with
    |true=>rw[ae hd]at aa;cases aa
    |false=>rw[hd,if_neg (by simp)]at h;exact h
   ·have ac:b=false:=by simpa using hx
    refine z6s hg.err (s:=bl l) (by rw[zq];omega) ?_
    rw[js]
    unfold z6r
    cases hd:l.all yq with
    |true=>
     rw[z7e hd (by rintro rfl;simp at O) (by omega)]
     rw[hd,if_pos rfl]at h
     exact⟨λhx=>(by cases hx),λ_=>h⟩
    |false=>
     rw[hd,if_neg (by simp)]at h
     have:=af hd ac
     cases ha:Lib.atoiAll l with
     |ok v=>exact absurd ha (this v)
     |range=>exact⟨λ_=>h,λhx=>by cases hx⟩
     |_=>exact⟨λ_=>h,λhx=>by cases hx⟩
end
end Go.X
end
section
namespace Go.X
section
theorem z7q{gl:Fr}(hg:GL gl){v:Tr}{s:Bt}(hs:(lb s).length<=1048576){R:Int->Prop}(h:R (qo v s)):PC Tp gl 117 [Arg.mk .tree v,Arg.mk .str s] [.int .i64] R:=by
 apply zg6
 unfold qo at h
 refine⟨λh6=>?_,λh6=>⟨λh5=>?_,λh5=>?_⟩⟩
 ·have O:v.kind=6:=by simpa using h6
  rw[if_pos O]at h
  exact zam h
 ·have O:v.kind≠6:=by simpa using h6
  have Z:v.kind=5:=by simpa using h5
  rw[if_neg O,if_pos Z]at h
  have hi:=zhq hg (l:=lb s) hs (R:=λr=>r=zc2 (lb s)) rfl
  rw[W8]at hi
  refine hi.mono λr hr=>?_
  subst hr
  refine⟨λhx=>?_,λhx=>?_⟩
  ·rw[if_pos (by simpa using hx)]at h;exact h
  ·rw[if_neg (by simpa using hx)]at h;exact h
 ·have O:v.kind≠6:=by simpa using h6
  have Z:v.kind≠5:=by simpa using h5
  rw[if_neg O,if_neg Z]at h;exact h
end
end Go.X
end
section
namespace Go.X
open Go Go.Code
section
variable {ro:Option Nat} {n:Nat} {P:Program} {f:FuncId} {args:Array Value} {w:World} {o:Oper} {a:Act} {e:Env} {h:zb}
abbrev rf(ro:Option Nat):Fence:={ Fence.wide with round:=ro }
def zi7(K:Act->World->Prop):Exit->Act->World->Prop
 |.normal,a,w=>K a w
 |_,_,_=>False
theorem Jc{K:Act->World->Prop}:¬LetsOut (zi7 K):=λ⟨_,_,h⟩=>h
theorem z3b{R:Ending->World->Prop}(h:Calls P f args w R):CallsIn (rf ro) n P f args w R:=by
 have h1:CallsIn Fence.wide n P f args w R:=callsIn_wide.2 h
 exact h1
theorem z7r{row:String}{R:Value->World->Prop}(h:Rows P row args w R):RowsIn (rf ro) n P row args w R:=by
 have h1:RowsIn Fence.wide n P row args w R:=λc cs _=>let ⟨v,w',r,s⟩:=h c cs;⟨v,w',r,stepsIn_wide.2 s⟩
 exact h1
def y9(o:Oper):Bool:=match o.op with
 |.defer _=>false
 |_=>true
theorem zq6(h:y9 o=true):∀c,o.op≠.defer c:=by
 intro c e
 unfold y9 at h
 rw[e]at h;cases h
theorem qa2(hd:y9 o=true){K:Act->World->Prop}{Q:Exit->Act->World->Prop}(h:o.wp P a w K Q):o.wpIn (rf ro) n P a w K Q:=by
 refine⟨λ_ _=>trivial,?_⟩
 rw[Oper.semAt_eq _ _ _ (zq6 hd)]
 unfold Oper.wp at h
 generalize (execOp a.eval o).run P w=r at *
 cases r with
 |ok x w'=>
  cases x with
  |enter f args=>exact⟨λhx=>(by cases hx),z3b h⟩
  |row row args=>exact⟨λhx=>(by cases hx),z7r h⟩
  |value v=>exact h
  |skip=>exact h
  |defer d=>exact h
  |_=>exact h.elim
 |halt x w'=>cases x <;> first|exact h|exact h.elim
theorem zhr{ro:Option Nat}{n:Nat}{P:Program}{ops:Array Oper}{K:Act->World->Prop}{Q:Exit->Act->World->Prop}: ∀(l l2:List Oper) (a:Act) (w:World),l.all y9=true->wpList P ops (zi7 K) l a w->(∀a w,K a w->wpListIn (rf ro) n P ops Q l2 a w)->wpListIn (rf ro) n P ops Q (l++l2) a w
 |[],l2,a,w,_,h,hK=>hK a w h
 |o::l,l2,a,w,hd,h,hK=>by
  rw[DJ,AI]at hd
  rw[A3]
  unfold wpListIn
  unfold wpList at h
  by_cases hw:BN o (yielded ops a.tmps)=true
  ·rw[if_pos hw]at h ⊢
   rcases h with h|⟨_,h⟩
   ·have h1:=qa2 (ro:=ro) (n:=n) hd.1 h
    have h2:=Oper.wpIn_mono (λa w hq=>zhr l l2 a w hd.2 hq hK) h1
    refine⟨h2.1,?_⟩
    have h3:=h2.2
    revert h3
    generalize (o.semAt (rf ro).round a.eval).run P w=r
    cases r with
    |ok x w'=>
     cases x with
     |enter f args=>exact λh3=>⟨h3.1,CallsIn.mono h3.2 λe O he=>by cases e <;> first|exact he|exact he.elim|exact(Jc he).elim⟩
     |round l f tmps assign body=>exact λh3=>⟨h3.1,RoundIn.mono h3.2 λe O he=>by cases e <;> first|exact he|exact he.elim|exact(Jc he).elim⟩
     |_=>exact λh3=>h3
    |halt x w'=>cases x <;> first|exact λh3=>h3|exact λh3=>h3.elim
   ·exact(Jc h).elim
  ·rw[if_neg hw]at h ⊢
   exact⟨λ_ _=>trivial,zhr l l2 _ _ hd.2 h hK⟩
theorem ztj{ro:Option Nat}{n:Nat}{P:Program}{md:Region.Mode}{ops:Array Oper}{K:Act->World->Prop}(hd:∀(i:Nat) (o:Oper),ops[i]?=some o->y9 o=true):∀(fuel:Nat) (listed:Array Bool) (a:Act) (w:World),wpAny P md ops (zi7 K) fuel listed a w->wpAnyIn (rf ro) n P md ops (zi7 K) fuel listed a w
 |0,_,_,_,h=>h
 |fuel+1,listed,a,w,h=>by
  refine⟨h.1,λi hi=>?_⟩
  have h2:=h.2 i hi
  unfold wpOp at h2
  unfold wpOpIn
  split at h2
  ·rename_i ho
   rw[ho];exact ztj hd fuel _ _ _ h2
  ·rename_i o ho
   rw[ho]
   simp only
   by_cases hw:BN o (yielded ops a.tmps)=true
   ·rw[if_pos hw]at h2 ⊢
    rcases h2 with h2|⟨_,h2⟩
    ·exact Oper.wpIn_mono (λa w hq=>ztj hd fuel _ a w hq) (qa2 (hd i o ho) h2)
    ·exact(Jc h2).elim
   ·rw[if_neg hw]at h2 ⊢
    exact⟨λ_ _=>trivial,ztj hd fuel _ _ _ h2⟩
def zmr(D:List Deferred)(a:Act):Act:={ a with defers:=a.defers++D }
theorem qa3{D:List Deferred}{K:Act->World->Prop}{R:Act->World->Prop}(h:o.wp P a w K (zi7 R)):o.wp P (zmr D a) w (λa1 w1=>∃a0,a1=zmr D a0/\K a0 w1) (zi7 λa1 w1=>∃a0,a1=zmr D a0/\R a0 w1):=by
 unfold Oper.wp at h ⊢
 have he:(zmr D a).eval=a.eval:=rfl
 rw[he]
 have hp:∀d v,(zmr D a).put d v=zmr D (a.put d v):=λd v=>by cases d <;> rfl
 generalize (execOp a.eval o).run P w=r at *
 cases r with
 |ok x w'=>
  cases x with
  |enter f args=>exact Calls.mono h λe O he=>by cases e with
    |returned v=>exact⟨_,hp _ _,he⟩
    |panicked ch=>exact he
    |outgrown=>exact(Jc he).elim
  |row row args=>exact Rows.mono h λv O he=>⟨_,hp _ _,he⟩
  |value v=>exact⟨_,hp _ _,h⟩
  |skip=>exact⟨_,hp _ _,h⟩
  |defer d=>exact⟨(Act.put { a with defers:=d::a.defers } o.dst undef),(by cases o.dst <;> rfl),(show K (Act.put { a with defers:=d::a.defers } o.dst undef) w' from h)⟩
  |_=>exact h.elim
 |halt x w'=>cases x <;> first|exact h|exact h.elim
theorem zms{P:Program}{md:Region.Mode}{ops:Array Oper}{D:List Deferred}{K:Act->World->Prop}:∀(fuel:Nat) (listed:Array Bool) (a:Act) (w:World),wpAny P md ops (zi7 K) fuel listed a w->wpAny P md ops (zi7 λa1 w1=>∃a0,a1=zmr D a0/\K a0 w1) fuel listed (zmr D a) w
 |0,_,a,_,h=>⟨h.1,a,rfl,h.2⟩
 |fuel+1,listed,a,w,h=>by
  refine⟨λhn=>⟨a,rfl,h.1 hn⟩,λi hi=>?_⟩
  have h2:=h.2 i hi
  unfold wpOp at h2 ⊢
  have hy:yielded ops (zmr D a).tmps=yielded ops a.tmps:=rfl
  split at h2
  ·exact zms fuel _ _ _ h2
  ·rename_i o ho
   rw[hy]
   by_cases hw:BN o (yielded ops a.tmps)=true
   ·rw[if_pos hw]at h2 ⊢
    rcases h2 with h2|⟨_,h2⟩
    ·exact .inl (Oper.wp_mono (λa1 w1 ⟨a0,e,hq⟩=>by rw[e];exact zms fuel _ a0 w1 hq) (qa3 h2))
    ·exact(Jc h2).elim
   ·rw[if_neg hw]at h2 ⊢
    have hp:(zmr D a).put o.dst undef=zmr D (a.put o.dst undef):=by cases o.dst <;> rfl
    rw[hp]
    exact zms fuel _ _ _ h2
def YX(P:Program)(l:Nat)(args:Array Value)(h:zb)(K:Value->zb->Prop):Prop:=
 ∀(m:Nat) (B:World) (d:Nat),∃fn tmps assign body,(Instr.yield l args).run P (mk B d h)=.ok (.round l fn tmps assign body) (mk B d h) /\
  RoundIn (rf none) m P l fn tmps assign body (mk B d h) λe w'=>∃v d' h',e=.returned v/\w'=mk B d' h'/\K v h'
def qc4(o:Oper):Bool:=match o.op with
 |.call c=>match c.callee with
  |.value x=>!(Ji x)
  |_=>false
 |_=>false
def zo6:List Oper->Option (List Oper×Oper×List Oper)
 |[]=>none
 |o::l=>bif qc4 o then some ([],o,l)else match zo6 l with
  |some (pre,o',post)=>some (o::pre,o',post)
  |none=>none
theorem zzr{l:List Oper}:∀{pre O:List Oper} {o:Oper},zo6 l=some (pre,o,O)->l=pre++o::O:=by
 induction l with
 |nil=>intro pre O o h;cases h
 |cons x l ih=>
  intro pre O o h
  rw[zo6]at h
  cases hd:qc4 x with
  |true=>
   rw[hd,cond_true]at h
   have h:=Au h
   have h1:=congrArg Prod.fst h
   have h2:=congrArg (λq=>q.2.1) h
   have h3:=congrArg (λq=>q.2.2) h
   simp only at h1 h2 h3
   rw[<-h1,<-h2,<-h3];rfl
  |false=>
   rw[hd,cond_false]at h
   cases hs:zo6 l with
   |none=>rw[hs]at h;cases h
   |some q=>
    obtain⟨aa,o',Z⟩:=q
    rw[hs]at h
    have h:=Au h
    have h1:=congrArg Prod.fst h
    have h2:=congrArg (λq=>q.2.1) h
    have h3:=congrArg (λq=>q.2.2) h
    simp only at h1 h2 h3
    rw[ih hs,<-h1,<-h2,<-h3];rfl
def ztk(P:Program)(o:Oper)(e:Env)(h:zb)(K:Value->zb->Prop):Prop:=match o.op with
 |.call c=>match c.callee with
  |.value x=>match zac e [] x with
   |some (.func (.yield l) A C)=>bif (bif (Nat.beq A.size 0)then(Nat.beq C.size 0)else false)then(bif known e [] c.args.toList then YX P l (c.args.map (rho e [])) h λv h'=>typed P o.type v λv'=>K v' h' else False)else False
   |_=>False
  |_=>False
 |_=>False
theorem zo7{n m:Nat}{K:Value->zb->Prop}(H:ztk P o e h K)(hs:Sat n e a)(B:World)(d:Nat){next:Act->World->Prop}{Q:Exit->Act->World->Prop}
  (hn:∀v d' h',K v h'->next (a.put o.dst v) (mk B d' h')):o.wpIn (rf none) m P a (mk B d h) next Q:=by
 unfold ztk at H
 split at H
 ·rename_i c ho
  split at H
  ·rename_i x hx
   split at H
   ·rename_i l A C hl
    obtain⟨hA,hC,H⟩:A=#[]/\C=#[]/\(bif known e [] c.args.toList then YX P l (c.args.map (rho e [])) h λv h'=>typed P o.type v λv'=>K v' h' else False):=by
     cases h1:Nat.beq A.size 0 with
     |false=>rw[h1]at H;exact DI H
     |true=>
      cases h2:Nat.beq C.size 0 with
      |false=>rw[h1,h2]at H;exact DI H
      |true=>rw[h1,h2]at H;exact⟨Array.eq_empty_of_size_eq_zero (Ag h1),Array.eq_empty_of_size_eq_zero (Ag h2),H⟩
    subst hA;subst hC
    cases hk:known e [] c.args.toList with
    |false=>rw[hk]at H;exact DI H
    |true=>
     rw[hk]at H
     simp only[cond_true]at H
     obtain⟨fn,tmps,assign,body,h1,h2⟩:=H (m-1) B d
     have hv:a.eval x=.func (.yield l) #[] #[]:=ji hs (c:=[]) trivial hl
     have O:c.args.map a.eval=c.args.map (rho e []):=by
      apply Array.map_congr_left
      intro y hy
      exact xf hs (c:=[]) trivial hk y (by simpa using hy)
     have hr:(o.semAt (rf none).round a.eval).run P (mk B d h)=.ok (.round l fn tmps assign body) (mk B d h):=by
      show(execOp a.eval o).run P (mk B d h)=_
      simp only[execOp,ho,resolve,hx,hv,D7,Sem.run_bind,Sem.run_pure,Result.andThen_ok,invoke]
      rw[O]
      simpa using h1
     refine⟨λ_ _=>trivial,?_⟩
     rw[hr]
     refine⟨λhx=>(by cases hx),h2.mono ?_⟩
     rintro e' w' ⟨v,d',h',rfl,rfl,h3⟩
     exact hn _ _ _ (xy h3)
   ·exact DI H
  ·exact DI H
 ·exact DI H
def zq7(P:Program)(n:Nat)(tl:List (Nat×Nat))(id:Nat)(ops:Array Oper)(O:Bool)(K:Env->zb->Prop)(e:Env)(h:zb):Prop:=
 match zo6 ops.toList with
 |none=>regionF P n tl id ops O K e h
 |some (pre,o,post)=>bif O then False else bif (pre.all y9&&post.all y9)then(match o.guard with
  |none=>bif yc n [] o.dst then wR P n ops (λe1 h1=>ztk P o e1 h1 λv h2=>wR P n ops K post (putO e1 o.dst [] v) h2) pre e h else False
  |some _=>False)else False
theorem zmt(hm:P.follows .mixedOrders=true){tl:List (Nat×Nat)}{id:Nat}{ops:Array Oper}{Z:Bool}{K:Env->zb->Prop}
  (H:zq7 P n tl id ops Z K e h) (m:Nat) (B:World) (d:Nat) (hs:Sat n e a) {Q:Exit->Act->World->Prop}
  (hQ:∀e' a' d' h',Sat n e' a'->Same (yx ops.toList) a a'->K e' h'->Q .normal a' (mk B d' h')):(CX id ops Z).wpIn (rf none) m P Q a (mk B d h):=by
 unfold zq7 at H
 split at H
 ·exact wpIn_wide.2 (zb2 hm H B d hs hQ)
 ·rename_i pre o O aa
  have hl:=zzr aa
  cases Z with
  |true=>exact DI H
  |false=>
   simp only[cond_false]at H
   cases hnd:(pre.all y9&&O.all y9)with
   |false=>rw[hnd]at H;exact DI H
   |true=>
    rw[hnd]at H
    simp only[cond_true]at H
    rw[AI]at hnd
    split at H
    ·rename_i hg
     cases hd:yc n [] o.dst with
     |false=>rw[hd]at H;exact DI H
     |true=>
      rw[hd]at H
      simp only[cond_true]at H
      refine wpIn_region_list ?_
      have af:∀x∈yx pre,x∈yx ops.toList:=λx hx=>by rw[hl,Zn];exact Ao _ hx
      have ah:∀i,o.dst=some i->i∈yx ops.toList:=λi hi=>by rw[hl,Zn];exact AB _ (by simp[yx,hi])
      have ac:∀x∈yx O,x∈yx ops.toList:=λx hx=>by
       rw[hl,Zn]
       refine AB _ ?_
       unfold yx
       split
       ·exact Af _ hx
       ·exact hx
      rw[hl]
      refine zhr (K:=λa1 w1=>∃e1 d1 h1,w1=mk B d1 h1/\Sat n e1 a1/\Same (yx ops.toList) a a1/\ztk P o e1 h1 λv h2=>wR P n ops K O (putO e1 o.dst [] v) h2) pre (o::O) a _ hnd.1 (Jk B pre e h a d H hs λe' a' d' h' q1 q2 q3=>⟨e',d',h',rfl,q1,q2.mono af,q3⟩) ?_
      rintro a1 w1 ⟨e1,d1,h1,rfl,s1,m1,q1⟩
      unfold wpListIn
      have ae:BN o (yielded ops a1.tmps)=true:=by simp[BN,hg]
      rw[if_pos ae]
      refine zo7 q1 s1 B d1 λv d2 h2 q2=>?_
      have s2:Sat n (putO e1 o.dst [] v) (a1.put o.dst v):=s1.putO hd (λ_=>rfl) (λhv=>absurd trivial hv)
      rw[<-Ba O]
      refine zhr (K:=λa' w'=>Q .normal a' w') O [] _ _ hnd.2 (Jk B O _ _ _ _ q2 s2 λe' a' d' h' r1 r2 r3=>?_) λa w h=>h
      exact hQ e' a' d' h' r1 ((m1.trans (Same.put a1 o.dst v ah)).trans (r2.mono ac)) r3
    ·exact DI H
def WI(P:Program)(n:Nat)(pl:Plan):Code->zii->Env->zb->Prop
 |.skip,Q,e,h=>Q .normal e h
 |.ret,Q,e,h=>Q .ret e h
 |.exit id,Q,e,h=>Q (.exit id) e h
 |.label _,Q,e,h=>Q .normal e h
 |.goto l,Q,e,h=>Q (.goto l) e h
 |.region id ops draw,Q,e,h=>zq7 P n pl.tails id ops draw (λe h=>Q .normal e h) e h
 |.seq x y,Q,e,h=>match z1c pl.joins (j5 y)with
  |none=>WI P n pl x (zuc (λe h=>WI P n pl y Q e h) Q) e h
  |some J=>z9v J (λe h=>WI P n pl y Q e h) (λK=>WI P n pl x (zuc K Q) e h) (Wu (Qc x) e)
 |.cond c x y,Q,e,h=>match zac e [] c with
  |some (.bool b)=>(b=true->WI P n pl x Q e h)/\(b=false->WI P n pl y Q e h)
  |_=>False
 |.block id x,Q,e,h=>WI P n pl x (zr1 id Q) e h
 |.loop x,Q,e,h=>match z1c pl.loops (j5 x)with
  |some J=>z9w J (λQn e h=>WI P n pl x (zuc Qn Q) e h) (Wu (Qc x) e) e h
  |none=>False
 |_,_,_,_=>False
theorem z3c(hm:P.follows .mixedOrders=true){pl:Plan}:∀(c:Code) (Q:zii) (e:Env) (h:zb),WI P n pl c Q e h ->
  ∀(m:Nat) (B:World) (d:Nat) (a:Act),Sat n e a->c.wpIn (rf none) m P (z9x n B (Qc c) a Q) a (mk B d h):=by
 intro c
 induction c with
 |skip=>exact λQ e h H m B d a hs=>wpIn_skip ⟨e,d,h,rfl,hs,Same.refl _ _,H⟩
 |ret=>exact λQ e h H m B d a hs=>wpIn_ret ⟨e,d,h,rfl,hs,Same.refl _ _,H⟩
 |exit id=>exact λQ e h H m B d a hs=>wpIn_exit ⟨e,d,h,rfl,hs,Same.refl _ _,H⟩
 |label l=>exact λQ e h H m B d a hs=>wpIn_label ⟨e,d,h,rfl,hs,Same.refl _ _,H⟩
 |goto l=>exact λQ e h H m B d a hs=>wpIn_goto ⟨e,d,h,rfl,hs,Same.refl _ _,H⟩
 |region id ops az=>
  exact λQ e h H m B d a hs=>zmt hm H m B d hs λe' a' d' h' q1 q2 q3=>⟨e',d',h',rfl,q1,q2,q3⟩
 |seq x y Z aa=>
  intro Q e h H m B d a hs
  simp only[WI]at H
  have hl:∀i∈Qc x,i∈Qc (x.seq y):=λi hi=>Ao _ hi
  have hr:∀i∈Qc y,i∈Qc (x.seq y):=λi hi=>AB _ hi
  split at H
  ·refine wpIn_seq (wpIn_mono (Z _ _ _ H m B d a hs) ?_)
   rintro ex a1 w1 ⟨e1,d1,h1,rfl,s1,m1,q1⟩
   cases ex with
   |normal=>
    refine wpIn_mono (aa _ _ _ q1 m B d1 a1 s1) ?_
    rintro ex a2 w2 ⟨e2,d2,h2,rfl,s2,m2,q2⟩
    exact⟨e2,d2,h2,rfl,s2,(m1.mono hl).trans (m2.mono hr),q2⟩
   |_=>exact⟨e1,d1,h1,rfl,s1,m1.mono hl,q1⟩
  ·rename_i J hJ
   have H':=H (mkC (wo J) λvs=>λh=>WI P n pl y Q (Yc J vs++Wu (Qc x) e) h) (zla λvs h hq=>hq)
   refine wpIn_seq (wpIn_mono (Z _ _ _ H' m B d a hs) ?_)
   rintro ex a1 w1 ⟨e1,d1,h1,rfl,s1,m1,q1⟩
   cases ex with
   |normal=>
    obtain⟨vs,q,hv,hq,hk⟩:=zdj q1
    have am:=zk9 hq
    subst am
    have au:Sat n (Yc J vs++Wu (Qc x) e) a1:=zb3 hs s1.defers s1.size m1 (jy s1 hv)
    refine wpIn_mono (aa _ _ _ hk m B d1 a1 au) ?_
    rintro ex a2 w2 ⟨e2,d2,h2,rfl,s2,m2,q2⟩
    exact⟨e2,d2,h2,rfl,s2,(m1.mono hl).trans (m2.mono hr),q2⟩
   |_=>exact⟨e1,d1,h1,rfl,s1,m1.mono hl,q1⟩
 |cond c x y Z aa=>
  intro Q e h H m B d a hs
  simp only[WI]at H
  have hl:∀i∈Qc x,i∈Qc (EC c x y):=λi hi=>Ao _ hi
  have hr:∀i∈Qc y,i∈Qc (EC c x y):=λi hi=>AB _ hi
  split at H
  ·rename_i b hb
   refine wpIn_cond_split (ji hs (c:=[]) trivial hb) (λan=>?_) (λaj=>?_)
   ·refine wpIn_mono (Z _ _ _ (H.1 an) m B d a hs) ?_
    rintro ex a2 w2 ⟨e2,d2,h2,rfl,s2,m2,q2⟩
    exact⟨e2,d2,h2,rfl,s2,m2.mono hl,q2⟩
   ·refine wpIn_mono (aa _ _ _ (H.2 aj) m B d a hs) ?_
    rintro ex a2 w2 ⟨e2,d2,h2,rfl,s2,m2,q2⟩
    exact⟨e2,d2,h2,rfl,s2,m2.mono hr,q2⟩
  ·exact H.elim
 |block id x ih=>
  intro Q e h H m B d a hs
  refine wpIn_block (wpIn_mono (ih _ _ _ H m B d a hs) ?_)
  rintro ex a1 w1 ⟨e1,d1,h1,rfl,s1,m1,q1⟩
  cases ex with
  |exit i=>
   simp only[zr1]at q1
   simp only[Exit.inBlock]
   by_cases hb:Nat.beq i id=true
   ·rw[if_pos (Ag hb)]
    simp only[hb,cond_true]at q1
    exact⟨e1,d1,h1,rfl,s1,m1,q1⟩
   ·rw[if_neg (λhe=>hb (by rw[he];simp))]
    simp only[hb,cond_false]at q1
    exact⟨e1,d1,h1,rfl,s1,m1,q1⟩
  |_=>exact⟨e1,d1,h1,rfl,s1,m1,q1⟩
 |loop x ih=>
  intro Q e h H m B d a hs
  simp only[WI]at H
  split at H
  ·rename_i J hJ
   obtain⟨I,μ,h0,ac⟩:=H
   obtain⟨ap,p0,af,ay,ah⟩:=zdj h0
   let F:=zub (wo J) I μ
   let at_:Act->Option ((zb->Prop)×(zb->Nat)):=λa1=>(zad (λi=>some (zu a1 i)) J).bind λvs=>znt (wo J) vs F
   refine wpIn_loop (λa1 w1=>∃d1 h1 vs p,w1=mk B d1 h1/\a1.defers=[]/\a1.tmps.size=n/\Same (Qc x) a a1/\zad (λi=>some (zu a1 i)) J=some vs/\znt (wo J) vs F=some p/\p.1 h1)
    (λa1 w1=>match at_ a1 with|some p=>p.2 w1.heap|none=>0) ⟨d,h,ap,p0,rfl,hs.defers,hs.size,Same.refl _ _,jy hs af,ay,ah⟩ ?_
   rintro a1 w1 ⟨d1,h1,vs,p,rfl,ai,ax,O,hv,hp,hI⟩
   have s1:Sat n (Yc J vs++Wu (Qc x) e) a1:=zb3 hs ai ax O hv
   have hb:=zgf hp ac h1 hI
   refine wpIn_mono (ih _ _ _ hb m B d1 a1 s1) ?_
   rintro ex a2 w2 ⟨e2,d2,h2,rfl,s2,m2,q2⟩
   cases ex with
   |normal=>
    obtain⟨ar,q,ae,hq,al,ak⟩:=zdj q2
    refine⟨⟨d2,h2,ar,q,rfl,s2.defers,s2.size,O.trans m2,jy s2 ae,hq,al⟩,?_⟩
    have e1:at_ a1=some p:=by simp only[at_,hv,Ck];exact hp
    have e2:at_ a2=some q:=by simp only[at_,jy s2 ae,Ck];exact hq
    rw[e1,e2]
    exact ak
   |_=>exact⟨e2,d2,h2,rfl,s2,O.trans m2,q2⟩
  ·exact H.elim
 |_=>exact λQ e h H=>H.elim
def XCI(P:Program)(f:FuncId)(args:Array Value)(h:zb)(R:Value->zb->Prop):Prop:=
 ∀(m:Nat) (B:World) (d:Nat),CallsIn (rf none) m P f args (mk B d h) λe w'=>∃v d' h',e=.returned v/\w'=mk B d' h'/\R v h'
theorem zq8(hm:P.follows .mixedOrders=true)(pl:Plan)(vs:List Value){fn:Func}{rs:List ResultVar}(hf:P.funcs[f]?=some fn)(hb:Jo fn=true)(hr:fn.results.toList=rs)(hn:fn.ntmps=n)
  (hz:Nat.ble vs.length n=true) {R:Value->zb->Prop} (H:WI P n pl (codeOf fn) (qbk P rs R) (zwn 0 vs) h):XCI P f vs.toArray h R:=by
 have Z:fn.body=some (codeOf fn):=by
  unfold Jo at hb
  unfold codeOf
  split at hb
  ·rename_i c hc;rw[hc]
  ·cases hb
 intro m B d
 subst hn
 refine callsIn_of_wp hf Z trivial ?_ rfl
 have aa:vs.length<=fn.ntmps:=BM hz
 have hs:Sat fn.ntmps (zwn 0 vs) { tmps:=vs.toArray++Bc (fn.ntmps-vs.toArray.size) undef,defers:=[] }:=by
  refine⟨rfl,by simp;omega,?_⟩
  refine Xv vs.toArray _ vs 0 λj v hj=>?_
  have O:j<vs.length:=by
   rcases AR j vs.length with h|h
   ·exact h
   ·rw[Bj h]at hj;cases hj
  simp only[AD,Bi]
  rw[CB (by simpa using O)]
  simp[hj]
 refine wpIn_mono (z3c hm (codeOf fn) _ _ _ H m B d _ hs) ?_
 rintro ex a w ⟨e1,d1,h1,rfl,s1,m1,q1⟩
 cases ex with
 |normal=>
  obtain⟨v,hv,hq⟩:=Qq s1 hr q1
  exact⟨s1.defers,v,hq B d1,v,d1,h1,rfl,rfl,hv⟩
 |ret=>
  obtain⟨v,hv,hq⟩:=Qq s1 hr q1
  exact⟨s1.defers,v,hq B d1,v,d1,h1,rfl,rfl,hv⟩
 |_=>exact q1.elim
end
end Go.X
end
