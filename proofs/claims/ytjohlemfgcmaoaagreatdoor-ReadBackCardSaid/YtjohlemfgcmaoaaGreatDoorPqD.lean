/- A part of the proof: nothing is stated here for its own sake. -/
import Derived.Test.YtjohlemfgcmaoaaGreatDoorPqC
import Derived.Test.YtjohlemfgcmaoaaGreatDoorTie
import Derived.Test.YtjohlemfgcmaoaaGreatDoorCards
import Derived.PinnedBridge
import Derived.Lay
import Derived.HandedShaped
import Derived.Lib.MapLaws
open _root_.Go.Addr renaming add->Ai
open _root_.Array renaming getElem?_eq_getElem->A0,getElem?_eq_some_iff->Ad,getElem?_setIfInBounds_ne->AC,getElem?_setIfInBounds_self_of_lt->Cn,getElem?_toList->BP,replicate->Bn,size_push->Am
open _root_.BitVec renaming ofInt->Ao,ofInt_natCast->DI,toNat_ofNat->Ec
open _root_.Bool renaming and_eq_false_iff->Cz,and_eq_true->As,and_true->Dg,cond_true_left->Ca,eq_iff_iff->AJ,false_and->DG,false_eq_true->A5,false_or->Du,not_eq_true'->CY,or_eq_false_iff->BX,or_eq_true->Br,true_and->BZ
open _root_.Go.Builtin renaming append_->AB
open _root_.Classical renaming byContradiction->CO
open _root_.Go.Extern.AbiNoEscape renaming same->Ez
open _root_.Go.Instr renaming lookup->Ed,mapUpdate->CN,next->Dm,storeAt->An
open _root_.Int renaming toNat_natCast->Al
open _root_.Go.IntKind renaming bits->Ak,signed->Dj,wrap->Aa
open _root_.List renaming all_append->Ea,all_cons->C5,all_eq_true->AD,any_eq_true->DN,append_nil->A3,cons_append->AE,drop_drop->Bj,drop_eq_getElem_cons->Ba,drop_eq_nil_of_le->BL,drop_zero->Cc,eq_nil_of_length_eq_zero->AO,exists_cons_of_ne_nil->A9,getElem?_drop->AQ,getElem?_eq_getElem->Aq,getElem?_eq_some_iff->AF,getElem?_map->BN,getElem?_take->AL,getElem_mem->AN,getElem_of_mem->Cj,length->Cr,length_append->Ag,length_cons->Ap,length_drop->AI,length_eq_zero_iff->A7,length_map->AH,length_pos_iff->Bf,length_replicate->Da,length_take->Bb,map_append->BW,mem_append->Aw,mem_cons->Af,mem_filter->D5,mem_flatMap->CF,mem_of_getElem?->Bh,mem_range->Bw,mem_singleton->A6,nil_append->A8,nodup_append->CG,range->Cb,replicate->C8,singleton_append->Dw,take_append_drop->BQ,take_length->AW,take_of_length_le->Ct,take_succ_cons->C3,take_succ_eq_append_getElem->Av
open _root_.Nat renaming add_mul->BU,add_zero->CW,le_of_lt->DW,le_refl->Ac,le_trans->CV,lt_or_ge->A1,mod_eq_of_lt->DV,mul_comm->CJ,mul_le_mul_right->AP,mul_one->Cw,or_lt_two_pow->DC,pow_succ->DU,strongRecOn->Dt,sub_zero->Ee,zero_add->AK,zero_mul->Dp
open _root_.Option renaming map_eq_some_iff->Cs,map_some->D6
open _root_.Option.some renaming inj->Au,injEq->Ab
open _root_.Prod.mk renaming injEq->Be
open _root_.Go.Proofs.Tryz renaming func154->Es,func212->Eg,isAgg0->CX,isAgg181->En,isAgg21->Dq,isAgg3->Co,isAgg4->Cy,isAgg5->Cp,isAgg9->Cq,prog->AY,sizeOf0->CK,sizeOf181->Eh,sizeOf21->Df,sizeOf3->Ce,sizeOf4->Ck,sizeOf5->Cf,sizeOf9->Cg,underlying0->Cd,underlying181->C9,underlying21->CL,underlying3->Bo,underlying4->BD,underlying5->Bq,underlying9->Bm,zeroValue0->Ci,zeroValue21->CU,zeroValue3->BI,zeroValue4->BO,zeroValue5->BJ,zeroValue9->BK
open _root_.UInt8 renaming ofNat->A4,toNat_inj->D7
open _root_.Go.Utf8 renaming encode->Ep
open _root_.Go.Value renaming int->Ey,string->Bl
set_option linter.unusedVariables false
set_option maxRecDepth 100000
namespace Go.X
end Go.X
namespace Go.Proofs
end Go.Proofs
open Go Go.X Go.Proofs
section
namespace Go.X
section
variable {gl:Fr} {l s:Bs}
theorem qdu(c:UInt8):(((c.toNat:Int)).toNat).toUInt8=c:=by simp
theorem z8l{l sep:Bs}{p:UInt8->Bool}(hp:∀c,p c=true↔c∈sep)(hl:l.length<=4611686018427387904){R:Bt×Bt×Bool->Prop}(h:R (bl (cutAt p l).1,bl (cutAt p l).2.1,(cutAt p l).2.2)):
  PC Tp gl 139 [Arg.mk .str (bl l),Arg.mk .str (bl sep)] [.str,.str,.bool] R:=by
 apply zmj
 simp only[ze,yr,Zq]
 refine⟨λi=>∃k:Nat,i=k/\k<=l.length/\∀j (hj:j<l.length),j<k->p l[j]=false,λi=>l.length-i.toNat,⟨0,rfl,by omega,λj _ h=>by omega⟩,?_⟩
 rintro i ⟨k,rfl,hk,h2⟩
 refine⟨λhc=>?_,λhc=>?_⟩
 ·have Z:k<l.length:=by simpa using hc
  simp only[Al,zul Z]
  refine⟨by omega,X1 ?_⟩
  rw[qdu,yp]
  have hm:=(xq l[k] sep).2
  rw[Yk Z hl]
  refine⟨λhx=>⟨by omega,by omega,?_⟩,λhx=>⟨⟨k+1,rfl,by omega,λj hj ae=>?_⟩,by simp;omega⟩⟩
  ·have ab:p l[k]=true:=(hp _).2 (hm.1 (by simpa using hx))
   rw[zmv Z (λj hj=>h2 j (by omega) hj) ab]at h
   simp only[Al,Int.toNat_zero,Cc,Ee]
   rw[Ct (l:=l.drop (k+1)) (by simp)]
   exact h
  ·by_cases e:j=k
   ·subst e
    cases hpj:p l[j]with
    |false=>rfl
    |true=>exact absurd (hm.2 ((hp _).1 hpj)) (by simpa using hx)
   ·exact h2 j hj (by omega)
 ·have Z:¬k<l.length:=by simpa using hc
  rw[zaw (λc aa=>by
   obtain⟨j,hj,rfl⟩:=Cj aa
   exact h2 j hj (by omega))]at h
  exact h
theorem zk7{c:UInt8}{R:Bt×Bool->Prop}(h:R (bl (if l.head?==some c then l.tail else l),l.head?==some c)):PC Tp gl 138 [Arg.mk .str (bl l),Arg.mk .str (bl [c])] [.str,.bool] R:=by
 refine zpl ?_
 rw[yp,yp,zbd,zds];exact h
theorem zsk{c:UInt8}{R:Bt->Prop}(h:R (bl (if l.head?==some c then l.tail else l))):PC Tp gl 140 [Arg.mk .str (bl l),Arg.mk .str (bl [c])] [.str] R:=by
 refine zmt ?_
 rw[yp,yp,zbd];exact h
theorem zib{R:Bt->Prop}(h:R (bl (l.dropWhile (· == 48)))):PC Tp gl 76 [Arg.mk .str (bl l),Arg.mk .str (bl [48])] [.str] R:=by
 refine zsi (c:=48) (by decide) ?_
 rw[yp];exact h
theorem zxd(hl:l.length<=4611686018427387904){R:Bt->Prop}(h:R (bl (l.reverse.dropWhile (· == 48)).reverse)):PC Tp gl 77 [Arg.mk .str (bl l),Arg.mk .str (bl [48])] [.str] R:=by
 refine zpm (c:=48) (by decide) (by rw[ze];omega) ?_
 rw[yp];exact h
theorem qa3(hs:s.length<=4611686018427387904){R:(Bool×Bool×Bt×Bt×Bt)×Bool->Prop}
  (h1:zdq s=true->R (((zfy s).neg,(zfy s).low,bl (zfy s).whole,bl (zfy s).rest,bl (zfy s).exp),true)) (h2:zdq s=false->∀a b c d e,R ((a,b,bl c,bl d,bl e),false)):
  PC Tp gl 75 [Arg.mk .str (bl s)] [.pair .bool (.pair .bool (.pair .str (.pair .str .str))),.bool] R:=by
 apply zjm
 refine zk7 (c:=45) ?_
 dsimp only
 have hS:(zn2 s).length<=s.length:=by unfold zn2;split <;> simp
 have hM:=ze1 isE (zn2 s)
 refine z8l (l:=zn2 s) (sep:=[101,69]) (p:=isE) (λc=>by simp[isE]) (by omega) ?_
 dsimp only
 have au:(Zr s).1.length+(Zr s).2.1.length<=(zn2 s).length:=hM
 have tail:∀(e:Bs) (low:Bool),((Zr s).2.2=true->Ju (zi9 s)=true/\low=Q8 s/\e=zi9 s)->((Zr s).2.2=false->low=false/\e=[]) ->
   PC Tp gl 139 [Arg.mk .str (bl (Zr s).1),Arg.mk .str (bl [46])] [.str,.str,.bool] (λZ:Bt×Bt×Bool=>PC Tp gl 141 [Arg.mk .str Z.1] [.bool] (λae:Bool=>∃aj:Bool->Prop,(((!(!ae))&&Z.2.2)=true->PC Tp gl 141 [Arg.mk .str Z.2.1] [.bool] aj) /\
      ∀ah:Bool,(((!(!ae))&&Z.2.2)=true->aj ah)->((bif (!ae)then true else(bif Z.2.2 then(!ah)else false))=true->R ((s.head?==some 45,(low,(Z.1,(Z.2.1,bl e)))),false)) /\
      ((bif (!ae)then true else(bif Z.2.2 then(!ah)else false))=false->((!((Z.1:Bt).toList==((⟨#[48]⟩:Bt):Bt).toList))=true->(0<=(0:Int)/\(0:Int)<((Z.1).size:Int))) /\
       R ((s.head?==some 45,(low,(Z.1,(Z.2.1,bl e)))),bif ((Z.1:Bt).toList==((⟨#[48]⟩:Bt):Bt).toList)then true else((zb Z.1 (0:Int).toNat:Int) != 48))))):=by
  intro e low k1 k2
  have am:(!(Zr s).2.2||Ju (zi9 s))=true/\Q8 s=low/\(if(Zr s).2.2 then zi9 s else [])=e:=by
   cases hm:(Zr s).2.2 with
   |true=>obtain⟨a,b,c⟩:=k1 hm;exact⟨by simp[a],b.symm,by simp[c]⟩
   |false=>obtain⟨a,b⟩:=k2 hm;exact⟨rfl,by unfold Q8;rw[hm,a];rfl,by simp[b]⟩
  refine z8l (l:=(Zr s).1) (sep:=[46]) (p:=zh7) (λc=>by simp[zh7]) (by omega) ?_
  refine zdr ⟨λx=>Ju (Za s).2.1=x,λ_=>zdr rfl,λy hy=>?_⟩
  dsimp only
  simp only[show(⟨#[48]⟩:Bt)=bl [48]from rfl,zfx,ze,yr]
  change (_->Ju (Za s).2.1=y)at hy
  show((bif (!Ju (Za s).1)then true else(bif (Za s).2.2 then(!y)else false))=true->R ((s.head?==some 45,(low,(bl (Za s).1,(bl (Za s).2.1,bl e)))),false)) /\
      ((bif (!Ju (Za s).1)then true else(bif (Za s).2.2 then(!y)else false))=false->((!decide ((Za s).1=[48]))=true->(0<=(0:Int)/\(0:Int)<((Za s).1.length:Int))) /\
       R ((s.head?==some 45,(low,(bl (Za s).1,(bl (Za s).2.1,bl e)))),bif decide ((Za s).1=[48])then true else(((((Za s).1[(0:Int).toNat]?).getD 0).toNat:Int) != 48)))
  have an:Ju (Za s).1=true->(Za s).2.2=true->Ju (Za s).2.1=y:=λa b=>hy (by
   show((!(!Ju (Za s).1))&&(Za s).2.2)=true
   rw[a,b];rfl)
  refine⟨λhx=>h2 ?_ _ _ _ _ _,λhx=>⟨λ_=>?_,?_⟩⟩
  ·unfold zdq
   cases hd:Ju (Za s).1 with
   |false=>simp
   |true=>
    rw[hd]at hx
    cases hw:(Za s).2.2 with
    |false=>rw[hw]at hx;simp at hx
    |true=>
     rw[hw]at hx
     have:=an hd hw
     rw[this]
     simp at hx;simp[hx]
  all_goals
   have hd:Ju (Za s).1=true:=by
    cases hd:Ju (Za s).1 with
    |true=>rfl
    |false=>rw[hd]at hx;simp at hx
   have hp:=zun hd
  ·omega
  ·have h3:(!(Za s).2.2||Ju (Za s).2.1)=true:=by
    cases hw:(Za s).2.2 with
    |false=>rfl
    |true=>
     rw[hd,hw]at hx
     have:=an hd hw
     rw[this];simpa using hx
   have h4:(bif decide ((Za s).1=[48])then true else(((((Za s).1[(0:Int).toNat]?).getD 0).toNat:Int) != 48))=((Za s).1==[48]||(Za s).1.head? != some 48):=by
    rw[show(0:Int).toNat=0 from rfl,zum hp,Ca,AJ];simp
   have ai:zdq s=((Za s).1==[48]||(Za s).1.head? != some 48):=by
    unfold zdq;rw[am.1,hd,h3];simp
   rw[h4]
   cases ho:((Za s).1==[48]||(Za s).1.head? != some 48)with
   |true=>
    have:=h1 (ai.trans ho)
    unfold zfy at this
    rw[am.2.1,am.2.2]at this
    exact this
   |false=>exact h2 (ai.trans ho) _ _ _ _ _
 intro K hK
 refine⟨λhm=>?_,λhm=>?_⟩
 ·have af:(Zr s).2.2=true:=hm
  refine zk7 (c:=45) (l:=(Zr s).2.1) ?_
  dsimp only
  intro K2 ap
  have step:∀low e,low=Q8 s->e=zi9 s->K2 (bl e) (s.head?==some 45) low (bl []) (bl []) (bl []):=by
   intro low e ar ak
   refine ap _ _ _ _ _ _ (zdr ⟨λhx=>?_,λhx=>?_⟩)
   ·refine h2 ?_ _ _ [] [] []
    unfold zdq;rw[af,<-ak]
    have:Ju e=false:=by simpa using hx
    rw[this];rfl
   ·refine hK _ _ _ _ _ _ (tail e low (λ_=>⟨by rw[<-ak];simpa using hx,ar,ak⟩) λh=>by rw[af]at h;cases h)
  have ab:Q8 s=((Zr s).2.1.head?==some 45):=by unfold Q8;rw[af];rfl
  refine⟨λhx=>?_,λhx=>?_⟩
  ·have aa:((Zr s).2.1.head?==some 45)=false:=by simpa using hx
   rw[aa]
   refine zsk (c:=43) ?_
   simp only[A5,if_false]
   refine step false _ (by rw[ab,aa]) ?_
   unfold zi9;rw[ab,aa];simp
  ·have aa:((Zr s).2.1.head?==some 45)=true:=by simpa using hx
   rw[aa]
   simp only[if_true]
   refine step true _ (by rw[ab,aa]) ?_
   unfold zi9;rw[ab,aa];simp
 ·have af:(Zr s).2.2=false:=hm
  have he:(Zr s).2.1=[]:=(Jj af).2
  have:=tail [] false (λh=>by rw[af]at h;cases h) λ_=>⟨rfl,rfl⟩
  show K (bl (Zr s).2.1) _ _ _ _ _
  rw[he]
  exact hK _ _ _ _ _ _ this
theorem qdv{α β γ δ:Type}{B:α->β->γ->δ->Prop}{c:Bool}{a b:α}{x:β}{y:γ}{z:δ}(h:∀e,e=(bif c then a else b)->B e x y z):∀K:α->β->γ->δ->Prop,(∀e x y z,B e x y z->K e x y z)->(c=true->K a x y z)/\(c=false->K b x y z):=
 λK hK=>⟨λhc=>hK _ _ _ _ (h _ (by subst hc;rfl)),λhc=>hK _ _ _ _ (h _ (by subst hc;rfl))⟩
theorem w64{n:Int}(h:-4611686018427387904<=n/\n<=4611686018427387904):Aa .i64 n=n:=wrap64 (by omega) (by omega)
set_option maxHeartbeats 1000000 in
theorem zgm(hs:s.length<=1152921504606846976){R:(Bool×Bt×Int)×Int->Prop}(h:R (nmB (zi s).1,(zi s).2)):PC Tp gl 25 [Arg.mk .str (bl s)] [tN,.int .i64] R:=by
 apply zhy
 refine qa3 (by omega) (λai=>?_) (λai a b c d e=>?_)
 rotate_left
 ·refine zib ⟨λ_=>?_,λhx=>by cases hx⟩
  have:W6 s=none:=by unfold W6;simp[ai]
  unfold zi at h
  rw[this]at h;exact h
 ·have aa:W6 s=some (zfy s):=by unfold W6;simp[ai]
  have az:=zk6 aa
  obtain⟨d1,d2,d3⟩:=zia aa
  unfold zi at h
  rw[aa]at h
  simp only at h
  generalize zfy s=x at *
  refine zib ⟨λhx=>(by cases hx),λ_=>?_⟩
  simp only[ze]
  rw[w64 (by omega)]
  refine⟨λhx=>?_,λhx=>?_⟩
  ·rw[if_pos (by simp at hx;omega)]at h;exact h
  ·rw[if_neg (by simp at hx;omega)]at h
   refine⟨λab=>?_,λab=>?_⟩
   ·rw[if_pos (by simp at ab;omega)]at h;exact h
   ·rw[if_neg (by simp at ab;omega)]at h
    have ar:x.whole.length+x.rest.length<=1000:=by simp at hx;omega
    have aE:x.exp.all qi=true:=d3
    generalize hE:x.exp.dropWhile (· == 48)=E at *
    have ae:E.all qi=true:=by rw[<-hE];exact Wr d3
    have ay:E.length<=9:=by simp at ab;omega
    have aA:zh E<10 ^ 9:=X4 ay ae
    refine⟨λe _ _ _ p=>p.1=bl E/\p.2<=E.length/\e=(zh (E.take p.2):Int),λ_ _ _ _ p=>E.length-p.2,⟨rfl,by omega,by simp[zh]⟩,?_⟩
    rintro e b1 b2 b3 ⟨_,p⟩ ⟨rfl,hp,rfl⟩
    simp only at hp ⊢
    rw[zpo,zpp]
    refine⟨λhc=>⟨hc,?_⟩,λhc=>?_⟩
    ·have Z:p<E.length:=by simpa using hc
     have hd:=z8k ae Z
     have an:E.drop p=E[p]::E.drop (p+1):=Ba Z
     rw[zh5 E p Z,an,Q7 (by omega)]
     have aB:=X4 (n:=9) (l:=E.take p) (by simp;omega) (zuo ae p)
     rw[Xz (by omega) (by omega),w64 (n:=10*_) (by omega),w64 (n:=(_:Int)-48) (by omega),w64 (by omega)]
     simp only
     refine⟨⟨trivial,by omega,?_⟩,by omega⟩
     rw[zh9 Z];omega
    ·have Z:¬p<E.length:=by simpa using hc
     have au:p=E.length:=by omega
     subst au
     rw[AW]
     apply qdv
     intro e7 ax
     refine⟨by unfold Zw;omega,?_⟩
     rw[xp]
     refine zib ?_
     rw[show(⟨#[]⟩:Bt)=bl []from rfl]
     simp only[zfx]
     have hD:(x.whole++x.rest).all qi=true:=by rw[Ea,Yv d1,d2];rfl
     refine⟨λaf=>?_,λaf=>?_⟩
     ·rw[if_pos (by simpa using af)]at h;exact h
     ·have aj:(x.whole++x.rest).dropWhile (· == 48)≠[]:=by simpa using af
      rw[if_neg aj]at h
      have ap:=xr (x.whole++x.rest) (· == 48)
      rw[Ag]at ap
      refine zxd (by omega) ?_
      have aC:=(zdt hD aj).2.1
      have am:=zk5 hD aj (by rw[Ag];exact ar)
      simp only[ze,show((List.dropWhile (λx=>x==48) (x.whole++x.rest)).reverse.dropWhile (λx=>x==48)).reverse=yz (x.whole++x.rest)from rfl]
      have ak:e7=if x.low then-(zh E:Int)else(zh E:Int):=by rw[ax];cases x.low <;> simp;exact w64 (by omega)
      have hb:-1000000000<=e7/\e7<=1000000000:=by rw[ak];split <;> omega
      rw[w64 (n:=e7-_) (by omega),w64 (n:=e7-_+_) (by omega),w64 (by omega)]
      refine zmw (n:=(x.neg,yz (x.whole++x.rest),e7-(x.rest.length:Int)+(((x.whole++x.rest).dropWhile (· == 48)).length:Int)-((yz (x.whole++x.rest)).length:Int))) (by simp only;omega) ?_
      rw[am]
      change R (nmB (if -1000000<=(if x.low=true then-(zh E:Int)else(zh E:Int))-(x.rest.length:Int)+(((x.whole++x.rest).dropWhile (· == 48)).length:Int)-((yz (x.whole++x.rest)).length:Int)/\(if x.low=true then-(zh E:Int)else(zh E:Int))-(x.rest.length:Int)+(((x.whole++x.rest).dropWhile (· == 48)).length:Int)-((yz (x.whole++x.rest)).length:Int)<=1000000 then((x.neg,yz (x.whole++x.rest),(if x.low=true then-(zh E:Int)else(zh E:Int))-(x.rest.length:Int)+(((x.whole++x.rest).dropWhile (· == 48)).length:Int)-((yz (x.whole++x.rest)).length:Int)),0)else((false,[],0),4)).1,_)at h
      rw[<-ak]at h
      refine⟨λah=>?_,λah=>?_⟩
      ·rw[if_neg (by simp at ah;omega)]at h;exact h
      ·rw[if_pos (by simp at ah;omega)]at h;exact h
end
section
variable {gl:Fr}
theorem z0i{a b:Bs}(h:a.length+b.length<=4611686018427387904):Zw ((bl a).size+(bl b).size):=by
 unfold Zw;rw[ze,ze];omega
theorem zsl(hg:Pow gl){n:Nm}(hn:n.2.1.length<=4611686018427387904){R:Bt->Prop}(h:R (bl (qz n))):PC Tp gl 26 [Arg.mk tN (nmB n)] [.str] R:=by
 apply zjh
 refine zmw hn ⟨λhx=>?_,λhx=>?_⟩
 ·have:yy n=false:=by simpa using hx
  have e:qz n=[]:=by unfold qz;simp[this]
  rw[e]at h;exact h
 ·have hr:yy n=true:=by simpa using hx
  obtain⟨hl,af,ab⟩:=zb5 hr
  unfold qz at h
  rw[if_pos hr]at h
  simp only[show(⟨#[]⟩:Bt)=bl []from rfl,zfx]
  refine⟨λaa=>?_,λaa=>?_⟩
  ·rw[if_pos (by simpa using aa)]at h;exact h
  ·rw[if_neg (by simpa using aa)]at h
   intro K hK
   have key:∀t:Bs,t=(if n.1 then [45]else [])++n.2.1->K (bl t):=by
    intro t ht
    have ae:t.length<=1001:=by rw[ht];split <;> simp <;> omega
    rw[<-ht]at h
    refine hK _ ⟨λZ=>?_,λZ=>?_⟩
    ·rw[if_neg (by simpa using Z)]at h
     have ah:=Go.X.itoa_len n.2.2
     refine z0h hg (by omega) (by omega) ?_
     refine⟨z0i (a:=[101]) (by simp;omega),?_⟩
     rw[show(⟨#[101]⟩:Bt)=bl [101]from rfl,xp,xp]
     exact⟨z0i (by simp;omega),h⟩
    ·rw[if_pos (by simpa using Z),A3]at h;exact h
   refine⟨λZ=>⟨z0i (a:=[45]) (by simp;omega),?_⟩,λZ=>?_⟩
   ·rw[show(⟨#[45]⟩:Bt)=bl [45]from rfl,xp]
    exact key _ (by rw[if_pos (by simpa using Z)])
   ·exact key _ (by rw[if_neg (by simpa using Z)];rfl)
theorem qgp(hg:Pow gl){n:Int}(h1:-9223372036854775808<=n)(h2:n<=9223372036854775807){R:Bool×Bt×Int->Prop}(h:R (nmB (zi (Lib.itoa n)).1)):PC Tp gl 110 [Arg.mk (.int .i64) n] [tN] R:=by
 apply zpi
 refine z0h hg h1 h2 (zgm ?_ h)
 have:=Go.X.itoa_len n
 have Z:∀u:Nat,u<10 ^ 20->(Lib.decDigits u).length<=20:=by
  have:∀(k u:Nat),u<10 ^ (k+1)->(Lib.decDigits u).length<=k+1:=by
   intro k
   induction k with
   |zero=>intro u hu;rw[Lib.decDigits,dif_pos (by simpa using hu)];simp
   |succ k ih=>
    intro u hu
    rw[Lib.decDigits]
    split
    ·simp
    ·have:=ih (u / 10) (by rw[DU]at hu;omega)
     simp;omega
  exact this 19
 have:(Lib.itoa n).length<=21:=by
  unfold Lib.itoa
  split
  ·have:=Z n.natAbs (by omega);simp;omega
  ·have:=Z n.toNat (by omega);omega
 omega
end
section
theorem zup{c:UInt8}{n:Int}(d:UInt8)(hn:n=(d.toNat:Int)):((c.toNat:Int) != n)=!(c==d):=by
 subst hn
 rw[AJ]
 simp only[bne_iff_ne,ne_eq,Int.natCast_inj,CY,beq_eq_false_iff_ne]
 exact⟨λh e=>h (by rw[e]),λh e=>h (D7.1 e)⟩
end
section
theorem qdw{n:Int}(h1:0<=n)(h2:n<256):Aa .u8 n=n:=by
 unfold Aa
 have e:(2:Int) ^ Ak .u8=256:=by decide
 simp only[e]
 have hs:Dj .u8=false:=rfl
 simp only[hs,DG,A5,if_false]
 omega
end
end Go.X
end
section
namespace Go.X
open Go Go.Lib
section
variable {a b b0 b1 b2 b3 b4 b5 b6 b7:Nat}
theorem z0j(l:Bs)(a:Nat):l.foldl (λn c=>10*n+(c.toNat-48)) a=a*10 ^ l.length+zh l:=by
 induction l generalizing a with
 |nil=>simp[zh]
 |cons c t ih=>
  simp only[List.foldl_cons,Ap,zh]
  rw[ih,ih (10*0+(c.toNat-48)),DU]
  have:(10*a+(c.toNat-48))*10 ^ t.length=a*(10 ^ t.length*10)+(c.toNat-48)*10 ^ t.length:=by
   rw[BU,CJ 10 a,Nat.mul_assoc,CJ 10 (10 ^ t.length)]
  rw[this];simp;omega
theorem Ws(a b:Bs):zh (a++b)=zh a*10 ^ b.length+zh b:=by
 rw[zh,List.foldl_append,z0j];rfl
theorem zpr(n:Nat):zh (C8 n 48)=0:=by
 induction n with
 |zero=>rfl
 |succ n ih=>rw[List.replicate_succ];exact ih
theorem zps:∀(l:Bs) (acc:Nat),l.all qi=true->acc*10 ^ l.length+zh l<10 ^ 19->parseUintM (2 ^ 64-1) acc l=.ok (acc*10 ^ l.length+zh l)
 |[],acc,_,_=>by simp[parseUintM,zh]
 |c::t,acc,hd,hl=>by
  rw[C5,As]at hd
  have hc:48<=c.toNat/\c.toNat<=57:=by simpa[qi]using hd.1
  have e:zh (c::t)=(c.toNat-48)*10 ^ t.length+zh t:=by
   have:=Ws [c] t
   rw[Dw]at this
   rw[this];simp[zh]
  have e2:(acc*10+(c.toNat-48))*10 ^ t.length+zh t=acc*10 ^ (c::t).length+zh (c::t):=by
   rw[e,Ap,DU,BU,Nat.mul_assoc,CJ 10 (10 ^ t.length)];omega
  have hp:1<=10 ^ t.length:=Nat.one_le_pow _ _ (by decide)
  have hb:acc*10+(c.toNat-48)<=acc*10 ^ (c::t).length+zh (c::t):=by
   rw[<-e2]
   calc acc*10+(c.toNat-48)=(acc*10+(c.toNat-48))*1:=by omega
    _<=(acc*10+(c.toNat-48))*10 ^ t.length:=Nat.mul_le_mul_left _ hp
    _<=_:=by omega
  rw[parseUintM,if_pos hc,if_neg (by omega),if_neg (by omega),zps t _ hd.2 (by rw[e2];exact hl),e2]
def Jk(n:Nm):Bs:=n.2.1++C8 n.2.2.toNat 48
theorem zxe(n:Nm):zh (Jk n)=zh n.2.1*10 ^ n.2.2.toNat:=by
 rw[Jk,Ws,zpr,Da,CW]
theorem zsm{n:Nm}(h:yy n=true):n.2.1.all qi=true:=by
 unfold yy X3 at h
 rcases Br _ _ ▸ h with h|h
 ·simp at h;rw[h.2.1];rfl
 ·simp only[As]at h;exact Yv h.1.1.1.1.1
theorem zxf{n:Nm}(h:yy n=true):(Jk n).all qi=true:=by
 rw[Jk,Ea,zsm h,BZ,AD]
 intro x hx
 rw[List.mem_replicate]at hx
 rw[hx.2];rfl
theorem z0k{l:Bs}(neg:Bool)(hd:l.all qi=true)(hl:l.length<=19)(Z:l≠[]):
  parseIntB 64 ((if neg then [45]else [])++l)=if neg then(if zh l<=9223372036854775808 then .ok (-(zh l:Int))else .range)else(if zh l<=9223372036854775807 then .ok (zh l:Int)else .range):=by
 have hv:zh l<10 ^ 19:=X4 hl hd
 have hp:=zps l 0 hd (by rw[Dp];omega)
 rw[Dp,AK]at hp
 cases neg with
 |true=>
  simp only[if_true,Dw]
  unfold parseIntB
  simp only[show(45:UInt8).toNat=45 from rfl,or_true,if_true]
  unfold parseUintB
  rw[if_neg Z,hp]
  simp only[not_true_eq_false,false_and,if_false,true_and]
  split
  ·rename_i h;rw[if_neg (by omega)]
  ·rename_i h;rw[if_pos (by omega)]
 |false=>
  simp only[A5,if_false,A8]
  obtain⟨c,t,rfl⟩:=A9 Z
  have hc:48<=c.toNat/\c.toNat<=57:=by
   rw[C5,As]at hd
   simpa[qi]using hd.1
  unfold parseIntB
  simp only
  rw[if_neg (by omega)]
  unfold parseUintB
  rw[if_neg (by simp),hp]
  have aa:¬c.toNat=45:=by omega
  simp only[aa,not_false_eq_true,true_and,false_and,if_false]
  split
  ·rename_i h;rw[if_neg (by omega)]
  ·rename_i h;rw[if_pos (by omega)]
theorem z0l(ha:a<18446744073709551616)(hb:b<18446744073709551616):Aa .u64 (((Ao (Ak .u64) (a:Int)) ||| (Ao (Ak .u64) (b:Int))).toNat:Int)=((a ||| b:Nat):Int):=by
 have Z:Ak .u64=64:=rfl
 have e:((Ao (Ak .u64) (a:Int)) ||| (Ao (Ak .u64) (b:Int))).toNat=a ||| b:=by
  rw[BitVec.toNat_or,DI,DI,Ec,Ec,Z,DV (by omega),DV (by omega)]
 rw[e]
 have aa:a ||| b<2 ^ 64:=DC (by omega) (by omega)
 unfold Aa
 have e1:(2:Int) ^ Ak .u64=18446744073709551616:=by decide
 simp only[e1]
 have hs:Dj .u64=false:=rfl
 simp only[hs,DG,A5,if_false]
 omega
theorem z5o(ha:a<18446744073709551616)(hb:b<18446744073709551616):Aa .u64 (((Ao (Ak .u64) (a:Int)) &&& (Ao (Ak .u64) (b:Int))).toNat:Int)=((a &&& b:Nat):Int):=by
 have Z:Ak .u64=64:=rfl
 have e:((Ao (Ak .u64) (a:Int)) &&& (Ao (Ak .u64) (b:Int))).toNat=a &&& b:=by
  rw[BitVec.toNat_and,DI,DI,Ec,Ec,Z,DV (by omega),DV (by omega)]
 rw[e]
 have aa:a &&& b<2 ^ 64:=Nat.and_lt_two_pow _ (by omega)
 unfold Aa
 have e1:(2:Int) ^ Ak .u64=18446744073709551616:=by decide
 simp only[e1]
 have hs:Dj .u64=false:=rfl
 simp only[hs,DG,A5,if_false]
 omega
theorem z0m{n:Int}(h1:0<=n)(h2:n<18446744073709551616):Aa .u64 n=n:=by
 unfold Aa
 have e1:(2:Int) ^ Ak .u64=18446744073709551616:=by decide
 simp only[e1]
 have hs:Dj .u64=false:=rfl
 simp only[hs,DG,A5,if_false]
 omega
theorem X5{n:Nat}(h:n<256):n.testBit 7=false↔n<128:=by
 rw[Nat.testBit_eq_decide_div_mod_eq]
 simp;omega
def MASK:Nat:=9259542123273814144
theorem z5p:∀i,i<8->MASK.testBit (8*i+7)=true:=by decide
theorem z5q{w:Nat}(h:w &&& MASK=0):∀i,i<8->w.testBit (8*i+7)=false:=by
 intro i hi
 have:=congrArg (λx=>x.testBit (8*i+7)) h
 simp only[Nat.testBit_and,z5p i hi,Dg,Nat.zero_testBit]at this
 exact this
def z0n(b0 b1 b2 b3 b4 b5 b6 b7:Nat):Nat:=((((((b0 ||| b1*2 ^ 8) ||| b2*2 ^ 16) ||| b3*2 ^ 24) ||| b4*2 ^ 32) ||| b5*2 ^ 40) ||| b6*2 ^ 48) ||| b7*2 ^ 56
theorem qdx(b k j:Nat):(b*2 ^ k).testBit j=(decide (k<=j)&&b.testBit (j-k)):=by
 rw[Nat.testBit_mul_two_pow]
theorem zxg{j:Nat}:(z0n b0 b1 b2 b3 b4 b5 b6 b7).testBit j=(b0.testBit j||(decide (8<=j)&&b1.testBit (j-8))||(decide (16<=j)&&b2.testBit (j-16))||(decide (24<=j)&&b3.testBit (j-24))||(decide (32<=j)&&b4.testBit (j-32))||(decide (40<=j)&&b5.testBit (j-40))||(decide (48<=j)&&b6.testBit (j-48))||(decide (56<=j)&&b7.testBit (j-56))):=by
 unfold z0n
 simp only[Nat.testBit_or,qdx]
theorem zsn(h:∀i,i<8->(z0n b0 b1 b2 b3 b4 b5 b6 b7).testBit (8*i+7)=false)(r0:b0<256)(r1:b1<256)(r2:b2<256)(r3:b3<256)(r4:b4<256)(r5:b5<256)(r6:b6<256)(r7:b7<256):
  b0<128/\b1<128/\b2<128/\b3<128/\b4<128/\b5<128/\b6<128/\b7<128:=by
 have h0:=h 0 (by decide);have h1:=h 1 (by decide);have h2:=h 2 (by decide);have h3:=h 3 (by decide)
 have h4:=h 4 (by decide);have h5:=h 5 (by decide);have h6:=h 6 (by decide);have h7:=h 7 (by decide)
 rw[zxg]at h0 h1 h2 h3 h4 h5 h6 h7
 simp only[BX,Cz]at h0 h1 h2 h3 h4 h5 h6 h7
 refine⟨(X5 r0).1 ?_,(X5 r1).1 ?_,(X5 r2).1 ?_,(X5 r3).1 ?_,(X5 r4).1 ?_,(X5 r5).1 ?_,(X5 r6).1 ?_,(X5 r7).1 ?_⟩
 ·exact h0.1.1.1.1.1.1.1
 ·rcases h1.1.1.1.1.1.1.2 with h|h
  ·simp at h
  ·simpa using h
 ·rcases h2.1.1.1.1.1.2 with h|h
  ·simp at h
  ·simpa using h
 ·rcases h3.1.1.1.1.2 with h|h
  ·simp at h
  ·simpa using h
 ·rcases h4.1.1.1.2 with h|h
  ·simp at h
  ·simpa using h
 ·rcases h5.1.1.2 with h|h
  ·simp at h
  ·simpa using h
 ·rcases h6.1.2 with h|h
  ·simp at h
  ·simpa using h
 ·rcases h7.2 with h|h
  ·simp at h
  ·simpa using h
theorem zfm{l:Bs}:∀{n:Nat},n<=l.length->(∀i (hi:i<l.length),i<n->l[i].toNat<128)->jd l=jd (l.drop n)
 |0,_,_=>by simp
 |n+1,hn,h=>by
  rw[zfm (n:=n) (by omega) (λi hi Z=>h i hi (by omega))]
  rw[Ba (show n<l.length by omega),zk4 (h n (by omega) (by omega))]
end
end Go.X
end
section
namespace Go.X
section
variable {gl:Fr} {l:Bs}
def bN(l:Bs)(i:Nat):Nat:=(l[i]?.getD 0).toNat
theorem Jl(l:Bs)(i:Nat):bN l i<256:=(l[i]?.getD 0).toNat_lt
theorem zuq(l:Bs)(i:Nat):zb (bl l) i=((bN l i:Nat):Int):=yr l i
def Qc(l:Bs):Nat:=z0n (bN l 0) (bN l 1) (bN l 2) (bN l 3) (bN l 4) (bN l 5) (bN l 6) (bN l 7)
theorem yu(l:Bs):Qc l<18446744073709551616:=by
 have h:=Jl l
 have o:∀a b:Nat,a<2 ^ 64->b<2 ^ 64->a ||| b<2 ^ 64:=λa b ha hb=>DC ha hb
 show _<2 ^ 64
 unfold Qc z0n
 refine o _ _ (o _ _ (o _ _ (o _ _ (o _ _ (o _ _ (o _ _ ?_ ?_) ?_) ?_) ?_) ?_) ?_) ?_
 ·have:=h 0;omega
 ·have:=h 1;omega
 ·have:=h 2;omega
 ·have:=h 3;omega
 ·have:=h 4;omega
 ·have:=h 5;omega
 ·have:=h 6;omega
 ·have:=h 7;omega
theorem zb7(a k:Nat)(c:Int)(hc:c=((2 ^ k:Nat):Int)):(a:Int)*c=((a*2 ^ k:Nat):Int):=by rw[hc];omega
theorem zb8(hl:8<=l.length){R:Int->Prop}(h:R (Qc l:Int)):PC Tp gl 217 [Arg.mk .str (bl l)] [.int .u64] R:=by
 apply Q6
 refine⟨λhx=>(by cases hx),λ_=>?_⟩
 simp only[ze,zuq,show(0:Int).toNat=0 from rfl,show(1:Int).toNat=1 from rfl,show(2:Int).toNat=2 from rfl,show(3:Int).toNat=3 from rfl,show(4:Int).toNat=4 from rfl,show(5:Int).toNat=5 from rfl,show(6:Int).toNat=6 from rfl,show(7:Int).toNat=7 from rfl]
 refine⟨by omega,by omega,by omega,by omega,by omega,by omega,by omega,by omega,?_⟩
 have r:=Jl l
 have r0:=r 0;have r1:=r 1;have r2:=r 2;have r3:=r 3;have r4:=r 4;have r5:=r 5;have r6:=r 6;have r7:=r 7
 have m1:=zb7 (bN l 1) 8 (2 ^ 8) (by decide);have m2:=zb7 (bN l 2) 16 (2 ^ 16) (by decide);have m3:=zb7 (bN l 3) 24 (2 ^ 24) (by decide);have m4:=zb7 (bN l 4) 32 (2 ^ 32) (by decide)
 have m5:=zb7 (bN l 5) 40 (2 ^ 40) (by decide);have m6:=zb7 (bN l 6) 48 (2 ^ 48) (by decide);have m7:=zb7 (bN l 7) 56 (2 ^ 56) (by decide)
 have o:∀a b:Nat,a<18446744073709551616->b<18446744073709551616->a ||| b<18446744073709551616:=λa b ha hb=>DC (n:=64) ha hb
 have w:∀n:Nat,n<18446744073709551616->Aa .u64 (n:Int)=(n:Int):=λn hn=>z0m (by omega) (by omega)
 rw[w (bN l 0) (by omega),w (bN l 1) (by omega),w (bN l 2) (by omega),w (bN l 3) (by omega),w (bN l 4) (by omega),w (bN l 5) (by omega),w (bN l 6) (by omega),w (bN l 7) (by omega),m1,m2,m3,m4,m5,m6,m7]
 rw[w (bN l 1*2 ^ 8) (by omega),w (bN l 2*2 ^ 16) (by omega),w (bN l 3*2 ^ 24) (by omega),w (bN l 4*2 ^ 32) (by omega),w (bN l 5*2 ^ 40) (by omega),w (bN l 6*2 ^ 48) (by omega),w (bN l 7*2 ^ 56) (by omega)]
 have q1:bN l 0 ||| bN l 1*2 ^ 8<18446744073709551616:=o _ _ (by omega) (by omega)
 have q2:=o _ (bN l 2*2 ^ 16) q1 (by omega)
 have q3:=o _ (bN l 3*2 ^ 24) q2 (by omega)
 have q4:=o _ (bN l 4*2 ^ 32) q3 (by omega)
 have q5:=o _ (bN l 5*2 ^ 40) q4 (by omega)
 have q6:=o _ (bN l 6*2 ^ 48) q5 (by omega)
 rw[z0l (by omega) (by omega),z0l q1 (by omega),z0l q2 (by omega),z0l q3 (by omega),z0l q4 (by omega),z0l q5 (by omega),z0l q6 (by omega)]
 exact h
theorem Zs(hl:8<=l.length)(h:Qc l &&& MASK=0):jd l=jd (l.drop 8):=by
 have hs:=zsn (z5q h) (Jl l 0) (Jl l 1) (Jl l 2) (Jl l 3) (Jl l 4) (Jl l 5) (Jl l 6) (Jl l 7)
 refine zfm hl λi hi aa=>?_
 have e:∀j (hj:j<l.length),bN l j=l[j].toNat:=λj hj=>by unfold bN;rw[zul hj]
 obtain⟨s0,s1,s2,s3,s4,s5,s6,s7⟩:=hs
 have Z:i=0\/i=1\/i=2\/i=3\/i=4\/i=5\/i=6\/i=7:=by omega
 rw[<-e i hi]
 rcases Z with rfl|rfl|rfl|rfl|rfl|rfl|rfl|rfl <;> assumption
theorem zmx{a b:Nat}(h:(a ||| b) &&& MASK=0):a &&& MASK=0/\b &&& MASK=0:=by
 have key:∀x y:Nat,x ||| y=0->x=0:=by
  intro x y Z
  apply Nat.eq_of_testBit_eq
  intro i
  have:=congrArg (λz=>z.testBit i) Z
  simp only[Nat.testBit_or,Nat.zero_testBit,BX]at this
  rw[this.1,Nat.zero_testBit]
 have e:(a ||| b) &&& MASK=(a &&& MASK) ||| (b &&& MASK):=by
  apply Nat.eq_of_testBit_eq
  intro i
  simp only[Nat.testBit_and,Nat.testBit_or,Bool.and_or_distrib_right]
 rw[e]at h
 exact⟨key _ _ h,key _ _ (by rw[Nat.or_comm];exact h)⟩
theorem zpt{n:Int}{k:Nat}(hn:n=(k:Int)):(bl l).extract n.toNat ((l.length:Int)).toNat=bl (l.drop k):=by
 subst hn
 rw[Al,Al,Zq,Ct (by simp)]
theorem Tabs.first(h:Tabs gl){c:Nat}(hc:c<256):zhh gl 0 (0+c*1) (.int .u8 (Lib.firstT c)):=by
 obtain⟨⟨cs,a,b⟩,_⟩:=h
 exact⟨cs,a,by rw[AK,Cw];exact b c hc⟩
theorem Tabs.acc(h:Tabs gl){i:Nat}(hi:i<16):zhh gl 1 (0+i*2) (.int .u8 (Lib.accLo i))/\zhh gl 1 (0+i*2+1) (.int .u8 (Lib.accHi i)):=by
 obtain⟨_,cs,a,b⟩:=h
 exact⟨⟨cs,a,by rw[AK,CJ];exact(b i hi).1⟩,⟨cs,a,by rw[AK,CJ];exact(b i hi).2⟩⟩
end
section
variable {m:Bs} {n b0 b1 b2 b3 lo hi:Nat}
theorem zur(h:m≠[]):dec m=Lib.decodeN m.length (bN m 0) (bN m 1) (bN m 2) (bN m 3):=by
 simp only[dec,bN,List.getD_eq_getElem?_getD]
theorem ok0(h:m≠[])(hb:128<=bN m 0/\bN m 0<194\/245<=bN m 0/\bN m 0<256):jd m=false:=by
 rw[jk h,zur h,qh6 hb];rfl
theorem ok2(h:m≠[])(hb:194<=bN m 0/\bN m 0<224):jd m=(decide (2<=m.length/\128<=bN m 1/\bN m 1<=191)&&jd (m.drop 2)):=by
 rw[jk h,zur h,qh7 hb (Jl m 1)]
 by_cases hc:2<=m.length/\128<=bN m 1/\bN m 1<=191
 ·rw[if_pos hc];simp[zd8,hc]
 ·rw[if_neg hc];simp[zd8,hc]
theorem z8m{α:Type}{p q:Prop}[Decidable p][Decidable q]{a b:α}(h:p↔q):(if p then a else b)=if q then a else b:=by
 by_cases hp:p
 ·rw[if_pos hp,if_pos (h.1 hp)]
 ·rw[if_neg hp,if_neg (λhq=>hp (h.2 hq))]
theorem qgq(h:224<=b0/\b0<240)(h1:b1<256)(h2:b2<256)(Z:lo=if b0=224 then 160 else 128)(aa:hi=if b0=237 then 159 else 191):Lib.decodeN n b0 b1 b2 b3=
  if 3<=n/\(lo<=b1/\b1<=hi)/\128<=b2/\b2<=191 then(((b0-224)*64+(b1-128))*64+(b2-128),3)else(65533,1):=by
 rw[qh8 h h1 h2]
 refine z8m ?_
 split at Z <;> split at aa <;> omega
theorem qgr(h:240<=b0/\b0<245)(h1:b1<256)(h2:b2<256)(h3:b3<256)(Z:lo=if b0=240 then 144 else 128)(aa:hi=if b0=244 then 143 else 191):Lib.decodeN n b0 b1 b2 b3=
  if 4<=n/\(lo<=b1/\b1<=hi)/\(128<=b2/\b2<=191)/\128<=b3/\b3<=191 then((((b0-240)*64+(b1-128))*64+(b2-128))*64+(b3-128),4)else(65533,1):=by
 rw[qh9 h h1 h2 h3]
 refine z8m ?_
 split at Z <;> split at aa <;> omega
theorem ok3(h:m≠[])(hb:224<=bN m 0/\bN m 0<240)(Z:lo=if bN m 0=224 then 160 else 128)(aa:hi=if bN m 0=237 then 159 else 191):
  jd m=(decide (3<=m.length/\(lo<=bN m 1/\bN m 1<=hi)/\128<=bN m 2/\bN m 2<=191)&&jd (m.drop 3)):=by
 rw[jk h,zur h,qgq hb (Jl m 1) (Jl m 2) Z aa]
 by_cases hc:3<=m.length/\(lo<=bN m 1/\bN m 1<=hi)/\128<=bN m 2/\bN m 2<=191
 ·rw[if_pos hc];simp[zd8,hc]
 ·rw[if_neg hc];simp[zd8,hc]
theorem ok4(h:m≠[])(hb:240<=bN m 0/\bN m 0<245)(Z:lo=if bN m 0=240 then 144 else 128)(aa:hi=if bN m 0=244 then 143 else 191):
  jd m=(decide (4<=m.length/\(lo<=bN m 1/\bN m 1<=hi)/\(128<=bN m 2/\bN m 2<=191)/\128<=bN m 3/\bN m 3<=191)&&jd (m.drop 4)):=by
 rw[jk h,zur h,qgr hb (Jl m 1) (Jl m 2) (Jl m 3) Z aa]
 by_cases hc:4<=m.length/\(lo<=bN m 1/\bN m 1<=hi)/\(128<=bN m 2/\bN m 2<=191)/\128<=bN m 3/\bN m 3<=191
 ·rw[if_pos hc];simp[zd8,hc]
 ·rw[if_neg hc];simp[zd8,hc]
set_option maxHeartbeats 2000000 in
theorem zjt{gl:Fr}(hg:Tabs gl){l:Bs}(hl:l.length<=4611686018427387904){R:Bool->Prop}(h:R (jd l)):PC Tp gl 150 [Arg.mk .str (bl l)] [.bool] R:=by
 apply Q5
 refine⟨λs=>∃m:Bs,s=bl m/\jd m=jd l/\m.length<=l.length,λs=>s.size,⟨l,rfl,rfl,Ac _⟩,?_⟩
 rintro s ⟨m,rfl,hm,aI⟩
 simp only[ze,zuq,show(0:Int).toNat=0 from rfl,zpt (l:=m) (n:=1) (k:=1) rfl,zpt (l:=m) (n:=2) (k:=2) rfl,zpt (l:=m) (n:=3) (k:=3) rfl,zpt (l:=m) (n:=4) (k:=4) rfl]
 refine⟨λhc=>?_,λhc=>?_⟩
 rotate_left
 ·have:m=[]:=by
   have:¬(m.length:Int)>0:=by simpa using hc
   exact AO (by omega)
  subst this
  rw[Yu]at hm
  rw[<-hm]at h;exact h
 have hp:0<m.length:=by simp at hc;omega
 have Z:m≠[]:=Bf.1 hp
 refine⟨by omega,λha=>⟨by omega,?_⟩,λha=>?_⟩
 ·have hb:bN m 0<128:=by simp at ha;omega
  obtain⟨c,t,rfl⟩:=A9 Z
  simp only[List.drop_one,List.tail_cons]
  have ay:jd t=jd l:=by rw[<-hm];exact(zk4 hb).symm
  simp only[Ap]at aI ⊢
  simp only[zpt (l:=t) (n:=8) (k:=8) rfl,ze]
  refine⟨λr=>r=(Qc t:Int),λhq=>zb8 (by simp at hq;omega) rfl,λr hr=>⟨λhx=>?_,λhx=>⟨⟨t,rfl,ay,by omega⟩,by omega⟩⟩⟩
  have h8:8<t.length:=by
   cases hd:decide ((t.length:Int)>8)with
   |true=>simp at hd;omega
   |false=>rw[hd]at hx;cases hx
  have an:decide ((t.length:Int)>8)=true:=by simp;omega
  have az:=hr an
  rw[an,cond_true,az,show(9259542123273814144:Int)=((MASK:Nat):Int)from rfl,z5o (yu t) (by decide)]at hx
  have hz:Qc t &&& MASK=0:=by
   have:((Qc t &&& MASK:Nat):Int)=0:=by simpa using hx
   omega
  have ax:jd (t.drop 8)=jd l:=by rw[<-ay,Zs (by omega) hz]
  have aT:(t.drop 8).length+8=t.length:=by simp;omega
  generalize t.drop 8=u at *
  simp only[zpt (l:=u) (n:=8) (k:=8) rfl,zpt (l:=u) (n:=16) (k:=16) rfl]
  refine⟨by omega,λhq=>by simp at hq;omega,λr=>r=(Qc u:Int),λhq=>zb8 (by simp at hq;omega) rfl,λaQ ar=>⟨λr=>r=(Qc (u.drop 8):Int),λhq=>zb8 (by simp at hq ⊢;omega) rfl,λaO ak=>⟨λae=>?_,λae=>⟨⟨u,rfl,ax,by omega⟩,by omega⟩⟩⟩⟩
  have aM:16<u.length:=by
   cases hd:decide ((u.length:Int)>16)with
   |true=>simp at hd;omega
   |false=>rw[hd]at ae;cases ae
  have af:decide ((u.length:Int)>16)=true:=by simp;omega
  rw[af,cond_true,ar af,ak af,z0l (yu _) (yu _),show(9259542123273814144:Int)=((MASK:Nat):Int)from rfl,z5o (DC (n:=64) (yu _) (yu _)) (by decide)]at ae
  have aF:(Qc u ||| Qc (u.drop 8)) &&& MASK=0:=by
   have:(((Qc u ||| Qc (u.drop 8)) &&& MASK:Nat):Int)=0:=by simpa using ae
   omega
  obtain⟨z1,z2⟩:=zmx aF
  have aB:jd (u.drop 16)=jd l:=by
   rw[<-ax,Zs (by omega) z1,Zs (l:=u.drop 8) (by simp;omega) z2,Bj]
  refine⟨by omega,λs=>∃m':Bs,s=bl m'/\jd m'=jd l/\m'.length<(c::t).length,λs=>s.size,⟨u.drop 16,rfl,aB,by simp;omega⟩,?_⟩
  rintro s ⟨v,rfl,hv,aC⟩
  simp only[Ap]at aC
  simp only[ze,zpt (l:=v) (n:=8) (k:=8) rfl,zpt (l:=v) (n:=16) (k:=16) rfl,zpt (l:=v) (n:=24) (k:=24) rfl,zpt (l:=v) (n:=32) (k:=32) rfl]
  refine⟨λhq=>by simp at hq;omega,λhq=>by simp at hq;omega,λhq=>by simp at hq;omega,λr=>r=(Qc v:Int),λhq=>zb8 (by simp at hq;omega) rfl,λaZ aj=>⟨λr=>r=(Qc (v.drop 8):Int),λhq=>zb8 (by simp at hq ⊢;omega) rfl,λaU au=>
   ⟨λr=>r=(Qc (v.drop 16):Int),λhq=>zb8 (by simp at hq ⊢;omega) rfl,λa1 ap=>⟨λr=>r=(Qc (v.drop 24):Int),λhq=>zb8 (by simp at hq ⊢;omega) rfl,λaN am=>⟨λaa=>?_,λaa=>⟨⟨v,rfl,hv,by omega⟩,by omega⟩⟩⟩⟩⟩⟩
  have aP:32<v.length:=by
   cases hd:decide ((v.length:Int)>32)with
   |true=>simp at hd;omega
   |false=>rw[hd]at aa;cases aa
  have ab:decide ((v.length:Int)>32)=true:=by simp;omega
  have o2:∀a b:Nat,a<18446744073709551616->b<18446744073709551616->a ||| b<18446744073709551616:=λa b ha hb=>DC (n:=64) ha hb
  rw[ab,cond_true,aj ab,au ab,ap ab,am ab,z0l (yu _) (yu _),z0l (yu _) (yu _),z0l (o2 _ _ (yu _) (yu _)) (o2 _ _ (yu _) (yu _)),show(9259542123273814144:Int)=((MASK:Nat):Int)from rfl,
   z5o (o2 _ _ (o2 _ _ (yu _) (yu _)) (o2 _ _ (yu _) (yu _))) (by decide)]at aa
  have aA:((Qc v ||| Qc (v.drop 8)) ||| (Qc (v.drop 16) ||| Qc (v.drop 24))) &&& MASK=0:=by
   have:((((Qc v ||| Qc (v.drop 8)) ||| (Qc (v.drop 16) ||| Qc (v.drop 24))) &&& MASK:Nat):Int)=0:=by simpa using aa
   omega
  obtain⟨y1,y2⟩:=zmx aA
  obtain⟨x1,x2⟩:=zmx y1
  obtain⟨x3,x4⟩:=zmx y2
  refine⟨by omega,⟨v.drop 32,rfl,?_,by simp;omega⟩,by simp;omega⟩
  rw[<-hv,Zs (by omega) x1,Zs (l:=v.drop 8) (by simp;omega) x2,Bj,Zs (l:=v.drop (8+8)) (by simp;omega) x3,Bj,Zs (l:=v.drop (8+8+8)) (by simp;omega) x4,Bj]
 ·have hb:128<=bN m 0:=by simp at ha;omega
  have aE:=Jl m 0
  have hX:=Lib.firstT_cases (bN m 0)
  have aY:=Jl m 1;have aV:=Jl m 2;have aS:=Jl m 3
  refine⟨by omega,(Lib.firstT (bN m 0):Int),by simpa using hg.first aE,?_⟩
  obtain⟨i,lo,hi,k,e2,e3,e4,e5,e6,k1,k2,k3,k4,hk⟩:∃i lo hi k:Nat,((Lib.firstT (bN m 0):Int).fdiv (2 ^ 4))=(i:Int)/\i<16/\Lib.accLo i=lo/\Lib.accHi i=hi /\
    (Aa .i64 (Aa .u8 (((Ao (Ak .u8) (Lib.firstT (bN m 0):Int)) &&& (Ao (Ak .u8) 7)).toNat:Int)):Int)=(k:Int) /\
    (k=1->jd m=false)/\(k=2->jd m=(decide (2<=m.length/\lo<=bN m 1/\bN m 1<=hi)&&jd (m.drop 2))) /\
    (k=3->jd m=(decide (3<=m.length/\(lo<=bN m 1/\bN m 1<=hi)/\128<=bN m 2/\bN m 2<=191)&&jd (m.drop 3))) /\
    (k=4->jd m=(decide (4<=m.length/\(lo<=bN m 1/\bN m 1<=hi)/\(128<=bN m 2/\bN m 2<=191)/\128<=bN m 3/\bN m 3<=191)&&jd (m.drop 4)))/\(k=1\/k=2\/k=3\/k=4):=by
   have aG:∀v,Lib.firstT (bN m 0)=v->(v=241->(128<=bN m 0/\bN m 0<194)\/(245<=bN m 0/\bN m 0<256))/\(v=2->194<=bN m 0/\bN m 0<224)/\(v=19->bN m 0=224)/\(v=3->(225<=bN m 0/\bN m 0<240/\bN m 0≠237))/\(v=35->bN m 0=237)/\(v=52->bN m 0=240)/\(v=4->241<=bN m 0/\bN m 0<244)/\(v=68->bN m 0=244)/\v≠240:=by
    intro v hv
    unfold Lib.firstT at hv
    repeat' split at hv
    all_goals omega
   have cl:=aG _ rfl
   rcases hX with hX|hX|hX|hX|hX|hX|hX|hX|hX
   ·exact absurd hX cl.2.2.2.2.2.2.2.2
   ·exact⟨15,0,0,1,by rw[hX];decide,(by decide),rfl,rfl,by rw[hX];decide,(λ_=>ok0 Z (cl.1 hX)),(λe=>by omega),(λe=>by omega),(λe=>by omega),(by omega)⟩
   ·exact⟨0,128,191,2,by rw[hX];decide,(by decide),rfl,rfl,by rw[hX];decide,(λe=>by omega),(λ_=>ok2 Z (cl.2.1 hX)),(λe=>by omega),(λe=>by omega),(by omega)⟩
   ·have c:=cl.2.2.1 hX
    exact⟨1,160,191,3,by rw[hX];decide,(by decide),rfl,rfl,by rw[hX];decide,(λe=>by omega),(λe=>by omega),(λ_=>ok3 Z (by omega) (by rw[if_pos c]) (by rw[if_neg (by omega)])),(λe=>by omega),(by omega)⟩
   ·have c:=cl.2.2.2.1 hX
    exact⟨0,128,191,3,by rw[hX];decide,(by decide),rfl,rfl,by rw[hX];decide,(λe=>by omega),(λe=>by omega),(λ_=>ok3 Z (by omega) (by rw[if_neg (by omega)]) (by rw[if_neg (by omega)])),(λe=>by omega),(by omega)⟩
   ·have c:=cl.2.2.2.2.1 hX
    exact⟨2,128,159,3,by rw[hX];decide,(by decide),rfl,rfl,by rw[hX];decide,(λe=>by omega),(λe=>by omega),(λ_=>ok3 Z (by omega) (by rw[if_neg (by omega)]) (by rw[if_pos c])),(λe=>by omega),(by omega)⟩
   ·have c:=cl.2.2.2.2.2.1 hX
    exact⟨3,144,191,4,by rw[hX];decide,(by decide),rfl,rfl,by rw[hX];decide,(λe=>by omega),(λe=>by omega),(λe=>by omega),(λ_=>ok4 Z (by omega) (by rw[if_pos c]) (by rw[if_neg (by omega)])),(by omega)⟩
   ·have c:=cl.2.2.2.2.2.2.1 hX
    exact⟨0,128,191,4,by rw[hX];decide,(by decide),rfl,rfl,by rw[hX];decide,(λe=>by omega),(λe=>by omega),(λe=>by omega),(λ_=>ok4 Z (by omega) (by rw[if_neg (by omega)]) (by rw[if_neg (by omega)])),(by omega)⟩
   ·have c:=cl.2.2.2.2.2.2.2.1 hX
    exact⟨4,128,143,4,by rw[hX];decide,(by decide),rfl,rfl,by rw[hX];decide,(λe=>by omega),(λe=>by omega),(λe=>by omega),(λ_=>ok4 Z (by omega) (by rw[if_neg (by omega)]) (by rw[if_pos c])),(by omega)⟩
  generalize Lib.firstT (bN m 0)=x at *
  rw[e2,e6]
  have ac:=hg.acc e3
  rw[e4,e5]at ac
  simp only[show(1:Int).toNat=1 from rfl,show(2:Int).toNat=2 from rfl,show(3:Int).toNat=3 from rfl]
  have ah:jd m=false->R false:=λe=>by rw[<-hm,e]at h;exact h
  refine⟨by omega,(lo:Int),by simpa using ac.1,(hi:Int),by simpa using ac.2,?_,?_⟩
  ·intro hx
   have aJ:k=2:=by simp at hx;omega
   have q:=k2 aJ
   refine⟨λhy=>by simp at hy;omega,λhy=>by simp at hy;omega,λhy=>ah ?_,λhy=>?_⟩
   ·simp only[Ca,Br,decide_eq_true_eq]at hy
    rw[q,decide_eq_false (by omega)];rfl
   ·simp only[Ca,BX,decide_eq_false_iff_not]at hy
    refine⟨by omega,⟨m.drop 2,rfl,?_,by simp;omega⟩,by simp;omega⟩
    rw[<-hm,q,decide_eq_true (by omega)];simp
  ·intro hx
   refine⟨λaa=>?_,λaa=>⟨λai=>?_,λai=>?_⟩⟩
   ·have aH:k=3:=by simp at aa;omega
    have q:=k3 aH
    refine⟨λhy=>by simp at hy;omega,λhy=>by simp at hy;omega,λhy=>by simp at hy;omega,λhy=>by simp at hy;omega,λhy=>ah ?_,λhy=>?_⟩
    ·simp only[Ca,Br,decide_eq_true_eq]at hy
     rw[q,decide_eq_false (by omega)];rfl
    ·simp only[Ca,BX,decide_eq_false_iff_not]at hy
     refine⟨by omega,⟨m.drop 3,rfl,?_,by simp;omega⟩,by simp;omega⟩
     rw[<-hm,q,decide_eq_true (by omega)];simp
   ·have aL:k=4:=by simp at ai;omega
    have q:=k4 aL
    refine⟨λhy=>by simp at hy;omega,λhy=>by simp at hy;omega,λhy=>by simp at hy;omega,λhy=>by simp at hy;omega,λhy=>by simp at hy;omega,λhy=>by simp at hy;omega,λhy=>ah ?_,λhy=>?_⟩
    ·simp only[Ca,Br,decide_eq_true_eq]at hy
     rw[q,decide_eq_false (by omega)];rfl
    ·simp only[Ca,BX,decide_eq_false_iff_not]at hy
     refine⟨by omega,⟨m.drop 4,rfl,?_,by simp;omega⟩,by simp;omega⟩
     rw[<-hm,q,decide_eq_true (by omega)];simp
   ·refine ah (k1 ?_)
    simp at hx aa ai;omega
end
end Go.X
end
section
namespace Go.X
open Go Go.Lib
section
variable {v x:Tr} {l:List Tr} {k:Nat}
mutual
def tsz:Tr->Nat | .mk _ _ _ xs=>1+Yf xs
def Yf:List Tr->Nat | []=>0|x::l=>tsz x+Yf l
end
mutual
def tdp:Tr->Nat | .mk _ _ _ xs=>X6 xs+1
def X6:List Tr->Nat | []=>0|x::l=>max (tdp x) (X6 l)
end
mutual
def zb9(p:Tr->Bool):Tr->Bool | .mk k s ks xs=>p (.mk k s ks xs)&&ze2 p xs
def ze2(p:Tr->Bool):List Tr->Bool | []=>true|x::l=>zb9 p x&&ze2 p l
end
mutual
def txB(m:Nat):Tr->Prop | .mk _ s ks xs=>(s.size<=m/\ks.length<=m/\∀k∈ks,k.size<=m)/\zso m xs
def zso(m:Nat):List Tr->Prop | []=>True|x::l=>txB m x/\zso m l
end
theorem Z2(v:Tr):tsz v=1+Yf v.items:=by cases v;rw[tsz]
theorem zpu(v:Tr):tdp v=X6 v.items+1:=by cases v;rw[tdp]
theorem xt(p:Tr->Bool)(v:Tr):zb9 p v=(p v&&ze2 p v.items):=by cases v;rw[zb9]
theorem zk8(m:Nat)(v:Tr):txB m v↔(v.text.size<=m/\v.keys.length<=m/\∀k∈v.keys,k.size<=m)/\zso m v.items:=by cases v;rw[txB]
theorem zgn{m:Nat}:∀{l:List Tr},zso m l↔∀x∈l,txB m x
 |[]=>by simp[zso]
 |x::l=>by rw[zso,zgn];simp
theorem z5r{m:Nat}(h:txB m v)(hx:x∈v.items):txB m x:=zgn.1 ((zk8 m v).1 h).2 x hx
theorem xu(p:Tr->Bool):∀l:List Tr,ze2 p l=l.all (zb9 p)
 |[]=>rfl
 |x::l=>by rw[ze2,xu p l];rfl
theorem zca:∀a b:List Tr,Yf (a++b)=Yf a+Yf b
 |[],b=>by simp[Yf]
 |x::l,b=>by rw[AE,Yf,Yf,zca l b];omega
theorem zic:∀a b:List Tr,X6 (a++b)=max (X6 a) (X6 b)
 |[],b=>by simp[X6]
 |x::l,b=>by rw[AE,X6,X6,zic l b];omega
theorem zus{x:Tr}:∀{l:List Tr},x∈l->tsz x<=Yf l
 |y::l,h=>by
  rw[Yf]
  rcases Af.1 h with rfl|h
  ·omega
  ·have:=zus h;omega
theorem wv(h:x∈v.items):tsz x<tsz v:=by
 have:=zus h
 rw[Z2 v];omega
theorem zax:∀l:List Tr,l.length<=Yf l
 |[]=>by simp[Yf]
 |x::l=>by
  have:=zax l
  rw[Yf,Ap,Z2];omega
theorem zcb(v:Tr):0<tsz v:=by rw[Z2];omega
theorem z0o(hk:k<l.length):Yf (l.take (k+1))=Yf (l.take k)+tsz l[k]:=by
 rw[Av hk,zca];simp[Yf]
theorem z0p(hk:k<l.length):X6 (l.take (k+1))=max (X6 (l.take k)) (tdp l[k]):=by
 rw[Av hk,zic];simp[X6]
mutual
theorem qdy:∀v:Tr,tdp v<=tsz v
 |.mk _ _ _ xs=>by rw[tdp,tsz];have:=zsp xs;omega
theorem zsp:∀l:List Tr,X6 l<=Yf l
 |[]=>by simp[X6]
 |x::l=>by rw[X6,Yf];have:=qdy x;have:=zsp l;omega
end
def xe(ks:List Bt):Bool:=ks.all (λk=>jd (lb k))&&decide ks.Nodup
def zxh(s:Bs):Nm×Bool:=((zi s).1,(zi s).2==0&&decide (qz (zi s).1=s))
def z0q(s:Bs):Bool:=(zxh s).2&&(z5m (zxh s).1).2&&decide (0<=(z5m (zxh s).1).1)
def qe(v:Tr):Bool:=
 if v.kind=1 then lb v.text==[]&&v.keys.isEmpty&&v.items.isEmpty
 else if v.kind=2 then(lb v.text==[116,114,117,101]||lb v.text==[102,97,108,115,101])&&v.keys.isEmpty&&v.items.isEmpty
 else if v.kind=3 then(zxh (lb v.text)).2&&v.keys.isEmpty&&v.items.isEmpty
 else if v.kind=4 then jd (lb v.text)&&v.keys.isEmpty&&v.items.isEmpty
 else if v.kind=5 then lb v.text==[]&&v.keys.isEmpty
 else if v.kind=6 then xe v.keys&&decide (v.keys.length=v.items.length)&&lb v.text==[]
 else if v.kind=7 then z0q (lb v.text)&&v.keys.isEmpty&&v.items.isEmpty
 else false
def Q9(v:Tr):Bool:=decide (tsz v<=4096)&&decide (tdp v<=32)
def X7(v:Tr):Bool:=Q9 v&&zb9 qe v
def ye(v:Tr):Bool:=Q9 v&&zb9 (λx=>decide (x.kind≠7)&&qe x) v
structure Sm (v:Tr):Prop where
 sz:tsz v<=1000000000000
 tx:txB 1048576 v
theorem Sm.item(h:Sm v)(hx:x∈v.items):Sm x:=⟨by have:=wv hx;have:=h.sz;omega,z5r h.tx hx⟩
theorem Sm.text(h:Sm v):(lb v.text).length<=1048576:=by rw[zhz];exact((zk8 _ v).1 h.tx).1.1
theorem Sm.key(h:Sm v){k:Bt}(hk:k∈v.keys):(lb k).length<=1048576:=by rw[zhz];exact((zk8 _ v).1 h.tx).1.2.2 k hk
end
end Go.X
end
section
namespace Go.X
section
variable {gl:Fr} {l:Bs} {R:Bool -> Prop}
theorem zmy(hg:Tabs gl)(hl:l.length<=4611686018427387904){R:Int×Bool->Prop}(h:∀k,R (k,jd l)):PC Tp gl 80 [Arg.mk .str (bl l)] [.int .i64,.bool] R:=by
 apply zji
 refine zjt hg hl ⟨λhx=>?_,λhx=>?_⟩
 ·have:=h ((bl l).size:Int);rw[hx]at this;exact this
 ·refine⟨λp=>p.1=bl l/\p.2<=l.length/\jd (l.drop p.2)=false,λp=>l.length-p.2,⟨rfl,by omega,by simpa using hx⟩,?_⟩
  rintro⟨_,p⟩ ⟨rfl,hp,h2⟩
  simp only at hp h2 ⊢
  rw[zpo,zpp]
  refine⟨λhc=>⟨hc,hc,λhq=>?_,λhq=>⟨?_,?_⟩⟩,λhc=>?_⟩
  ·have aa:p<l.length:=by simpa using hc
   have Z:l.drop p≠[]:=λe=>by have:=congrArg Cr e;simp at this;omega
   have hb:zd8 (dec (l.drop p))=false:=by
    unfold zd8
    have:¬(dec (l.drop p)).1=65533:=λe=>by rw[e]at hq;simp at hq
    simp[this]
   rw[jk Z,hb]at h2
   simp only[A5,if_false,Bj]at h2
   rw[zh5 l p aa]
   have hw:=xn (l.drop p);have ab:=zuk Z
   simp only[AI]at ab
   exact⟨⟨trivial,by omega,h2⟩,by omega⟩
  ·have aa:p<l.length:=by simpa using hc
   rw[ze];omega
  ·have aa:p<l.length:=by simpa using hc
   have Z:l.drop p≠[]:=λe=>by have:=congrArg Cr e;simp at this;omega
   rw[ze,zpt (k:=p) rfl]
   refine zpn hg ?_
   have af:(bl (l.drop p)).size≠0:=by rw[ze];simp;omega
   have hd:Lib.decodeGo (bl (l.drop p))=dec (l.drop p):=by
    unfold Lib.decodeGo
    rw[if_neg af,zuj,yp,Cc]
   rw[hd]
   refine⟨λae=>?_,λae=>?_⟩
   ·have:=h (p:Int)
    have hu:jd l=false:=hx
    rw[hu]at this;exact this
   ·have hb:zd8 (dec (l.drop p))=false:=by
     unfold zd8
     have:¬(dec (l.drop p)).2=1:=λe=>by rw[e]at ae;simp at ae
     simp[this]
    rw[jk Z,hb]at h2
    simp only[A5,if_false,Bj]at h2
    rw[zh5 l p aa]
    have hw:=xn (l.drop p);have ab:=zuk Z
    simp only[AI]at ab
    exact⟨⟨trivial,by omega,h2⟩,by omega⟩
  ·have:l.drop p=[]:=BL (by(have:¬p<l.length:=by simpa using hc);omega)
   rw[this,Yu]at h2;cases h2
theorem z5s(hg:Tabs gl)(hl:l.length<=4611686018427387904)(h:R (jd l)):PC Tp gl 134 [Arg.mk .str (bl l)] [.bool] R:=by
 apply zft
 exact zmy hg hl λk=>h
theorem zpv(hg:Tabs gl)(hl:l.length<=4611686018427387904)(h:R (jd l)):PC Tp gl 166 [Arg.mk .str (bl l)] [.bool] R:=by
 apply zjl
 exact zmy hg hl λk=>h
structure GL (gl:Fr):Prop where
 tabs:Tabs gl
 pow:Pow gl
 max:z8i gl
 err:zmu gl
theorem Yw(s:Bs)(hs:s.length<=1152921504606846976):(zi s).1.2.1.length<=4611686018427387904:=by
 unfold zi
 split
 ·simp
 ·rename_i x hx
  have h1:=zk6 hx
  split
  ·simp
  ·split
   ·simp
   ·simp only
    generalize (if x.low=true then-(zh (x.exp.dropWhile (· == 48)):Int)else zh (x.exp.dropWhile (· == 48)))=e
    split
    ·simp
    ·rename_i Z
     have h2:(yz (x.whole++x.rest)).length<=(x.whole++x.rest).length:=by
      unfold yz
      rw[List.length_reverse]
      refine CV (xr _ _) ?_
      rw[List.length_reverse]
      exact xr _ _
     rw[Ag]at h2
     split
     ·show(yz (x.whole++x.rest)).length<=_;omega
     ·simp
theorem zcc(hg:GL gl){s:Bs}(hs:s.length<=1152921504606846976){R:(Bool×Bt×Int)×Bool->Prop}(h:R (nmB (zxh s).1,(zxh s).2)):PC Tp gl 165 [Arg.mk .str (bl s)] [tN,.bool] R:=by
 apply zfu
 refine zgm hs ?_
 refine⟨λt=>t=bl (qz (zi s).1),λ_=>zsl hg.pow (Yw s hs) rfl,λr hr=>?_⟩
 have e:(bif ((zi s).2==0)then(r.toList==(bl s).toList)else false)=(zxh s).2:=by
  unfold zxh
  cases hc:((zi s).2==0)with
  |false=>rfl
  |true=>
   rw[hr hc,cond_true,zfx];rfl
 simp only at e ⊢
 rw[e];exact h
theorem qa4(n:Nat):Lib.repeatL [48] n=C8 n 48:=by
 induction n with
 |zero=>rfl
 |succ n ih=>rw[Lib.repeatL,ih];rfl
theorem qdz(hg:GL gl){n:Nm}(hn:n.2.1.length<=4611686018427387904){R:Int×Bool->Prop}(h:R (z5m n)):PC Tp gl 234 [Arg.mk tN (nmB n)] [.int .i64,.bool] R:=by
 apply zmi
 refine zmw hn ?_
 unfold z5m at h
 cases hr:yy n with
 |false=>
  rw[hr]at h
  exact⟨λ_=>by simpa using h,λhx=>by simp at hx⟩
 |true=>
  obtain⟨hl,am,ak⟩:=zb5 hr
  rw[hr]at h
  simp only[BZ]at h
  simp only[ze]
  rw[w64 (by omega)]
  refine⟨λhx=>?_,λhx=>?_⟩
  ·rw[if_neg]at h
   ·exact h
   ·simp at hx ⊢;omega
  ·have an:0<=n.2.2/\(n.2.1.length:Int)+n.2.2<=19:=by simp at hx;omega
   rw[if_pos (by simp;omega)]at h
   rw[<-zxe]at h
   obtain⟨e,hE⟩:∃e:Nat,n.2.2=(e:Int):=⟨n.2.2.toNat,by omega⟩
   show PC Tp gl 86 [Arg.mk .str (bl [48]),Arg.mk (.int .i64) n.2.2] [.str] _
   rw[hE]
   refine zh1 (by omega) (by rw[ze];simp;omega) ?_
   rw[yp,qa4,xp]
   have af:n.2.1++C8 e 48=Jk n:=by rw[Jk,hE,Al]
   have ae:(Jk n).length<=19:=by rw[<-af];simp;omega
   have aj:=zxf hr
   rw[af]
   refine⟨z0i (a:=n.2.1) (by rw[Da];omega),?_⟩
   rw[show(⟨#[]⟩:Bt)=bl []from rfl,show(⟨#[45]⟩:Bt)=bl [45]from rfl]
   simp only[xp]
   intro K hK
   have key:∀t:Bs,t=(if n.1 then [45]else [])++Jk n->K (bl t):=by
    intro t ht
    refine hK _ ⟨λhz=>?_,λhz=>?_⟩
    ·have ai:t=[]:=by
      have:=zfx t []
      rw[this]at hz;simpa using hz
     rw[ai]at ht
     have ab:n.1=false:=by cases hb:n.1 <;> simp[hb]at ht;rfl
     have aa:Jk n=[]:=by simp[ab]at ht;exact ht
     rw[ab,aa]at h
     exact h
    ·have ah:t≠[]:=by
      intro e;rw[e,zfx]at hz;simp at hz
     refine zsj hg.err (by rw[ze,ht];split <;> simp <;> omega) ?_
     rw[yp,ht]
     have aa:Jk n≠[]:=by
      intro e0
      cases hb:n.1 with
      |false=>rw[ht,hb,e0]at ah;exact ah rfl
      |true=>
       have hd:n.2.1=[]:=by rw[Jk]at e0;exact(List.append_eq_nil_iff.1 e0).1
       have:=zh6 hr hd
       unfold X3 at this;rw[hb]at this;simp at this
     unfold zh4
     rw[z0k n.1 aj ae aa]
     cases hb:n.1 with
     |true=>
      rw[hb]at h
      simp only[if_true]at h ⊢
      by_cases hv:zh (Jk n)<=9223372036854775808
      ·rw[if_pos (by omega)]at h
       rw[if_pos hv]
       exact⟨λhq=>(by cases hq),λ_=>h⟩
      ·rw[if_neg (by omega)]at h
       rw[if_neg hv]
       exact⟨λ_=>h,λhq=>(by cases hq)⟩
     |false=>
      rw[hb]at h
      simp only[A5,if_false]at h ⊢
      by_cases hv:zh (Jk n)<=9223372036854775807
      ·rw[if_pos (by omega)]at h
       rw[if_pos hv]
       exact⟨λhq=>(by cases hq),λ_=>h⟩
      ·rw[if_neg (by omega)]at h
       rw[if_neg hv]
       exact⟨λ_=>h,λhq=>(by cases hq)⟩
   refine⟨λZ=>⟨z0i (a:=[45]) (by simp;omega),?_⟩,λZ=>?_⟩
   ·exact key _ (by rw[if_pos (by simpa using Z)])
   ·exact key _ (by rw[if_neg (by simpa using Z)];rfl)
end
end Go.X
end
section
namespace Go.Proofs.YtjohlemfgcmaoaaGreatDoor
open Go Go.X Go.ChangeShapes Go.WideShapes Go.ChangeAt Go.RowKit Go.Lib
open Go.ChangeMaps (open_string shut_string)
set_option linter.unusedVariables false
section
variable {H:Type} {g:Nat} {t:TypeId}
theorem Tryz.own:ownKnob AY.godebug=none:=by kernel_rfl
theorem Tryz.laidOut:laidOutB AY=true:=by kernel_rfl
theorem zmz{enc:TypeId×Value->H}{a:Assume}{C:Checked}{os:Os}{f:FuncId}{fn:Func}{s:ChangeSpec}{ah:List PathCond}{apart ak ab aj:Bool}{X:World->Array Value->Prop}
  (hX:∀(w w':World) (args:Array Value),w.heap=w'.heap->X w args->X w' args)
  (own:ownKnob C.prog.godebug=none) (af:os.Started) (am:C.prog.inits.idxOf? f=none) (aA:C.prog.funcs[f]?=some fn)
  (ai:∃(w:World) (Z:Tape) (i:Input),w.os=os/\(w.forCall Z i).Shaped C.prog/\i.vars=[]/\Input.okWide C.prog (w.forCall Z i) .any w.heap.size f i /\
   ((s.pre enc C.prog fn ah apart (w.forCall Z i).memory i.args/\X (w.forCall Z i).memory i.args)/\sizedMet enc C.prog fn (OpenSpec.ofChange s) apart (w.forCall Z i).memory i.args)/\a.holds C.prog (lone (Frame.enter C.prog f i.args .normal) [] (w.forCall Z i)))
  (ae:∀(W:World) (base:Nat) (args:Array Value) (ds gs:List (DataW H)) (aa:List MemPlace),
   (∀(j:Nat) t v,fn.params[j]?=some t->args[j]?=some v->Value.okWide C.prog W .any base t v) ->
   DataW.Whole enc C.prog fn.params.toList s.vars apart W args.toList ds gs aa ->
   (DataW.weightsEach C.prog (fn.params.toList++s.plain.varTypes C.prog) (ds++gs)).all (·<=reachBytes)=true ->
   X W args->W.ShapedOpen C.prog ->
   Calls C.prog f args W λe W'=>∃v,e=.returned v/\s.post enc C.prog fn apart ak ab aj W args v W'):
  ReturnsInHanded a C os f .any (λw args=>(s.pre enc C.prog fn ah apart w args/\X w args)/\sizedMet enc C.prog fn (OpenSpec.ofChange s) apart w args) (s.post enc C.prog fn apart ak ab aj):=by
 refine returnsInHanded_of_calls own af am ai ?_
 intro w Z i _ az _ aB ap au
 obtain⟨_,_,_,ax,ar,_,_,_,_,an⟩:=aB
 have e:ax=fn:=Au (ar.symm.trans aA)
 subst e
 obtain⟨⟨⟨ds,gs,aa,hw,hc⟩,hx⟩,hz⟩:=ap
 have ay:=DataW.Whole.of_heap (w':=w.forCall Z i) (by rfl) hw
 refine(ae (w.forCall Z i) w.heap.size i.args ds gs aa an ay (hz.weights hw) (hX _ _ _ (by rfl) hx) az).mono λe W' ⟨v,he,hp⟩=>?_
 subst he
 exact ChangeSpec.post_blind hp
theorem z0r{P:Program}{W:World}{n:String}{k:IntKind}{zs:List Int}{t e:TypeId}{m:Nat}(hg:P.globalNamed n=some g)(ht:(P.globals[g]?).map (·.type)=some t)(hu:P.underlying t=some (.array m e))(he:P.underlying e=some (.int k))
  (ab:P.cellsOf e=1) (ae:P.cellsOf t=m) (h:VarReads P W n (tabData k zs)):∃cs:Array Value,Fz W g=some cs/\cs.toList=zs.map λz=>Ey k z:=by
 obtain⟨g',t',cs,fuel,p,aa,af,Z,hd⟩:=h
 obtain rfl:=Au (hg.symm.trans aa)
 obtain rfl:=Au (ht.symm.trans af)
 exact⟨cs,Fz.var hg Z,cells_of_tab hu he ab ae hd⟩
theorem z5t{W : World}(h : VarReads Tryz.prog W "unicode/utf8.first" Pinned.utf8First): ∃ cs : Array Value, Fz W 0 = some cs ∧ ∀ c, c < 256 → cs[c]? = some (.int .u8 (Lib.firstT c)) := by
 rw[Pinned.utf8First_eq]at h
 obtain⟨cs,h1,h2⟩:=z0r (g:=0) (t:=230) (e:=5) (m:=256) (by kernel_rfl) (by kernel_rfl) (by kernel_rfl) (by kernel_rfl) (by kernel_rfl) (by kernel_rfl) h
 refine⟨cs,h1,λc hc=>?_⟩
 rw[<-BP,h2]
 simp[firstTab,hc]
theorem z0s{W : World}(h : VarReads Tryz.prog W "unicode/utf8.acceptRanges" acceptData): ∃ cs : Array Value, Fz W 1 = some cs ∧ ∀ i, i < 16 → cs[2 * i]? = some (.int .u8 (Lib.accLo i)) ∧ cs[2 * i + 1]? = some (.int .u8 (Lib.accHi i)) := by
 obtain⟨g,t,cs,fuel,p,hg,hty,hvar,hd⟩:=h
 obtain rfl := Option.some.inj ((show Tryz.prog.globalNamed "unicode/utf8.acceptRanges" = some 1 by kernel_rfl).symm.trans hg)
 obtain rfl:=Au ((show(AY.globals[1]?).map (·.type)=some 233 by kernel_rfl).symm.trans hty)
 refine⟨cs,Fz.var hg hvar,λi hi=>?_⟩
 obtain⟨fuel',d,q,hdi,he⟩:=array_elem (show AY.underlying 233=some (.array 16 232)by kernel_rfl) hd i hi
 simp only[BN,List.getElem?_range hi,D6,Ab]at hdi
 subst hdi
 have hc:AY.cellsOf 232=2:=by kernel_rfl
 have c5:AY.cellsOf 5=1:=by kernel_rfl
 have u5:AY.underlying 5=some (.int .u8):=by kernel_rfl
 rw[hc]at he
 have hcs:=ints_of_struct Tryz.underlying232 (λj f hj=>by
  match j,hj with
  |0,hj=>simp at hj;subst hj;exact⟨u5,rfl,c5⟩
  |1,hj=>simp at hj;subst hj;exact⟨u5,rfl,c5⟩
  |j+2,hj=>simp at hj) (by rw[hc];rfl) he
 have e0:=congrArg (·[0]?) hcs
 have e1:=congrArg (·[1]?) hcs
 simp only[AL,AQ]at e0 e1
 constructor
 ·rw[<-BP]
  simpa[CJ]using e0
 ·rw[<-BP]
  simpa[CJ]using e1
theorem qd0{W : World}{d : DataW Unit}(hd : d = tabData .u64 Lib.pow10Tab)(h : VarReads Tryz.prog W "internal/strconv.uint64pow10" d): Pow (Fz W) := by
 subst hd
 obtain⟨cs,h1,h2⟩:=z0r (g:=2) (t:=273) (e:=238) (m:=20) (by kernel_rfl) (by kernel_rfl) (by kernel_rfl) (by kernel_rfl) (by kernel_rfl) (by kernel_rfl) h
 exact⟨_,cs,by kernel_rfl,h1,by rw[<-h2]⟩
theorem z8n{W:World}{n:String}{ms:Array (String×TypeId)}{nm:String}{d:DataW Unit}(hg:AY.globalNamed n=some g)(ht:(AY.globals[g]?).map (·.type)=some t)(hu:AY.underlying t=some (.interface ms))(h:VarReads AY W n (.iface nm d)):
  ∃(cs:Array Value) (e:Value),Fz W g=some cs/\cs[0]?=some e/\(e=.nilIface\/∃te pe,e=.iface te pe):=by
 obtain⟨g',t',cs,fuel,p,aa,ab,Z,hd⟩:=h
 obtain rfl:=Au (hg.symm.trans aa)
 obtain rfl:=Au (ht.symm.trans ab)
 obtain⟨f1,u,v,ae,_,_⟩:=iface_of_trod hu hd
 exact⟨cs,.iface u v,Fz.var hg Z,by rw[<-BP,ae];rfl,.inr ⟨u,v,rfl⟩⟩
theorem qd1{W:World}(h:W.ShapedOpen AY):z8i (Fz W):=by
 obtain⟨m,hm⟩:=cell_of_shapedOpen_int (P:=AY) (g:=3) (t:=3) (zero:=#[.int .i64 0]) (k:=.i64) h (by decide +kernel) (by kernel_rfl) rfl (by kernel_rfl) (by kernel_rfl) (by kernel_rfl)
 obtain⟨b,o,c,e,h1,h2⟩:=Fz.cell hm
 cases e
 exact⟨c,m,h1,h2⟩
def zid:List (String×DataW Unit):=Rows.readReadsRow.laid
theorem qgs{W:World}(h:laidMetH AY zid W)(hs:W.ShapedOpen AY):GL (Fz W):=by
 have hl:laidMet AY zid W:=by
  rw[MakeChecks.laidMetH_plain _ _ _ (by kernel_rfl)]at h;exact h
 have hr:∀(i:Nat) (n:String) (d:DataW Unit),zid[i]?=some (n,d)->VarReads AY W n d:=λi n d e=>Go.Lib.laidMet.reads hl (Bh e)
 exact {
  tabs:=⟨z5t (hr 6 _ _ rfl),z0s (by
   have e:(Rows.laid_unicode_utf8_acceptRanges:DataW Unit)=acceptData:=by kernel_rfl
   rw[<-e];exact hr 3 _ _ rfl)⟩
  pow:=qd0 (by kernel_rfl) (hr 2 _ _ rfl)
  max:=qd1 hs
  err:=⟨z8n (g:=4) (t:=114) (by kernel_rfl) (by kernel_rfl) Tryz.underlying114 (hr 5 _ _ rfl),z8n (g:=5) (t:=114) (by kernel_rfl) (by kernel_rfl) Tryz.underlying114 (hr 4 _ _ rfl)⟩ }
noncomputable def qgt(os:Os):World:=World.laidAll AY os zid
theorem zsq(os:Os)(args:Array Value):((qgt os).forCall (λ_ _=>0) ⟨#[],args,[]⟩).Shaped AY:=World.shaped_of_ZipB (by kernel_rfl) (by kernel_rfl)
theorem z5u(os:Os)(args:Array Value):laidMetH AY zid ((qgt os).forCall (λ_ _=>0) ⟨#[],args,[]⟩).memory:=by
 rw[MakeChecks.laidMetH_plain _ _ _ (by kernel_rfl)];exact laidMet_laidAll _ (by kernel_rfl) (by kernel_rfl)
theorem qa5{enc:TypeId×Value->H}{W:World}{sp:Nat->Bool}{held:Bool}(fuel:Nat)(cs:List Value)(x:DataW H×List MemPlace)(h:DataW.trod enc AY W 0 sp held fuel 26 cs=some x)(hw:zsg AY 26 x.1):∃t:Tr,Rd (Fz W) .tree t cs:=
 qax (tk:=3) (ts:=9) (tss:=23) (tvs:=24) Tryz.underlying26 (by kernel_rfl) ⟨rfl,rfl,rfl,rfl,rfl,rfl,rfl,rfl⟩ (by kernel_rfl) (by kernel_rfl) (by kernel_rfl) (by kernel_rfl) (by kernel_rfl) (by kernel_rfl) (by kernel_rfl) (by kernel_rfl) (by decide +kernel) (by decide +kernel) fuel cs x h hw
theorem z5v{ts:List TypeId}{ds:List (DataW H)}(h:(DataW.weightsEach AY ts ds).all (·<=reachBytes)=true){j:Nat}{d:DataW H}(ht:ts[j]?=some t)(hd:ds[j]?=some d):zsg AY t d:=λn hn=>by
 have:=AD.1 h n (DataW.weights_mem_each ht hd n hn)
 simpa using this
end
end Go.Proofs.YtjohlemfgcmaoaaGreatDoor
end
section
namespace Go.X
section
theorem XF{vs:List Value}{f:FuncId}{fn:Func}{h:za}{R:Value->za->Prop}{F:Prop}(pl:Plan)(rs:List ResultVar)(n:Nat)(hf:AY.funcs[f]?=some fn)(H:F)(hb:Qy fn=true:=by kernel_rfl)(hr:fn.results.toList=rs:=by kernel_rfl)(hn:fn.ntmps=n:=by kernel_rfl)(hz:Nat.ble vs.length n=true:=by kernel_rfl)(e:F=W Tp n pl (codeOf fn) (qfm Tp rs R) (zys 0 vs) h:=by kernel_rfl):XC Tp f vs.toArray h R:=zwe Tryz.mixed pl vs hf hb hr hn hz (Eq.mp e H)
theorem za4(i0:Int)(Z:Int)(h:za)(R:Value->za->Prop)
  (H:XC Tp 154 #[.int .i64 i0,.int .i64 Z] h (λa b=>∃c,a=.string c/\R (.string c) b)):
  XC Tp 84 #[.int .i64 i0,.int .i64 Z] h R:=
 XF ⟨[],[],[]⟩ [.tmp 4] 8 Tryz.func84 H
theorem Zb(x0:Int)(h:za)(R:Value->za->Prop)
  (H:R (.bool ((Aa .i64 (((Ao (Ak .i64) x0) &&& (Ao (Ak .i64) (Aa .i64 (x0-1)))).toNat:Int):Int)==0)) h):
  XC Tp 273 #[.int .i64 x0] h R:=
 XF ⟨[],[],[]⟩ [.tmp 2] 8 Tryz.func273 H
theorem Yl(x0:Int)(h:za)(R:Value->za->Prop)
  (H:(false=true->XC Tp 303 #[.int .u32 (Aa .u32 x0)] h (λa b=>∃c,a=.int .i64 c/\R (.int .i64 c) b))/\(false=false->XC Tp 304 #[.int .u64 x0] h (λd e=>∃f,d=.int .i64 f/\R (.int .i64 f) e))):
  XC Tp 274 #[.int .u64 x0] h R:=
 XF ⟨[],[],[]⟩ [.tmp 2] 8 Tryz.func274 H
theorem Qm(x0:Int)(h:za)(R:Value->za->Prop)
  (H:((x0==0)=true->R (.int .i64 64) h)/\((x0==0)=false->∃a:Addr,(some ⟨7,0,none⟩=some a/\0<=((Aa .u64 ((Aa .u64 (((Ao (Ak .u64) x0) &&& (Ao (Ak .u64) (Aa .u64 (0-x0)))).toNat:Int))*285870213051353865):Int).fdiv (2 ^ 58):Int)/\((Aa .u64 ((Aa .u64 (((Ao (Ak .u64) x0) &&& (Ao (Ak .u64) (Aa .u64 (0-x0)))).toNat:Int))*285870213051353865):Int).fdiv (2 ^ 58):Int)<((64:Nat):Int))/\∃b,zc h (a.add (((Aa .u64 ((Aa .u64 (((Ao (Ak .u64) x0) &&& (Ao (Ak .u64) (Aa .u64 (0-x0)))).toNat:Int))*285870213051353865):Int).fdiv (2 ^ 58):Int).toNat*1))=some (.int .u8 b)/\R (.int .i64 (Aa .i64 b)) h)):
  XC Tp 304 #[.int .u64 x0] h R:=
 XF ⟨[],[],[]⟩ [.tmp 2] 14 Tryz.func304 H
theorem zie(c0:Int)(h:za)(R:Value->za->Prop)
  (H:∀a:Bool->za->Prop,(∀b:Bool,∀c:za,((b=true->R (.int .u8 (Aa .u8 c0)) c)/\(b=false->((c0==8)=true->R (.int .u8 98) c)/\((c0==8)=false->((c0==12)=true->R (.int .u8 102) c)/\((c0==12)=false->((c0==10)=true->R (.int .u8 110) c)/\((c0==10)=false->((c0==13)=true->R (.int .u8 114) c)/\((c0==13)=false->((c0==9)=true->R (.int .u8 116) c)/\((c0==9)=false->R (.int .u8 0) c)))))))->a b c)->((c0==34)=true->a (c0==34) h)/\((c0==34)=false->a (c0==92) h)):
  XC Tp 82 #[.int .i32 c0] h R:=
 XF ⟨[],[],[(4,[(4,.one (.bool))])]⟩ [.tmp 2] 19 Tryz.func82 H
end
section
theorem zm0(s0:Bt)(h:za)(R:Value->za->Prop)
  (H:let b:=h.push (.cells #[.string (⟨#[]⟩:Bt),.slice none 0 0] 36);XC Tp 60 #[.string s0] b (λc d=>∃e f g,c=.tuple #[slV e,.int .i64 f,.int .i64 g]/\((g != 0)=true->zk Tp (An 36 (.pointer (some ⟨h.size,0,none⟩)) (.agg #[.string (⟨#[]⟩:Bt),.slice none 0 0])) d (λi=>∃j k,zd i ⟨h.size,0,none⟩ 0 [.string j,slV k]/\R (.tuple #[.agg #[.string j,slV k],.int .i64 f,.int .i64 g]) i))/\((g != 0)=false->let l:=d.push (.cells #[.string s0,.slice none 0 0,.int .i64 0,.int .i64 0,.slice none 0 0,.int .i64 0,.int .i64 0] 88);∃(m:Int->za->Prop) (n:Int->za->Nat),m 0 l/\∀o:Int,∀p:za,m o p->((decide (o<e.len)=true->∃q,(e.a=some q/\0<=o/\o<e.len)/\∃r s t,zd p (q.add (o.toNat*3)) 0 [.int .i64 r,.int .i64 s,.int .i64 t]/\let u:=p.push (.cells #[.int .i64 0,.int .i64 0,.int .i64 0] 90);zk Tp (An 90 (.pointer (some ⟨p.size,0,none⟩)) (.agg #[.int .i64 r,.int .i64 s,.int .i64 t])) u (λv=>∃w,zc v (Ai ⟨p.size,0,none⟩ 0)=some (.int .i64 w)/\((w != 1)=true->∃x:Addr,some ⟨d.size,0,none⟩=some x/\∃y,zc v (Ai x 1)=some (slV y)/\∃z A B,zd v ⟨p.size,0,none⟩ 0 [.int .i64 z,.int .i64 A,.int .i64 B]/\let C:=v.push (.cells #[.int .i64 z,.int .i64 A,.int .i64 B] 90);(C)[((Ai x 1):Addr).block]?=(v)[((Ai x 1):Addr).block]?/\Z5 Tp (AB #[83,83] 83 #[slV y,.slice (some ⟨v.size,0,none⟩) 1 1]) C (λD E=>∃F,D=slV F/\∃G:Addr,some ⟨d.size,0,none⟩=some G/\zk Tp (An 83 (.pointer (some (Ai G 1))) (slV F)) E (λI=>(m (Aa .i64 (o+1)) I/\n (Aa .i64 (o+1)) I<n o p))))/\((w != 1)=false->(m (Aa .i64 (o+1)) v/\n (Aa .i64 (o+1)) v<n o p))))/\(decide (o<e.len)=false->XC Tp 61 #[.pointer (some ⟨d.size,0,none⟩),.int .i64 1,.agg #[.int .i64 0,.int .i64 0]] p (λJ L=>∃M,J=.bool M/\∀N:Bool->za->Prop,(∀O:Bool,∀P:za,(((!O)=true->∃Q:Addr,some ⟨d.size,0,none⟩=some Q/\∃S,zc P (Ai Q 5)=some (.int .i64 S)/\∃T:Addr,some ⟨d.size,0,none⟩=some T/\∃U,zc P (Ai T 6)=some (.int .i64 U)/\(P)[((Ai T 6):Addr).block]?=(P)[((Ai T 6):Addr).block]?/\(P)[((Ai Q 5):Addr).block]?=(P)[((Ai Q 5):Addr).block]?/\zk Tp (An 36 (.pointer (some ⟨h.size,0,none⟩)) (.agg #[.string (⟨#[]⟩:Bt),.slice none 0 0])) P (λV=>(V)[((Ai T 6):Addr).block]?=(P)[((Ai T 6):Addr).block]?/\(V)[((Ai Q 5):Addr).block]?=(P)[((Ai Q 5):Addr).block]?/\(V)[((Ai T 6):Addr).block]?=(P)[((Ai T 6):Addr).block]?/\∃W X,zd V ⟨h.size,0,none⟩ 0 [.string W,slV X]/\R (.tuple #[.agg #[.string W,slV X],.int .i64 S,.int .i64 U]) V))/\((!O)=false->∃Y:Addr,some ⟨d.size,0,none⟩=some Y/\∃Z,zc P (Ai Y 4)=some (slV Z)/\zk Tp (An 36 (.pointer (some ⟨h.size,0,none⟩)) (.agg #[.string s0,slV Z])) P (λaa=>∃ab ac,zd aa ⟨h.size,0,none⟩ 0 [.string ab,slV ac]/\R (.tuple #[.agg #[.string ab,slV ac],.int .i64 (s0.size:Int),.int .i64 0]) aa)))->N O P)->∃ad,(M=true->some ⟨d.size,0,none⟩=some ad)/\∃ae,(M=true->zc L (Ai ad 1)=some (slV ae))/\((bif M then(decide ((ae.len:Int)>0))else false)=true->XC Tp 62 #[.pointer (some ⟨d.size,0,none⟩),.int .i64 2] L (λaf ag=>∃ah,af=.bool ah/\N ah ag))/\((bif M then(decide ((ae.len:Int)>0))else false)=false->N M L))))))):
  XC Tp 19 #[.string s0] h R:=
 XF ⟨[(9,8000),(15,8000)],[(6,[(28,.one (.int .i64))])],[(14,[(11,.one (.bool))])]⟩ [.cell 2 36,.tmp 3,.tmp 4] 79 Tryz.func19 H
theorem zju(s0:Bt)(h:za)(R:Value->za->Prop)
  (H:XC Tp 80 #[.string s0] h (λa b=>∃c d,a=.tuple #[.int .i64 c,.bool d]/\((!d)=true->R (.tuple #[.string (⟨#[]⟩:Bt),.int .i64 2]) b)/\((!d)=false->let e:=b.push (.cells #[.pointer none,.slice none 0 0] 112);XC Tp 81 #[.pointer (some ⟨b.size,0,none⟩),.int .u8 34] e (λf g=>∃i:Value,f=i/\let j:=g.push (.stringIter s0 0);∃(k:za->Prop) (l:za->Nat),k j/\∀m:za,k m->(Z5 Tp (Dm (.pointer (some ⟨g.size,0,none⟩)) true 0) m (λn o=>(n=.tuple #[.bool false]/\(false=true->False)/\(false=false->XC Tp 81 #[.pointer (some ⟨b.size,0,none⟩),.int .u8 34] o (λp q=>∃r:Value,p=r/\XC Tp 87 #[.pointer (some ⟨b.size,0,none⟩)] q (λs t=>∃u,s=.string u/\R (.tuple #[.string u,.int .i64 0]) t))))\/∃v w:Int,n=.tuple #[.bool true,.int .i64 v,.int .i32 w]/\(true=true->XC Tp 82 #[.int .i32 w] o (λx y=>∃z,x=.int .u8 z/\((z != 0)=true->XC Tp 81 #[.pointer (some ⟨b.size,0,none⟩),.int .u8 92] y (λA B=>∃C:Value,A=C/\XC Tp 81 #[.pointer (some ⟨b.size,0,none⟩),.int .u8 z] B (λD E=>∃F:Value,D=F/\(k E/\l E<l m))))/\((z != 0)=false->(decide (w>=32)=true->XC Tp 83 #[.pointer (some ⟨b.size,0,none⟩),.int .i32 w] y (λG I=>∃J,∃L:Value,G=.tuple #[.int .i64 J,L]/\(k I/\l I<l m)))/\(decide (w>=32)=false->XC Tp 84 #[.int .i64 (Aa .i64 w),.int .i64 16] y (λM N=>∃O,M=.string O/\XC Tp 86 #[.string (⟨#[48]⟩:Bt),.int .i64 (Aa .i64 (4-(O.size:Int)))] N (λP Q=>∃S,P=.string S/\Zw (((⟨#[92,117]⟩:Bt)).size+S.size)/\Zw (((⟨#[92,117]⟩:Bt)++S).size+O.size)/\XC Tp 85 #[.pointer (some ⟨b.size,0,none⟩),.string (((⟨#[92,117]⟩:Bt)++S)++O)] Q (λT U=>∃V,∃W:Value,T=.tuple #[.int .i64 V,W]/\(k U/\l U<l m))))))))/\(true=false->XC Tp 81 #[.pointer (some ⟨b.size,0,none⟩),.int .u8 34] o (λX Y=>∃Z:Value,X=Z/\XC Tp 87 #[.pointer (some ⟨b.size,0,none⟩)] Y (λaa ab=>∃ac,aa=.string ac/\R (.tuple #[.string ac,.int .i64 0]) ab))))))))):
  XC Tp 27 #[.string s0] h R:=
 XF ⟨[],[(7,[])],[]⟩ [.tmp 2,.tmp 3] 48 Tryz.func27 H
theorem zpw(b:Bt)(c:Sl)(k1:Int)(a8:Int)(h:za)(R:Value->za->Prop)
  (H:let d:=h.push (.cells #[.string b,slV c] 36);let e:=d.push (.cells #[.int .i64 0,.string (⟨#[]⟩:Bt),.slice none 0 0,.slice none 0 0] 26);∃f,zc e (Ai ⟨h.size,0,none⟩ 1)=some (slV f)/\∃g,(f.a=some g/\0<=k1/\k1<f.len)/\∃i j k l m n o,zd e (g.add (k1.toNat*7)) 0 [.int .i64 i,.int .i64 j,.int .i64 k,.int .i64 l,.int .i64 m,slV n,slV o]/\let p:=e.push (.cells #[.int .i64 0,.int .i64 0,.int .i64 0,.int .i64 0,.int .i64 0,.slice none 0 0,.slice none 0 0] 62);zk Tp (An 62 (.pointer (some ⟨e.size,0,none⟩)) (.agg #[.int .i64 i,.int .i64 j,.int .i64 k,.int .i64 l,.int .i64 m,slV n,slV o])) p (λq=>∀r:Addr->za->Prop,(∀s:Addr,∀t:za,(∃u,zc t (Ai ⟨e.size,0,none⟩ 5)=some (slV u)/\∃(v:Int->za->Prop) (w:Int->za->Nat),v 0 t/\∀x:Int,∀y:za,v x y->((decide (x<u.len)=true->∃z,zc y (Ai ⟨e.size,0,none⟩ 5)=some (slV z)/\∃A,(z.a=some A/\0<=x/\x<z.len)/\∃B,zc y (A.add (x.toNat*1))=some (.int .i64 B)/\∃C,((!(decide (B<0)))=true->zc y (Ai ⟨h.size,0,none⟩ 1)=some (slV C))/\((bif (bif (decide (B<0))then true else(decide (B>=C.len)))then true else(decide (a8>32)))=true->∃D E F G,zd y s 0 [.int .i64 D,.string E,slV F,slV G]/\zk Tp (An 26 (.pointer (some ⟨d.size,0,none⟩)) (.agg #[.int .i64 D,.string E,slV F,slV G])) y (λI=>∃J L M N,zd I ⟨d.size,0,none⟩ 0 [.int .i64 J,.string L,slV M,slV N]/\R (.agg #[.int .i64 J,.string L,slV M,slV N]) I))/\((bif (bif (decide (B<0))then true else(decide (B>=C.len)))then true else(decide (a8>32)))=false->∀O:za->Prop,(∀P:za,(∃Q,zc P (Ai s 3)=some (slV Q)/\∃S T,zd P ⟨h.size,0,none⟩ 0 [.string S,slV T]/\XC Tp 59 #[.agg #[.string S,slV T],.int .i64 B,.int .i64 (Aa .i64 (a8+1))] P (λU V=>∃W X Y Z,U=.agg #[.int .i64 W,.string X,slV Y,slV Z]/\(V)[((Ai s 3):Addr).block]?=(P)[((Ai s 3):Addr).block]?/\let aa:=V.push (.cells #[.int .i64 W,.string X,slV Y,slV Z] 26);(aa)[((Ai s 3):Addr).block]?=(P)[((Ai s 3):Addr).block]?/\Z5 Tp (AB #[24,24] 24 #[slV Q,.slice (some ⟨V.size,0,none⟩) 1 1]) aa (λab ac=>∃ae,ab=slV ae/\zk Tp (An 24 (.pointer (some (Ai s 3))) (slV ae)) ac (λaf=>(v (Aa .i64 (x+1)) af/\w (Aa .i64 (x+1)) af<w x y)))))->O P)->∃ag,zc y (Ai ⟨e.size,0,none⟩ 0)=some (.int .i64 ag)/\((ag==6)=true->∃ah,zc y (Ai s 2)=some (slV ah)/\∃ai aj,zd y ⟨h.size,0,none⟩ 0 [.string ai,slV aj]/\XC Tp 112 #[.agg #[.string ai,slV aj],.int .i64 B] y (λak al=>∃am,ak=.string am/\(al)[((Ai s 2):Addr).block]?=(y)[((Ai s 2):Addr).block]?/\let an:=al.push (.cells #[.string am] 9);(an)[((Ai s 2):Addr).block]?=(y)[((Ai s 2):Addr).block]?/\Z5 Tp (AB #[23,23] 23 #[slV ah,.slice (some ⟨al.size,0,none⟩) 1 1]) an (λao ap=>∃aq,ao=slV aq/\zk Tp (An 23 (.pointer (some (Ai s 2))) (slV aq)) ap (λar=>O ar))))/\((ag==6)=false->O y)))/\(decide (x<u.len)=false->∃au av aw ax,zd y s 0 [.int .i64 au,.string av,slV aw,slV ax]/\zk Tp (An 26 (.pointer (some ⟨d.size,0,none⟩)) (.agg #[.int .i64 au,.string av,slV aw,slV ax])) y (λay=>∃az aA aB aC,zd ay ⟨d.size,0,none⟩ 0 [.int .i64 az,.string aA,slV aB,slV aC]/\R (.agg #[.int .i64 az,.string aA,slV aB,slV aC]) ay))))->r s t)->∃aD,zc q (Ai ⟨e.size,0,none⟩ 0)=some (.int .i64 aD)/\∃aE,zc q (Ai ⟨e.size,0,none⟩ 0)=some (.int .i64 aE)/\∃aF aG,zd q ⟨h.size,0,none⟩ 0 [.string aF,slV aG]/\∃aH aI,zd q (Ai ⟨e.size,0,none⟩ 1) 0 [.int .i64 aH,.int .i64 aI]/\(XC Tp 31 #[.agg #[.string aF,slV aG],.agg #[.int .i64 aH,.int .i64 aI]] q (λaJ aL=>∃aM,aJ=.string aM/\(aL)[((Ai ⟨e.size,0,none⟩ 0):Addr).block]?=(q)[((Ai ⟨e.size,0,none⟩ 0):Addr).block]?/\(aL)[((Ai ⟨e.size,0,none⟩ 0):Addr).block]?=(q)[((Ai ⟨e.size,0,none⟩ 0):Addr).block]?/\(XC Tp 111 #[.int .i64 aE,.string aM] aL (λaN aO=>∃aP,aN=.string aP/\(aO)[((Ai ⟨e.size,0,none⟩ 0):Addr).block]?=(q)[((Ai ⟨e.size,0,none⟩ 0):Addr).block]?/\(let aQ:=aO.push (.cells #[.int .i64 0,.string (⟨#[]⟩:Bt),.slice none 0 0,.slice none 0 0] 26);zk Tp (An 26 (.pointer (some ⟨aO.size,0,none⟩)) (.agg #[.int .i64 aD,.string aP,.slice none 0 0,.slice none 0 0])) aQ (λaS=>r ⟨aO.size,0,none⟩ aS))/\(let aT:=aO.push (.cells #[.int .i64 0,.string (⟨#[]⟩:Bt),.slice none 0 0,.slice none 0 0] 26);(aT)[((Ai ⟨e.size,0,none⟩ 0):Addr).block]?=(q)[((Ai ⟨e.size,0,none⟩ 0):Addr).block]?/\zk Tp (An 26 (.pointer (some ⟨aO.size,0,none⟩)) (.agg #[.int .i64 aD,.string aP,.slice none 0 0,.slice none 0 0])) aT (λaU=>r ⟨aO.size,0,none⟩ aU))))/\(let aV:=aL.push (.cells #[.int .i64 0,.string (⟨#[]⟩:Bt),.slice none 0 0,.slice none 0 0] 26);(aV)[((Ai ⟨e.size,0,none⟩ 0):Addr).block]?=(q)[((Ai ⟨e.size,0,none⟩ 0):Addr).block]?/\(aV)[((Ai ⟨e.size,0,none⟩ 0):Addr).block]?=(q)[((Ai ⟨e.size,0,none⟩ 0):Addr).block]?/\XC Tp 111 #[.int .i64 aE,.string aM] aV (λaW aX=>∃aY,aW=.string aY/\(aX)[((Ai ⟨e.size,0,none⟩ 0):Addr).block]?=(q)[((Ai ⟨e.size,0,none⟩ 0):Addr).block]?/\zk Tp (An 26 (.pointer (some ⟨aL.size,0,none⟩)) (.agg #[.int .i64 aD,.string aY,.slice none 0 0,.slice none 0 0])) aX (λaZ=>r ⟨aL.size,0,none⟩ aZ)))))/\(let a0:=q.push (.cells #[.int .i64 0,.string (⟨#[]⟩:Bt),.slice none 0 0,.slice none 0 0] 26);(a0)[((Ai ⟨e.size,0,none⟩ 1):Addr).block]?=(q)[((Ai ⟨e.size,0,none⟩ 1):Addr).block]?/\(a0)[(⟨h.size,0,none⟩:Addr).block]?=(q)[(⟨h.size,0,none⟩:Addr).block]?/\(a0)[((Ai ⟨e.size,0,none⟩ 0):Addr).block]?=(q)[((Ai ⟨e.size,0,none⟩ 0):Addr).block]?/\(a0)[((Ai ⟨e.size,0,none⟩ 0):Addr).block]?=(q)[((Ai ⟨e.size,0,none⟩ 0):Addr).block]?/\XC Tp 31 #[.agg #[.string aF,slV aG],.agg #[.int .i64 aH,.int .i64 aI]] a0 (λa1 a2=>∃a3,a1=.string a3/\(a2)[((Ai ⟨e.size,0,none⟩ 0):Addr).block]?=(q)[((Ai ⟨e.size,0,none⟩ 0):Addr).block]?/\(a2)[((Ai ⟨e.size,0,none⟩ 0):Addr).block]?=(q)[((Ai ⟨e.size,0,none⟩ 0):Addr).block]?/\XC Tp 111 #[.int .i64 aE,.string a3] a2 (λa4 a5=>∃a6,a4=.string a6/\(a5)[((Ai ⟨e.size,0,none⟩ 0):Addr).block]?=(q)[((Ai ⟨e.size,0,none⟩ 0):Addr).block]?/\zk Tp (An 26 (.pointer (some ⟨q.size,0,none⟩)) (.agg #[.int .i64 aD,.string a6,.slice none 0 0,.slice none 0 0])) a5 (λa7=>r ⟨q.size,0,none⟩ a7)))))):
  XC Tp 59 #[.agg #[.string b,.slice c.a c.len c.cap],.int .i64 k1,.int .i64 a8] h R:=
 XF ⟨[(11,8000),(10,8000),(2,8000)],[(4,[(29,.one (.int .i64))])],[(3,[(8,.one (.ad))]),(11,[])]⟩ [.cell 6 26] 74 Tryz.func59 H
theorem Qh(p0:Option Addr)(aC:Int)(b:Int)(c:Int)(h:za)(R:Value->za->Prop)
  (H:let d:=h.push (.cells #[.pointer p0] 86);let e:=d.push (.cells #[.int .i64 b,.int .i64 c] 58);∃f:Option Addr,zc e ⟨h.size,0,none⟩=some (.pointer f)/\XC Tp 115 #[.pointer f] e (λg i=>∃j,g=.int .i64 j/\XC Tp 114 #[.int .i64 j] i (λk l=>∃m,k=.int .i64 m/\((m==0)=true->∃n:Option Addr,zc l ⟨h.size,0,none⟩=some (.pointer n)/\XC Tp 62 #[.pointer n,.int .i64 2] l (λo p=>∃q,o=.bool q/\R (.bool q) p))/\((m==0)=false->(decide (aC>32)=true->∃r:Option Addr,zc l ⟨h.size,0,none⟩=some (.pointer r)/\XC Tp 62 #[.pointer r,.int .i64 5] l (λs t=>∃u,s=.bool u/\R (.bool u) t))/\(decide (aC>32)=false->∃v:Option Addr,zc l ⟨h.size,0,none⟩=some (.pointer v)/\∃w,v=some w/\∃x,zc l (Ai w 4)=some (slV x)/\(((x.len:Int)==4096)=true->∃y:Option Addr,zc l ⟨h.size,0,none⟩=some (.pointer y)/\XC Tp 62 #[.pointer y,.int .i64 6] l (λz A=>∃B,z=.bool B/\R (.bool B) A))/\(((x.len:Int)==4096)=false->∃C:Option Addr,zc l ⟨h.size,0,none⟩=some (.pointer C)/\∃D,C=some D/\∃E,zc l (Ai D 4)=some (slV E)/\∃F:Option Addr,zc l ⟨h.size,0,none⟩=some (.pointer F)/\∃G:Option Addr,zc l ⟨h.size,0,none⟩=some (.pointer G)/\∃I,G=some I/\∃J,zc l (Ai I 4)=some (slV J)/\∃L:Option Addr,zc l ⟨h.size,0,none⟩=some (.pointer L)/\∃M,L=some M/\∃N,zc l (Ai M 1)=some (slV N)/\∃O,(N.a=some O/\0<=(0:Int)/\(0:Int)<(N.len:Int))/\∃P Q,zd l (Ai (O.add ((0:Int).toNat*3)) 1) 0 [.int .i64 P,.int .i64 Q]/\∃S T,zd l ⟨d.size,0,none⟩ 0 [.int .i64 S,.int .i64 T]/\(l)[((Ai I 4):Addr).block]?=(l)[((Ai I 4):Addr).block]?/\(l)[(⟨h.size,0,none⟩:Addr).block]?=(l)[(⟨h.size,0,none⟩:Addr).block]?/\(l)[(⟨h.size,0,none⟩:Addr).block]?=(l)[(⟨h.size,0,none⟩:Addr).block]?/\let U:=l.push (.cells #[.int .i64 m,.int .i64 P,.int .i64 Q,.int .i64 S,.int .i64 T,.slice none 0 0,.slice none 0 0] 62);(U)[((Ai I 4):Addr).block]?=(l)[((Ai I 4):Addr).block]?/\(U)[(⟨h.size,0,none⟩:Addr).block]?=(l)[(⟨h.size,0,none⟩:Addr).block]?/\(U)[(⟨h.size,0,none⟩:Addr).block]?=(l)[(⟨h.size,0,none⟩:Addr).block]?/\Z5 Tp (AB #[34,34] 34 #[slV J,.slice (some ⟨l.size,0,none⟩) 1 1]) U (λV W=>∃X,V=slV X/\∃Y,F=some Y/\(W)[(⟨h.size,0,none⟩:Addr).block]?=(l)[(⟨h.size,0,none⟩:Addr).block]?/\zk Tp (An 34 (.pointer (some (Ai Y 4))) (slV X)) W (λZ=>∃aa:Option Addr,zc Z ⟨h.size,0,none⟩=some (.pointer aa)/\XC Tp 116 #[.pointer aa] Z (λab ac=>ab=.tuple #[]/\∀ad:Bool->za->Prop,(∀ae:Bool,∀af:za,(∃ag:Option Addr,zc af ⟨h.size,0,none⟩=some (.pointer ag)/\∃ah,ag=some ah/\∃ai,zc af (Ai ah 4)=some (slV ai)/\∃aj:Option Addr,zc af ⟨h.size,0,none⟩=some (.pointer aj)/\∃ak,aj=some ak/\∃al,zc af (Ai (Ai ak 2) 1)=some (.int .i64 al)/\∃am,(ai.a=some am/\0<=(E.len:Int)/\(E.len:Int)<(ai.len:Int))/\zk Tp (An 3 (.pointer (some (Ai (Ai (am.add ((E.len:Int).toNat*7)) 1) 1))) (.int .i64 al)) af (λan=>R (.bool ae) an))->ad ae af)->((m==5)=true->∃ao:Option Addr,zc ac ⟨h.size,0,none⟩=some (.pointer ao)/\∃ap:Option Addr,zc ac ⟨h.size,0,none⟩=some (.pointer ap)/\XC Tp 117 #[.pointer ao,.int .i64 (E.len:Int),.int .i64 aC,.int .i64 5,.func (.func 118) #[.pointer ap] #[]] ac (λaq ar=>∃au,aq=.bool au/\ad au ar))/\((m==5)=false->((m==6)=true->let av:=ac.push (.map #[] 0);let aw:=av.push (.cells #[.map none] 154);zk Tp (An 154 (.pointer (some ⟨av.size,0,none⟩)) (.map (some ac.size))) aw (λax=>∃ay:Option Addr,zc ax ⟨h.size,0,none⟩=some (.pointer ay)/\XC Tp 117 #[.pointer ay,.int .i64 (E.len:Int),.int .i64 aC,.int .i64 3,.func (.func 119) #[] #[.pointer (some ⟨h.size,0,none⟩),.pointer (some ⟨av.size,0,none⟩)]] ax (λaz aA=>∃aB,az=.bool aB/\ad aB aA)))/\((m==6)=false->ad true ac))))))))))):
  XC Tp 61 #[.pointer p0,.int .i64 aC,.agg #[.int .i64 b,.int .i64 c]] h R:=
 XF ⟨[(9,8000),(18,8000)],[],[(18,[(9,.one (.bool))])]⟩ [.tmp 6] 90 Tryz.func61 H
theorem zcd(p0:Option Addr)(Z:Int)(h:za)(R:Value->za->Prop)
  (H:XC Tp 121 #[.pointer p0] h (λa b=>∃c,a=.int .i64 c/\∃d,p0=some d/\zk Tp (An 3 (.pointer (some (Ai d 5))) (.int .i64 c)) b (λe=>∃f,p0=some f/\zk Tp (An 27 (.pointer (some (Ai f 6))) (.int .i64 Z)) e (λg=>R (.bool false) g)))):
  XC Tp 62 #[.pointer p0,.int .i64 Z] h R:=
 XF ⟨[],[],[]⟩ [.tmp 4] 14 Tryz.func62 H
theorem Qo(b0:Option Addr)(r1:Int)(h:za)(R:Value->za->Prop)
  (H:XC Tp 152 #[.pointer b0] h (λb c=>b=.tuple #[]/\∃d,b0=some d/\∃e,zc c (Ai d 1)=some (slV e)/\∃f,b0=some f/\∃g,zc c (Ai f 1)=some (slV g)/\XC Tp 153 #[slV g,.int .i32 r1] c (λi j=>∃k,i=slV k/\∃l,b0=some l/\zk Tp (An 110 (.pointer (some (Ai l 1))) (slV k)) j (λm=>∃n,b0=some n/\∃o,zc m (Ai n 1)=some (slV o)/\R (.tuple #[.int .i64 (Aa .i64 ((o.len:Int)-(e.len:Int))),.nilIface]) m)))):
  XC Tp 83 #[.pointer b0,.int .i32 r1] h R:=
 XF ⟨[],[],[]⟩ [.tmp 4,.tmp 5] 30 Tryz.func83 H
theorem zxi(s0:Bt)(h:za)(R:Value->za->Prop)
  (H:let a:=h.push (.cells #[.string s0] 9);R (.func (.func 197) #[] #[.pointer (some ⟨h.size,0,none⟩)]) a):
  XC Tp 113 #[.string s0] h R:=
 XF ⟨[],[],[]⟩ [.tmp 2] 4 Tryz.func113 H
theorem zce(p0:Option Addr)(h:za)(R:Value->za->Prop)
  (H:∃b,p0=some b/\∃c,zc h (Ai b 1)=some (slV c)/\(((c.len:Int)==0)=true->R (.int .i64 0) h)/\(((c.len:Int)==0)=false->∃d,p0=some d/\∃e,zc h (Ai d 1)=some (slV e)/\∃f,(e.a=some f/\0<=(0:Int)/\(0:Int)<(e.len:Int))/\∃g,zc h (Ai (f.add ((0:Int).toNat*3)) 0)=some (.int .i64 g)/\R (.int .i64 g) h)):
  XC Tp 115 #[.pointer p0] h R:=
 XF ⟨[],[],[]⟩ [.tmp 2] 16 Tryz.func115 H
theorem zcf(p0:Option Addr)(h:za)(R:Value->za->Prop)
  (H:∃b,p0=some b/\∃c,zc h (Ai b 1)=some (slV c)/\∃d,(c.a=some d/\0<=(0:Int)/\(0:Int)<(c.len:Int))/\∃e f,zd h (Ai (d.add ((0:Int).toNat*3)) 1) 0 [.int .i64 e,.int .i64 f]/\∃g,p0=some g/\∃i,zc h (Ai g 1)=some (slV i)/\((none:Option Value)=none\/∃v,(none:Option Value)=some v)/\(0<=(1:Int)/\(1:Int)<=(i.len:Int)/\(i.len:Int)<=(i.cap:Int)/\(i.cap:Int)<=(i.cap:Int))/\∃j,p0=some j/\zk Tp (An 58 (.pointer (some (Ai j 2))) (.agg #[.int .i64 e,.int .i64 f])) h (λk=>∃l,p0=some l/\zk Tp (An 83 (.pointer (some (Ai l 1))) (.slice (zjc i.a 3 ((1:Int).toNat) ((i.cap:Int).toNat)) ((i.len:Int).toNat-(1:Int).toNat) ((i.cap:Int).toNat-(1:Int).toNat))) k (λm=>R (.tuple #[]) m))):
  XC Tp 116 #[.pointer p0] h R:=
 XF ⟨[(0,8000)],[],[]⟩ [] 20 Tryz.func116 H
theorem zcg(p0:Option Addr)(n1:Int)(ab:Int)(Z:Int)(aa:FuncId)(ae:Array Value)(af:Array Value)(h:za)(R:Value->za->Prop)
  (H:XC Tp 199 #[.pointer p0,.int .i64 Z] h (λb c=>∃d,b=.bool d/\(d=true->R (.bool true) c)/\(d=false->∃(e:za->Prop) (f:za->Nat),e c/\∀g:za,e g->(∃i,p0=some i/\∃j,zc g (Ai (Ai i 2) 1)=some (.int .i64 j)/\∃k,p0=some k/\∃l,zc g (Ai k 4)=some (slV l)/\zj Tp aa=true/\XC Tp aa (ae++#[.int .i64 (Aa .i64 (ab+1))]++af) g (λm n=>∃o,m=.bool o/\((!o)=true->R (.bool false) n)/\((!o)=false->∃p,p0=some p/\∃q,zc n (Ai p 4)=some (slV q)/\∃r,(q.a=some r/\0<=n1/\n1<q.len)/\∃s,some (r.add (n1.toNat*7))=some s/\∃t,zc n (Ai s 5)=some (slV t)/\let u:=n.push (.cells #[.int .i64 (l.len:Int)] 3);Z5 Tp (AB #[59,59] 59 #[slV t,.slice (some ⟨n.size,0,none⟩) 1 1]) u (λv w=>∃x,v=slV x/\∃y,some (r.add (n1.toNat*7))=some y/\zk Tp (An 59 (.pointer (some (Ai y 5))) (slV x)) w (λz=>∃A,some (r.add (n1.toNat*7))=some A/\∃B,zc z (Ai A 6)=some (slV B)/\XC Tp 121 #[.pointer p0] z (λC D=>∃E,C=.int .i64 E/\(D)[((Ai A 6):Addr).block]?=(z)[((Ai A 6):Addr).block]?/\(D)[((Ai A 6):Addr).block]?=(z)[((Ai A 6):Addr).block]?/\let F:=D.push (.cells #[.int .i64 j,.int .i64 E] 58);(F)[((Ai A 6):Addr).block]?=(z)[((Ai A 6):Addr).block]?/\Z5 Tp (AB #[60,60] 60 #[slV B,.slice (some ⟨D.size,0,none⟩) 1 1]) F (λG I=>∃J,G=slV J/\∃L,some (r.add (n1.toNat*7))=some L/\zk Tp (An 60 (.pointer (some (Ai L 6))) (slV J)) I (λM=>XC Tp 199 #[.pointer p0,.int .i64 Z] M (λN O=>∃P,N=.bool P/\(P=true->R (.bool true) O)/\(P=false->XC Tp 199 #[.pointer p0,.int .i64 6] O (λQ S=>∃T,Q=.bool T/\((!T)=true->XC Tp 62 #[.pointer p0,.int .i64 2] S (λU V=>∃W,U=.bool W/\R (.bool W) V))/\((!T)=false->(e S/\f S<f g)))))))))))))))):
  XC Tp 117 #[.pointer p0,.int .i64 n1,.int .i64 ab,.int .i64 Z,.func (.func aa) ae af] h R:=
 XF ⟨[(8,8000)],[(3,[])],[]⟩ [.tmp 10] 71 Tryz.func117 H
theorem zch(p0:Option Addr)(Z:Int)(h:za)(R:Value->za->Prop)
  (H:XC Tp 61 #[.pointer p0,.int .i64 Z,.agg #[.int .i64 0,.int .i64 0]] h (λa b=>∃c,a=.bool c/\R (.bool c) b)):
  XC Tp 118 #[.pointer p0,.int .i64 Z] h R:=
 XF ⟨[],[],[]⟩ [.tmp 4] 9 Tryz.func118 H
theorem Xb(Z:Int)(c1:Addr)(c2:Addr)(h:za)(R:Value->za->Prop)
  (H:∃a:Option Addr,zc h c1=some (.pointer a)/\∃b:Option Nat,zc h c2=some (.map b)/\XC Tp 120 #[.pointer a,.int .i64 Z,.map b] h (λc d=>∃e,c=.bool e/\R (.bool e) d)):
  XC Tp 119 #[.int .i64 Z,.pointer (some c1),.pointer (some c2)] h R:=
 XF ⟨[],[],[]⟩ [.tmp 4] 9 Tryz.func119 H
theorem X8(p0:Option Addr)(Z:Int)(aa:Option Nat)(h:za)(R:Value->za->Prop)
  (H:XC Tp 115 #[.pointer p0] h (λb c=>∃d,b=.int .i64 d/\((d != 8)=true->XC Tp 62 #[.pointer p0,.int .i64 2] c (λe f=>∃g,e=.bool g/\R (.bool g) f))/\((d != 8)=false->∃i,p0=some i/\∃j,zc c (Ai i 1)=some (slV j)/\∃k,(j.a=some k/\0<=(0:Int)/\(0:Int)<(j.len:Int))/\∃l m,zd c (Ai (k.add ((0:Int).toNat*3)) 1) 0 [.int .i64 l,.int .i64 m]/\let n:=c.push (.cells #[.int .i64 0,.int .i64 0] 58);zk Tp (An 58 (.pointer (some ⟨c.size,0,none⟩)) (.agg #[.int .i64 l,.int .i64 m])) n (λo=>∃p,p0=some p/\∃q,zc o (Ai p 0)=some (.string q)/\∃r,zc o (Ai ⟨c.size,0,none⟩ 0)=some (.int .i64 r)/\∃s,zc o (Ai ⟨c.size,0,none⟩ 1)=some (.int .i64 s)/\(0<=r/\r<=s/\s<=q.size)/\XC Tp 196 #[.string (q.extract r.toNat s.toNat)] o (λt u=>∃v w x,t=.tuple #[.string v,.int .i64 w,.int .i64 x]/\∃y,QExec Tp (Ed 154 (.map aa) (.string v) false) u (.bool y)/\(y=true->XC Tp 62 #[.pointer p0,.int .i64 7] u (λz A=>∃B,z=.bool B/\R (.bool B) A))/\(y=false->zk Tp (CN 154 (.map aa) (.string v) (.bool true)) u (λC=>XC Tp 116 #[.pointer p0] C (λD E=>D=.tuple #[]/\XC Tp 199 #[.pointer p0,.int .i64 7] E (λF G=>∃I,F=.bool I/\((!I)=true->XC Tp 62 #[.pointer p0,.int .i64 2] G (λJ L=>∃M,J=.bool M/\R (.bool M) L))/\((!I)=false->∃N O,zd G ⟨c.size,0,none⟩ 0 [.int .i64 N,.int .i64 O]/\XC Tp 61 #[.pointer p0,.int .i64 Z,.agg #[.int .i64 N,.int .i64 O]] G (λP Q=>∃S,P=.bool S/\R (.bool S) Q))))))))))):
  XC Tp 120 #[.pointer p0,.int .i64 Z,.map aa] h R:=
 XF ⟨[(4,8000)],[],[]⟩ [.tmp 6] 55 Tryz.func120 H
theorem zci(p0:Option Addr)(h:za)(R:Value->za->Prop)
  (H:∃b,p0=some b/\∃c,zc h (Ai b 1)=some (slV c)/\(((c.len:Int)==0)=true->∃d,p0=some d/\∃e,zc h (Ai d 0)=some (.string e)/\R (.int .i64 (e.size:Int)) h)/\(((c.len:Int)==0)=false->∃f,p0=some f/\∃g,zc h (Ai f 1)=some (slV g)/\∃i,(g.a=some i/\0<=(0:Int)/\(0:Int)<(g.len:Int))/\∃j,zc h (Ai (Ai (i.add ((0:Int).toNat*3)) 1) 0)=some (.int .i64 j)/\R (.int .i64 j) h)):
  XC Tp 121 #[.pointer p0] h R:=
 XF ⟨[],[],[]⟩ [.tmp 2] 22 Tryz.func121 H
theorem zsr(s0:Bt)(bz:Int)(h:za)(R:Value->za->Prop)
  (H:let a:=h.push (.cells #[.int .i64 bz] 3);let b:=a.push (.cells #[.int .i64 0,.int .i64 0,.int .i64 0] 90);∃c,zc b ⟨h.size,0,none⟩=some (.int .i64 c)/\(0<=c/\c<=s0.size/\(s0.size:Int)<=(s0.size:Int))/\(0<=(0:Int)/\(0:Int)<((s0.extract c.toNat (s0.size:Int).toNat).size:Int))/\XC Tp 212 #[.string (⟨#[123,125,91,93,44,58]⟩:Bt),.int .u8 (zb (s0.extract c.toNat (s0.size:Int).toNat) (0:Int).toNat)] b (λd e=>∃f,d=.int .i64 f/\(decide (f>=0)=true->∃g,zc e ⟨h.size,0,none⟩=some (.int .i64 g)/\zj Tp 254=true/\XC Tp 254 #[.int .i64 (Aa .i64 (2+f)),.int .i64 (Aa .i64 (g+1)),.pointer (some ⟨h.size,0,none⟩)] e (λi j=>∃k l m n,i=.tuple #[.agg #[.int .i64 k,.int .i64 l,.int .i64 m],.int .i64 n]/\zk Tp (An 90 (.pointer (some ⟨a.size,0,none⟩)) (.agg #[.int .i64 k,.int .i64 l,.int .i64 m])) j (λo=>∃p q r,zd o ⟨a.size,0,none⟩ 0 [.int .i64 p,.int .i64 q,.int .i64 r]/\R (.tuple #[.agg #[.int .i64 p,.int .i64 q,.int .i64 r],.int .i64 n]) o)))/\(decide (f>=0)=false->XC Tp 212 #[.string (⟨#[32,9,10,13]⟩:Bt),.int .u8 (zb (s0.extract c.toNat (s0.size:Int).toNat) (0:Int).toNat)] e (λs t=>∃u,s=.int .i64 u/\(decide (u>=0)=true->∃v,zc t ⟨h.size,0,none⟩=some (.int .i64 v)/\XC Tp 257 #[.string (⟨#[32,9,10,13]⟩:Bt)] t (λw x=>∃y:Value,w=y/\(x)[(⟨h.size,0,none⟩:Addr).block]?=(t)[(⟨h.size,0,none⟩:Addr).block]?/\XC Tp 256 #[.string (s0.extract c.toNat (s0.size:Int).toNat),y] x (λz A=>∃B,z=.int .i64 B/\(A)[(⟨h.size,0,none⟩:Addr).block]?=(t)[(⟨h.size,0,none⟩:Addr).block]?/\zj Tp 254=true/\XC Tp 254 #[.int .i64 1,.int .i64 (Aa .i64 (v+B)),.pointer (some ⟨h.size,0,none⟩)] A (λC D=>∃E F G I,C=.tuple #[.agg #[.int .i64 E,.int .i64 F,.int .i64 G],.int .i64 I]/\zk Tp (An 90 (.pointer (some ⟨a.size,0,none⟩)) (.agg #[.int .i64 E,.int .i64 F,.int .i64 G])) D (λJ=>∃L M N,zd J ⟨a.size,0,none⟩ 0 [.int .i64 L,.int .i64 M,.int .i64 N]/\R (.tuple #[.agg #[.int .i64 L,.int .i64 M,.int .i64 N],.int .i64 I]) J)))))/\(decide (u>=0)=false->(((zb (s0.extract c.toNat (s0.size:Int).toNat) (0:Int).toNat:Int)==34)=true->∃O,zc t ⟨h.size,0,none⟩=some (.int .i64 O)/\XC Tp 258 #[.string s0,.int .i64 O] t (λP Q=>∃S T,P=.tuple #[.int .i64 S,.int .i64 T]/\((T != 0)=true->zj Tp 255=true/\XC Tp 255 #[.int .i64 S,.int .i64 T] Q (λU V=>∃W X Y Z,U=.tuple #[.agg #[.int .i64 W,.int .i64 X,.int .i64 Y],.int .i64 Z]/\zk Tp (An 90 (.pointer (some ⟨a.size,0,none⟩)) (.agg #[.int .i64 W,.int .i64 X,.int .i64 Y])) V (λaa=>∃ab ac ad,zd aa ⟨a.size,0,none⟩ 0 [.int .i64 ab,.int .i64 ac,.int .i64 ad]/\R (.tuple #[.agg #[.int .i64 ab,.int .i64 ac,.int .i64 ad],.int .i64 Z]) aa)))/\((T != 0)=false->zj Tp 254=true/\XC Tp 254 #[.int .i64 8,.int .i64 S,.pointer (some ⟨h.size,0,none⟩)] Q (λae af=>∃ag ah ai aj,ae=.tuple #[.agg #[.int .i64 ag,.int .i64 ah,.int .i64 ai],.int .i64 aj]/\zk Tp (An 90 (.pointer (some ⟨a.size,0,none⟩)) (.agg #[.int .i64 ag,.int .i64 ah,.int .i64 ai])) af (λak=>∃al am an,zd ak ⟨a.size,0,none⟩ 0 [.int .i64 al,.int .i64 am,.int .i64 an]/\R (.tuple #[.agg #[.int .i64 al,.int .i64 am,.int .i64 an],.int .i64 aj]) ak)))))/\(((zb (s0.extract c.toNat (s0.size:Int).toNat) (0:Int).toNat:Int)==34)=false->((bif ((zb (s0.extract c.toNat (s0.size:Int).toNat) (0:Int).toNat:Int)==45)then true else(bif (decide ((zb (s0.extract c.toNat (s0.size:Int).toNat) (0:Int).toNat:Int)>=48))then(decide ((zb (s0.extract c.toNat (s0.size:Int).toNat) (0:Int).toNat:Int)<=57))else false))=true->∃ao,zc t ⟨h.size,0,none⟩=some (.int .i64 ao)/\XC Tp 257 #[.string (⟨#[45,43,46,48,49,50,51,52,53,54,55,56,57,101,69]⟩:Bt)] t (λap aq=>∃ar:Value,ap=ar/\(aq)[(⟨h.size,0,none⟩:Addr).block]?=(t)[(⟨h.size,0,none⟩:Addr).block]?/\XC Tp 256 #[.string (s0.extract c.toNat (s0.size:Int).toNat),ar] aq (λau av=>∃aw,au=.int .i64 aw/\(av)[(⟨h.size,0,none⟩:Addr).block]?=(t)[(⟨h.size,0,none⟩:Addr).block]?/\∃ax,zc av ⟨h.size,0,none⟩=some (.int .i64 ax)/\(0<=ax/\ax<=(Aa .i64 (ao+aw))/\(Aa .i64 (ao+aw))<=(s0.size:Int))/\XC Tp 25 #[.string (s0.extract ax.toNat (Aa .i64 (ao+aw)).toNat)] av (λay az=>∃aA aB aC aD,ay=.tuple #[.agg #[.bool aA,.string aB,.int .i64 aC],.int .i64 aD]/\let aE:=az.push (.cells #[.bool false,.string (⟨#[]⟩:Bt),.int .i64 0] 46);zk Tp (An 46 (.pointer (some ⟨az.size,0,none⟩)) (.agg #[.bool aA,.string aB,.int .i64 aC])) aE (λaF=>((aD != 0)=true->∃aG,zc aF ⟨h.size,0,none⟩=some (.int .i64 aG)/\zj Tp 255=true/\XC Tp 255 #[.int .i64 aG,.int .i64 aD] aF (λaH aI=>∃aJ aL aM aN,aH=.tuple #[.agg #[.int .i64 aJ,.int .i64 aL,.int .i64 aM],.int .i64 aN]/\zk Tp (An 90 (.pointer (some ⟨a.size,0,none⟩)) (.agg #[.int .i64 aJ,.int .i64 aL,.int .i64 aM])) aI (λaO=>∃aP aQ aS,zd aO ⟨a.size,0,none⟩ 0 [.int .i64 aP,.int .i64 aQ,.int .i64 aS]/\R (.tuple #[.agg #[.int .i64 aP,.int .i64 aQ,.int .i64 aS],.int .i64 aN]) aO)))/\((aD != 0)=false->zj Tp 254=true/\XC Tp 254 #[.int .i64 9,.int .i64 (Aa .i64 (ao+aw)),.pointer (some ⟨h.size,0,none⟩)] aF (λaT aU=>∃aV aW aX aY,aT=.tuple #[.agg #[.int .i64 aV,.int .i64 aW,.int .i64 aX],.int .i64 aY]/\zk Tp (An 90 (.pointer (some ⟨a.size,0,none⟩)) (.agg #[.int .i64 aV,.int .i64 aW,.int .i64 aX])) aU (λaZ=>∃a0 a1 a2,zd aZ ⟨a.size,0,none⟩ 0 [.int .i64 a0,.int .i64 a1,.int .i64 a2]/\R (.tuple #[.agg #[.int .i64 a0,.int .i64 a1,.int .i64 a2],.int .i64 aY]) aZ))))))))/\((bif ((zb (s0.extract c.toNat (s0.size:Int).toNat) (0:Int).toNat:Int)==45)then true else(bif (decide ((zb (s0.extract c.toNat (s0.size:Int).toNat) (0:Int).toNat:Int)>=48))then(decide ((zb (s0.extract c.toNat (s0.size:Int).toNat) (0:Int).toNat:Int)<=57))else false))=false->XC Tp 256 #[.string (s0.extract c.toNat (s0.size:Int).toNat),.func (.func 259) #[] #[]] t (λa3 a4=>∃a5,a3=.int .i64 a5/\(0<=(0:Int)/\(0:Int)<=a5/\a5<=((s0.extract c.toNat (s0.size:Int).toNat).size:Int))/\XC Tp 260 #[.string ((s0.extract c.toNat (s0.size:Int).toNat).extract (0:Int).toNat a5.toNat)] a4 (λa6 a7=>∃a8,a6=.int .i64 a8/\((a8 != 0)=true->∃a9,zc a7 ⟨h.size,0,none⟩=some (.int .i64 a9)/\zj Tp 254=true/\XC Tp 254 #[.int .i64 a8,.int .i64 (Aa .i64 (a9+a5)),.pointer (some ⟨h.size,0,none⟩)] a7 (λba bb=>∃bc bd be bf,ba=.tuple #[.agg #[.int .i64 bc,.int .i64 bd,.int .i64 be],.int .i64 bf]/\zk Tp (An 90 (.pointer (some ⟨a.size,0,none⟩)) (.agg #[.int .i64 bc,.int .i64 bd,.int .i64 be])) bb (λbg=>∃bh bi bj,zd bg ⟨a.size,0,none⟩ 0 [.int .i64 bh,.int .i64 bi,.int .i64 bj]/\R (.tuple #[.agg #[.int .i64 bh,.int .i64 bi,.int .i64 bj],.int .i64 bf]) bg)))/\((a8 != 0)=false->∃bk,zc a7 ⟨h.size,0,none⟩=some (.int .i64 bk)/\zj Tp 255=true/\XC Tp 255 #[.int .i64 bk,.int .i64 2] a7 (λbl bm=>∃bn bo bp bq,bl=.tuple #[.agg #[.int .i64 bn,.int .i64 bo,.int .i64 bp],.int .i64 bq]/\zk Tp (An 90 (.pointer (some ⟨a.size,0,none⟩)) (.agg #[.int .i64 bn,.int .i64 bo,.int .i64 bp])) bm (λbr=>∃bs bt bu,zd br ⟨a.size,0,none⟩ 0 [.int .i64 bs,.int .i64 bt,.int .i64 bu]/\R (.tuple #[.agg #[.int .i64 bs,.int .i64 bt,.int .i64 bu],.int .i64 bq]) br)))))))))))):
  XC Tp 198 #[.string s0,.int .i64 bz] h R:=
 XF ⟨[(9,8000),(16,8000)],[],[]⟩ [.cell 4 90,.tmp 5] 130 Tryz.func198 H
theorem za5(p0:Option Addr)(Z:Int)(h:za)(R:Value->za->Prop)
  (H:XC Tp 115 #[.pointer p0] h (λa b=>∃c,a=.int .i64 c/\((c != Z)=true->R (.bool false) b)/\((c != Z)=false->XC Tp 116 #[.pointer p0] b (λd e=>d=.tuple #[]/\R (.bool true) e)))):
  XC Tp 199 #[.pointer p0,.int .i64 Z] h R:=
 XF ⟨[],[],[]⟩ [.tmp 4] 11 Tryz.func199 H
theorem zm1(t0:Bt)(Z:Int)(h:za)(R:Value->za->Prop)
  (H:((!(decide (Z>=t0.size)))=true->(0<=Z/\Z<t0.size))/\((bif (decide (Z>=t0.size))then true else((zb t0 Z.toNat:Int) != 34))=true->R (.tuple #[.string (⟨#[]⟩:Bt),.int .i64 Z,.int .i64 2]) h)/\((bif (decide (Z>=t0.size))then true else((zb t0 Z.toNat:Int) != 34))=false->let a:=h.push (.cells #[.pointer none,.slice none 0 0] 112);∃(b:Int->za->Prop) (c:Int->za->Nat),b (Aa .i64 (Z+1)) a/\∀d:Int,∀e:za,b d e->((decide (d<t0.size)=true->(0<=d/\d<t0.size)/\(((zb t0 d.toNat:Int)==34)=true->XC Tp 87 #[.pointer (some ⟨h.size,0,none⟩)] e (λf g=>∃i,f=.string i/\R (.tuple #[.string i,.int .i64 (Aa .i64 (d+1)),.int .i64 0]) g))/\(((zb t0 d.toNat:Int)==34)=false->(0<=d/\d<=t0.size/\(t0.size:Int)<=(t0.size:Int))/\XC Tp 291 #[.string (t0.extract d.toNat (t0.size:Int).toNat)] e (λj k=>∃l m,j=.tuple #[.int .i32 l,.int .i64 m]/\((m==0)=true->R (.tuple #[.string (⟨#[]⟩:Bt),.int .i64 d,.int .i64 2]) k)/\((m==0)=false->XC Tp 83 #[.pointer (some ⟨h.size,0,none⟩),.int .i32 l] k (λn o=>∃p,∃q:Value,n=.tuple #[.int .i64 p,q]/\(b (Aa .i64 (d+m)) o/\c (Aa .i64 (d+m)) o<c d e))))))/\(decide (d<t0.size)=false->R (.tuple #[.string (⟨#[]⟩:Bt),.int .i64 (t0.size:Int),.int .i64 2]) e)))):
  XC Tp 253 #[.string t0,.int .i64 Z] h R:=
 XF ⟨[],[(5,[(1,.one (.int .i64))])],[]⟩ [.tmp 4,.tmp 5,.tmp 6] 51 Tryz.func253 H
theorem zm2(Z:Int)(aa:Int)(c2:Addr)(h:za)(R:Value->za->Prop)
  (H:let a:=h.push (.cells #[.int .i64 0,.int .i64 0,.int .i64 0] 90);∃b,zc a c2=some (.int .i64 b)/\zk Tp (An 90 (.pointer (some ⟨h.size,0,none⟩)) (.agg #[.int .i64 Z,.int .i64 b,.int .i64 aa])) a (λc=>∃d e f,zd c ⟨h.size,0,none⟩ 0 [.int .i64 d,.int .i64 e,.int .i64 f]/\R (.tuple #[.agg #[.int .i64 d,.int .i64 e,.int .i64 f],.int .i64 0]) c)):
  XC Tp 254 #[.int .i64 Z,.int .i64 aa,.pointer (some c2)] h R:=
 XF ⟨[],[],[]⟩ [.cell 5 90,.tmp 6] 12 Tryz.func254 H
theorem zxj(s0:Bt)(Z:FuncId)(aa:Array Value)(ab:Array Value)(h:za)(R:Value->za->Prop)
  (H:∃(a:Int->za->Prop) (b:Int->za->Nat),a 0 h/\∀c:Int,∀d:za,a c d->((decide (c<s0.size)=true->(0<=c/\c<s0.size)/\zj Tp Z=true/\XC Tp Z (aa++#[.int .u8 (zb s0 c.toNat)]++ab) d (λe f=>∃g,e=.bool g/\((!g)=true->R (.int .i64 c) f)/\((!g)=false->(a (Aa .i64 (c+1)) f/\b (Aa .i64 (c+1)) f<b c d))))/\(decide (c<s0.size)=false->R (.int .i64 (s0.size:Int)) d))):
  XC Tp 256 #[.string s0,.func (.func Z) aa ab] h R:=
 XF ⟨[],[(2,[(8,.one (.int .i64))])],[]⟩ [.tmp 4] 21 Tryz.func256 H
theorem zpx(l0:Bt)(h:za)(R:Value->za->Prop)
  (H:let a:=h.push (.cells #[.string l0] 9);R (.func (.func 292) #[] #[.pointer (some ⟨h.size,0,none⟩)]) a):
  XC Tp 257 #[.string l0] h R:=
 XF ⟨[],[],[]⟩ [.tmp 2] 4 Tryz.func257 H
theorem zjv(c0:Int)(c1:Addr)(h:za)(R:Value->za->Prop)
  (H:∃a,zc h c1=some (.string a)/\XC Tp 212 #[.string a,.int .u8 c0] h (λb c=>∃d,b=.int .i64 d/\R (.bool (decide (d>=0))) c)):
  XC Tp 292 #[.int .u8 c0,.pointer (some c1)] h R:=
 XF ⟨[],[],[]⟩ [.tmp 3] 8 Tryz.func292 H
theorem Qd(s0:Bt)(aM:Int)(aL:Int)(h:za)(R:Value->za->Prop)
  (H:((s0.toList==(⟨#[]⟩:Bt).toList)=true->R (.tuple #[.int .u64 0,.iface 287 (.int .i64 2)]) h)/\((s0.toList==(⟨#[]⟩:Bt).toList)=false->∀b:Bt->Int->za->Prop,(∀c:Bt,∀d:Int,∀e:za,(∀f:Int->za->Prop,(∀g:Int,∀i:za,(∀j:Int->za->Prop,(∀k:Int,∀l:za,(0<=(Aa .u64 g)/\Z5 Tp (convert 9 110 (.string c)) l (λm n=>∃o,m=slV o/\∃(p:Bool->Int->Int->za->Prop) (q:Bool->Int->Int->za->Nat),p false 0 0 n/\∀r:Bool,∀s t:Int,∀u:za,p r s t u->((decide (t<o.len)=true->∃v,(o.a=some v/\0<=t/\t<o.len)/\∃w,zc u (v.add (t.toNat*1))=some (.int .u8 w)/\∀x:Bool->Int->za->Prop,(∀y:Bool,∀z:Int,∀A:za,((decide (z>=(Aa .u8 d))=true->R (.tuple #[.int .u64 0,.iface 287 (.int .i64 2)]) A)/\(decide (z>=(Aa .u8 d))=false->(decide (s>=k)=true->R (.tuple #[.int .u64 (Aa .u64 ((Aa .u64 (1*2 ^ (min (Aa .u64 g).toNat 64)))-1)),.iface 287 (.int .i64 1)]) A)/\(decide (s>=k)=false->((bif (decide ((Aa .u64 ((Aa .u64 (s*(Aa .u64 d)))+(Aa .u64 z)):Int)<(Aa .u64 (s*(Aa .u64 d)))))then true else(decide ((Aa .u64 ((Aa .u64 (s*(Aa .u64 d)))+(Aa .u64 z)):Int)>(Aa .u64 ((Aa .u64 (1*2 ^ (min (Aa .u64 g).toNat 64)))-1)))))=true->R (.tuple #[.int .u64 (Aa .u64 ((Aa .u64 (1*2 ^ (min (Aa .u64 g).toNat 64)))-1)),.iface 287 (.int .i64 1)]) A)/\((bif (decide ((Aa .u64 ((Aa .u64 (s*(Aa .u64 d)))+(Aa .u64 z)):Int)<(Aa .u64 (s*(Aa .u64 d)))))then true else(decide ((Aa .u64 ((Aa .u64 (s*(Aa .u64 d)))+(Aa .u64 z)):Int)>(Aa .u64 ((Aa .u64 (1*2 ^ (min (Aa .u64 g).toNat 64)))-1)))))=false->(p y (Aa .u64 ((Aa .u64 (s*(Aa .u64 d)))+(Aa .u64 z))) (Aa .i64 (t+1)) A/\q y (Aa .u64 ((Aa .u64 (s*(Aa .u64 d)))+(Aa .u64 z))) (Aa .i64 (t+1)) A<q r s t u)))))->x y z A)->((bif (w==95)then(aM==0)else false)=true->(p true s (Aa .i64 (t+1)) u/\q true s (Aa .i64 (t+1)) u<q r s t u))/\((bif (w==95)then(aM==0)else false)=false->((bif (decide ((48:Int)<=w))then(decide (w<=57))else false)=true->x r (Aa .u8 (w-48)) u)/\((bif (decide ((48:Int)<=w))then(decide (w<=57))else false)=false->XC Tp 325 #[.int .u8 w] u (λB C=>∃D,B=.int .u8 D/\∃E:Value->za->Prop,(decide ((97:Int)<=D)=true->XC Tp 325 #[.int .u8 w] C (λF G=>∃I,F=.int .u8 I/\E (.int .u8 I) G))/\(decide ((97:Int)<=D)=false->∃J,E (.int .u8 J) C)/\(decide ((97:Int)<=D)=true->∀L M,E L M->∃N,L=.int .u8 N)/\∀O:Int,∀P,E (.int .u8 O) P->((bif (decide ((97:Int)<=D))then(decide (O<=122))else false)=true->XC Tp 325 #[.int .u8 w] P (λQ S=>∃T,Q=.int .u8 T/\x r (Aa .u8 ((Aa .u8 (T-97))+10)) S))/\((bif (decide ((97:Int)<=D))then(decide (O<=122))else false)=false->R (.tuple #[.int .u64 0,.iface 287 (.int .i64 2)]) P)))))/\(decide (t<o.len)=false->∃U:Value->za->Prop,(r=true->XC Tp 326 #[.string s0] u (λV W=>∃X,V=.bool X/\U (.bool X) W))/\(r=false->∃Y,U (.bool Y) u)/\(r=true->∀Z aa,U Z aa->∃ab,Z=.bool ab)/\∀ac:Bool,∀ad,U (.bool ac) ad->((bif r then(!ac)else false)=true->R (.tuple #[.int .u64 0,.iface 287 (.int .i64 2)]) ad)/\((bif r then(!ac)else false)=false->R (.tuple #[.int .u64 s,.nilIface]) ad)))))->j k l)->((d==10)=true->j 1844674407370955162 i)/\((d==10)=false->((d==16)=true->j 1152921504606846976 i)/\((d==16)=false->IntKind.u64=IntKind.u64/\(Aa .u64 d)≠0/\j (Aa .u64 ((Aa .u64 ((18446744073709551615:Int).tdiv (Aa .u64 d)))+1)) i)))->f g i)->((aL==0)=true->f 64 e)/\((aL==0)=false->((bif (decide (aL<0))then true else(decide (aL>64)))=true->R (.tuple #[.int .u64 0,.iface 287 (.int .i64 4)]) e)/\((bif (decide (aL<0))then true else(decide (aL>64)))=false->f aL e)))->b c d e)->((bif (decide ((2:Int)<=aM))then(decide (aM<=36))else false)=true->b s0 aM h)/\((bif (decide ((2:Int)<=aM))then(decide (aM<=36))else false)=false->((aM==0)=true->(0<=(0:Int)/\(0:Int)<(s0.size:Int))/\(((zb s0 (0:Int).toNat:Int)==48)=true->(decide ((s0.size:Int)>=3)=true->(0<=(1:Int)/\(1:Int)<(s0.size:Int)))/\∃ae:Value->za->Prop,(decide ((s0.size:Int)>=3)=true->XC Tp 325 #[.int .u8 (zb s0 (1:Int).toNat)] h (λaf ag=>∃ah,af=.int .u8 ah/\ae (.int .u8 ah) ag))/\(decide ((s0.size:Int)>=3)=false->∃ai,ae (.int .u8 ai) h)/\(decide ((s0.size:Int)>=3)=true->∀aj ak,ae aj ak->∃al,aj=.int .u8 al)/\∀am:Int,∀an,ae (.int .u8 am) an->((bif (decide ((s0.size:Int)>=3))then(am==98)else false)=true->(0<=(2:Int)/\(2:Int)<=(s0.size:Int)/\(s0.size:Int)<=(s0.size:Int))/\b (s0.extract (2:Int).toNat (s0.size:Int).toNat) 2 an)/\((bif (decide ((s0.size:Int)>=3))then(am==98)else false)=false->(decide ((s0.size:Int)>=3)=true->(0<=(1:Int)/\(1:Int)<(s0.size:Int)))/\∃ao:Value->za->Prop,(decide ((s0.size:Int)>=3)=true->XC Tp 325 #[.int .u8 (zb s0 (1:Int).toNat)] an (λap aq=>∃ar,ap=.int .u8 ar/\ao (.int .u8 ar) aq))/\(decide ((s0.size:Int)>=3)=false->∃au,ao (.int .u8 au) an)/\(decide ((s0.size:Int)>=3)=true->∀av aw,ao av aw->∃ax,av=.int .u8 ax)/\∀ay:Int,∀az,ao (.int .u8 ay) az->((bif (decide ((s0.size:Int)>=3))then(ay==111)else false)=true->(0<=(2:Int)/\(2:Int)<=(s0.size:Int)/\(s0.size:Int)<=(s0.size:Int))/\b (s0.extract (2:Int).toNat (s0.size:Int).toNat) 8 az)/\((bif (decide ((s0.size:Int)>=3))then(ay==111)else false)=false->(decide ((s0.size:Int)>=3)=true->(0<=(1:Int)/\(1:Int)<(s0.size:Int)))/\∃aA:Value->za->Prop,(decide ((s0.size:Int)>=3)=true->XC Tp 325 #[.int .u8 (zb s0 (1:Int).toNat)] az (λaB aC=>∃aD,aB=.int .u8 aD/\aA (.int .u8 aD) aC))/\(decide ((s0.size:Int)>=3)=false->∃aE,aA (.int .u8 aE) az)/\(decide ((s0.size:Int)>=3)=true->∀aF aG,aA aF aG->∃aH,aF=.int .u8 aH)/\∀aI:Int,∀aJ,aA (.int .u8 aI) aJ->((bif (decide ((s0.size:Int)>=3))then(aI==120)else false)=true->(0<=(2:Int)/\(2:Int)<=(s0.size:Int)/\(s0.size:Int)<=(s0.size:Int))/\b (s0.extract (2:Int).toNat (s0.size:Int).toNat) 16 aJ)/\((bif (decide ((s0.size:Int)>=3))then(aI==120)else false)=false->(0<=(1:Int)/\(1:Int)<=(s0.size:Int)/\(s0.size:Int)<=(s0.size:Int))/\b (s0.extract (1:Int).toNat (s0.size:Int).toNat) 8 aJ))))/\(((zb s0 (0:Int).toNat:Int)==48)=false->b s0 10 h))/\((aM==0)=false->R (.tuple #[.int .u64 0,.iface 287 (.int .i64 3)]) h)))):
  XC Tp 316 #[.string s0,.int .i64 aM,.int .i64 aL] h R:=
 XF ⟨[],[(36,[(12,.one (.bool)),(13,.one (.int .u64)),(101,.one (.int .i64))])],[(21,[(0,.one (.str)),(1,.one (.int .i64))]),(25,[(2,.one (.int .i64))]),(32,[(10,.one (.int .u64))]),(46,[(12,.one (.bool)),(16,.one (.int .u8))])]⟩ [.tmp 6,.tmp 7] 172 Tryz.func316 H
theorem za6(s0:Bt)(aa:Int)(Z:Int)(h:za)(R:Value->za->Prop)
  (H:XC Tp 316 #[.string s0,.int .i64 aa,.int .i64 Z] h (λa b=>∃c,∃d:Value,a=.tuple #[.int .u64 c,d]/\ifc d=true/\((!qcy d)=true->XC Tp 267 #[.string (⟨#[80,97,114,115,101,85,105,110,116]⟩:Bt),.string s0,.int .i64 aa,.int .i64 Z,d] b (λe f=>∃g:Value,e=g/\R (.tuple #[.int .u64 c,g]) f))/\((!qcy d)=false->R (.tuple #[.int .u64 c,.nilIface]) b))):
  XC Tp 329 #[.string s0,.int .i64 aa,.int .i64 Z] h R:=
 XF ⟨[],[],[]⟩ [.tmp 6,.tmp 7] 26 Tryz.func329 H
theorem Z3(ab:Sl)(u1:Int)(Z:Int)(aa:Bool)(b:Bool)(h:za)(R:Value->za->Prop)
  (H:∀c:za->Prop,(∀d:za,(let e:=d.push (.cells #[.int .u8 0,.int .u8 0,.int .u8 0,.int .u8 0,.int .u8 0,.int .u8 0,.int .u8 0,.int .u8 0,.int .u8 0,.int .u8 0,.int .u8 0,.int .u8 0,.int .u8 0,.int .u8 0,.int .u8 0,.int .u8 0,.int .u8 0,.int .u8 0,.int .u8 0,.int .u8 0,.int .u8 0,.int .u8 0,.int .u8 0,.int .u8 0,.int .u8 0,.int .u8 0,.int .u8 0,.int .u8 0,.int .u8 0,.int .u8 0,.int .u8 0,.int .u8 0,.int .u8 0,.int .u8 0,.int .u8 0,.int .u8 0,.int .u8 0,.int .u8 0,.int .u8 0,.int .u8 0,.int .u8 0,.int .u8 0,.int .u8 0,.int .u8 0,.int .u8 0,.int .u8 0,.int .u8 0,.int .u8 0,.int .u8 0,.int .u8 0,.int .u8 0,.int .u8 0,.int .u8 0,.int .u8 0,.int .u8 0,.int .u8 0,.int .u8 0,.int .u8 0,.int .u8 0,.int .u8 0,.int .u8 0,.int .u8 0,.int .u8 0,.int .u8 0,.int .u8 0] 274);∀f:Int->za->Prop,(∀g:Int,∀i:za,(∀j:Int->za->Prop,(∀k:Int,∀l:za,(∀m:Int->za->Prop,(∀n:Int,∀o:za,((b=true->(0<=n/\n<=(65:Int)/\(65:Int)<=(65:Int))/\Z5 Tp (AB #[110,110] 110 #[slV ab,.slice (zjc (some ⟨d.size,0,none⟩) 1 n.toNat 65) ((65:Int).toNat-n.toNat) (65-n.toNat)]) o (λp q=>∃r,p=slV r/\R (.tuple #[slV r,.string (⟨#[]⟩:Bt)]) q))/\(b=false->(0<=n/\n<=(65:Int)/\(65:Int)<=(65:Int))/\Z5 Tp (convert 110 9 (.slice (zjc (some ⟨d.size,0,none⟩) 1 n.toNat 65) ((65:Int).toNat-n.toNat) (65-n.toNat))) o (λs t=>∃u,s=.string u/\R (.tuple #[.slice none 0 0,.string u]) t)))->m n o)->(aa=true->∃v:Addr,(some ⟨d.size,0,none⟩=some v/\0<=(Aa .i64 (k-1))/\(Aa .i64 (k-1))<((65:Nat):Int))/\zk Tp (An 5 (.pointer (some (v.add ((Aa .i64 (k-1)).toNat*1)))) (.int .u8 45)) l (λw=>m (Aa .i64 (k-1)) w))/\(aa=false->m k l))->j k l)->XC Tp 273 #[.int .i64 Z] i (λx y=>∃z,x=.bool z/\(z=true->XC Tp 274 #[.int .u64 (Aa .u64 Z)] y (λA B=>∃C,A=.int .i64 C/\∃(D:Int->Int->za->Prop) (E:Int->Int->za->Nat),D g 65 B/\∀F G:Int,∀I:za,D F G I->((decide (F>=(Aa .u64 Z))=true->(0<=(Aa .u64 (((Ao (Ak .u64) F) &&& (Ao (Ak .u64) (Aa .u64 ((Aa .u64 Z)-1)))).toNat:Int):Int)/\(Aa .u64 (((Ao (Ak .u64) F) &&& (Ao (Ak .u64) (Aa .u64 ((Aa .u64 Z)-1)))).toNat:Int):Int)<(((⟨#[48,49,50,51,52,53,54,55,56,57,97,98,99,100,101,102,103,104,105,106,107,108,109,110,111,112,113,114,115,116,117,118,119,120,121,122]⟩:Bt)).size:Int))/\∃J:Addr,(some ⟨d.size,0,none⟩=some J/\0<=(Aa .i64 (G-1))/\(Aa .i64 (G-1))<((65:Nat):Int))/\zk Tp (An 5 (.pointer (some (J.add ((Aa .i64 (G-1)).toNat*1)))) (.int .u8 (zb (⟨#[48,49,50,51,52,53,54,55,56,57,97,98,99,100,101,102,103,104,105,106,107,108,109,110,111,112,113,114,115,116,117,118,119,120,121,122]⟩:Bt) (Aa .u64 (((Ao (Ak .u64) F) &&& (Ao (Ak .u64) (Aa .u64 ((Aa .u64 Z)-1)))).toNat:Int):Int).toNat))) I (λL=>0<=(Aa .u64 C)/\(D (F.fdiv (2 ^ (min (Aa .u64 C).toNat 64))) (Aa .i64 (G-1)) L/\E (F.fdiv (2 ^ (min (Aa .u64 C).toNat 64))) (Aa .i64 (G-1)) L<E F G I)))/\(decide (F>=(Aa .u64 Z))=false->(0<=F/\F<(((⟨#[48,49,50,51,52,53,54,55,56,57,97,98,99,100,101,102,103,104,105,106,107,108,109,110,111,112,113,114,115,116,117,118,119,120,121,122]⟩:Bt)).size:Int))/\∃M:Addr,(some ⟨d.size,0,none⟩=some M/\0<=(Aa .i64 (G-1))/\(Aa .i64 (G-1))<((65:Nat):Int))/\zk Tp (An 5 (.pointer (some (M.add ((Aa .i64 (G-1)).toNat*1)))) (.int .u8 (zb (⟨#[48,49,50,51,52,53,54,55,56,57,97,98,99,100,101,102,103,104,105,106,107,108,109,110,111,112,113,114,115,116,117,118,119,120,121,122]⟩:Bt) F.toNat))) I (λN=>j (Aa .i64 (G-1)) N)))))/\(z=false->∃(O:Int->Int->za->Prop) (P:Int->Int->za->Nat),O g 65 y/\∀Q S:Int,∀T:za,O Q S T->((decide (Q>=(Aa .u64 Z))=true->IntKind.u64=IntKind.u64/\(Aa .u64 Z)≠0/\(0<=(Aa .u64 (Q-(Aa .u64 ((Aa .u64 (Q.tdiv (Aa .u64 Z)))*(Aa .u64 Z)))):Int)/\(Aa .u64 (Q-(Aa .u64 ((Aa .u64 (Q.tdiv (Aa .u64 Z)))*(Aa .u64 Z)))):Int)<(((⟨#[48,49,50,51,52,53,54,55,56,57,97,98,99,100,101,102,103,104,105,106,107,108,109,110,111,112,113,114,115,116,117,118,119,120,121,122]⟩:Bt)).size:Int))/\∃U:Addr,(some ⟨d.size,0,none⟩=some U/\0<=(Aa .i64 (S-1))/\(Aa .i64 (S-1))<((65:Nat):Int))/\zk Tp (An 5 (.pointer (some (U.add ((Aa .i64 (S-1)).toNat*1)))) (.int .u8 (zb (⟨#[48,49,50,51,52,53,54,55,56,57,97,98,99,100,101,102,103,104,105,106,107,108,109,110,111,112,113,114,115,116,117,118,119,120,121,122]⟩:Bt) (Aa .u64 (Q-(Aa .u64 ((Aa .u64 (Q.tdiv (Aa .u64 Z)))*(Aa .u64 Z)))):Int).toNat))) T (λV=>(O (Aa .u64 (Q.tdiv (Aa .u64 Z))) (Aa .i64 (S-1)) V/\P (Aa .u64 (Q.tdiv (Aa .u64 Z))) (Aa .i64 (S-1)) V<P Q S T)))/\(decide (Q>=(Aa .u64 Z))=false->(0<=Q/\Q<(((⟨#[48,49,50,51,52,53,54,55,56,57,97,98,99,100,101,102,103,104,105,106,107,108,109,110,111,112,113,114,115,116,117,118,119,120,121,122]⟩:Bt)).size:Int))/\∃W:Addr,(some ⟨d.size,0,none⟩=some W/\0<=(Aa .i64 (S-1))/\(Aa .i64 (S-1))<((65:Nat):Int))/\zk Tp (An 5 (.pointer (some (W.add ((Aa .i64 (S-1)).toNat*1)))) (.int .u8 (zb (⟨#[48,49,50,51,52,53,54,55,56,57,97,98,99,100,101,102,103,104,105,106,107,108,109,110,111,112,113,114,115,116,117,118,119,120,121,122]⟩:Bt) Q.toNat))) T (λX=>j (Aa .i64 (S-1)) X))))))->f g i)->(aa=true->f (Aa .u64 (0-u1)) e)/\(aa=false->f u1 e))->c d)->((bif (bif (decide (Z<2))then true else(Z==10))then true else(decide (Z>36)))=true->False)/\((bif (bif (decide (Z<2))then true else(Z==10))then true else(decide (Z>36)))=false->c h)):
  XC Tp 224 #[.slice ab.a ab.len ab.cap,.int .u64 u1,.int .i64 Z,.bool aa,.bool b] h R:=
 XF ⟨[],[(11,[(1,.one (.int .u64)),(13,.one (.int .i64))]),(18,[(1,.one (.int .u64)),(13,.one (.int .i64))])],[(3,[]),(7,[(1,.one (.int .u64))]),(25,[(13,.one (.int .i64))]),(28,[(13,.one (.int .i64))])]⟩ [.tmp 10,.tmp 11] 102 Tryz.func224 H
theorem Qe(i0:Int)(Z:Int)(h:za)(R:Value->za->Prop)
  (H:((Z==10)=true->((bif (decide ((0:Int)<=i0))then(decide (i0<100))else false)=true->XC Tp 221 #[.int .i64 i0] h (λb c=>∃d,b=.string d/\R (.string d) c))/\((bif (decide ((0:Int)<=i0))then(decide (i0<100))else false)=false->let e:=h.push (.cells #[.int .u8 0,.int .u8 0,.int .u8 0,.int .u8 0,.int .u8 0,.int .u8 0,.int .u8 0,.int .u8 0,.int .u8 0,.int .u8 0,.int .u8 0,.int .u8 0,.int .u8 0,.int .u8 0,.int .u8 0,.int .u8 0,.int .u8 0,.int .u8 0,.int .u8 0,.int .u8 0,.int .u8 0,.int .u8 0,.int .u8 0,.int .u8 0] 237);∀f:Int->za->Prop,(∀g:Int,∀i:za,(XC Tp 222 #[.int .u64 g] i (λj k=>∃l,j=.int .i64 l/\(0<=(1:Int)/\(1:Int)<=(Aa .i64 (1+l))/\(Aa .i64 (1+l))<=(24:Int))/\XC Tp 223 #[.slice (zjc (some ⟨h.size,0,none⟩) 1 ((1:Int).toNat) 24) ((Aa .i64 (1+l)).toNat-(1:Int).toNat) (24-(1:Int).toNat),.int .u64 g] k (λm n=>m=.tuple #[]/\(decide (i0<0)=true->∃o:Addr,(some ⟨h.size,0,none⟩=some o/\0<=(0:Int)/\(0:Int)<((24:Nat):Int))/\zk Tp (An 5 (.pointer (some (o.add ((0:Int).toNat*1)))) (.int .u8 45)) n (λp=>(0<=(0:Int)/\(0:Int)<=(Aa .i64 (1+l))/\(Aa .i64 (1+l))<=(24:Int))/\Z5 Tp (convert 110 9 (.slice (zjc (some ⟨h.size,0,none⟩) 1 ((0:Int).toNat) 24) ((Aa .i64 (1+l)).toNat-(0:Int).toNat) (24-(0:Int).toNat))) p (λq r=>∃s,q=.string s/\R (.string s) r)))/\(decide (i0<0)=false->(0<=(1:Int)/\(1:Int)<=(Aa .i64 (1+l))/\(Aa .i64 (1+l))<=(24:Int))/\Z5 Tp (convert 110 9 (.slice (zjc (some ⟨h.size,0,none⟩) 1 ((1:Int).toNat) 24) ((Aa .i64 (1+l)).toNat-(1:Int).toNat) (24-(1:Int).toNat))) n (λt u=>∃v,t=.string v/\R (.string v) u)))))->f g i)->(decide (i0<0)=true->f (Aa .u64 (0-(Aa .u64 i0))) e)/\(decide (i0<0)=false->f (Aa .u64 i0) e)))/\((Z==10)=false->XC Tp 224 #[.slice none 0 0,.int .u64 (Aa .u64 i0),.int .i64 Z,.bool (decide (i0<0)),.bool false] h (λw x=>∃y z,w=.tuple #[slV y,.string z]/\R (.string z) x))):
  XC Tp 154 #[.int .i64 i0,.int .i64 Z] h R:=
 XF ⟨[],[],[(8,[(6,.one (.int .u64))])]⟩ [.tmp 4] 54 Es H
end
section
variable {gl:Fr} {R:Bool -> Prop}
theorem qa6(hg:GL gl){s:Bs}(hs:s.length<=1152921504606846976)(h:R (z0q s)):PC Tp gl 167 [Arg.mk .str (bl s)] [.bool] R:=by
 apply zmh
 refine zcc hg hs (qdz hg (n:=(zxh s).1) (Yw s hs) ?_)
 simp only[Bool.cond_false_right]
 exact h
theorem W7(v:Tr):Tr.mk v.kind v.text v.keys v.items=v:=by cases v;rfl
theorem ze3{l:List Tr}{k:Nat}(h:k<l.length):l[((k:Int)).toNat]?=some l[k]:=by rw[Al,Aq h]
theorem z0t{gl:Fr}(v:Tr)(hv:tsz v<=1000000000000){R:Int->Prop}(h:R (tsz v:Int)):PC Tp gl 56 [Arg.mk .tree v] [.int .i64] R:=by
 apply zmg
 have ab:=zax v.items
 have aa:=Z2 v
 refine⟨λn i=>∃k:Nat,i=k/\k<=v.items.length/\n=((1+Yf (v.items.take k):Nat):Int),λ_ i=>v.items.length-i.toNat,⟨0,rfl,by omega,by simp[Yf]⟩,?_⟩
 rintro n i ⟨k,rfl,hk,rfl⟩
 refine⟨λhc=>?_,λhc=>?_⟩
 ·have Z:k<v.items.length:=by simp at hc;omega
  refine⟨v.items[k],⟨by omega,ze3 Z⟩,?_⟩
  rw[W7]
  have hm:v.items[k]∈v.items:=AN Z
  have af:=wv hm
  have ae:Yf (v.items.take (k+1))<=Yf v.items:=by
   have:=zca (v.items.take (k+1)) (v.items.drop (k+1))
   rw[BQ]at this;omega
  have ht:=z0o Z
  refine z0t (v.items[k]) (by omega) ?_
  rw[Yk Z (by omega),w64 (by omega)]
  exact⟨⟨k+1,rfl,by omega,by omega⟩,by simp only[Al];omega⟩
 ·have Z:k=v.items.length:=by simp at hc;omega
  subst Z
  rw[AW,<-aa];exact h
termination_by tsz v
theorem zut{gl:Fr}(v:Tr)(hv:tsz v<=1000000000000){R:Int->Prop}(h:R (tdp v:Int)):PC Tp gl 161 [Arg.mk .tree v] [.int .i64] R:=by
 apply zjk
 have aa:=zax v.items
 have ae:=Z2 v
 have ah:=zsp v.items
 have ab:=zpu v
 refine⟨λn i=>∃k:Nat,i=k/\k<=v.items.length/\n=((X6 (v.items.take k):Nat):Int),λ_ i=>v.items.length-i.toNat,⟨0,rfl,by omega,by simp[X6]⟩,?_⟩
 rintro n i ⟨k,rfl,hk,rfl⟩
 refine⟨λhc=>?_,λhc=>?_⟩
 ·have Z:k<v.items.length:=by simp at hc;omega
  refine⟨v.items[k],⟨by omega,ze3 Z⟩,?_⟩
  rw[W7]
  have hm:v.items[k]∈v.items:=AN Z
  have af:=wv hm
  have ht:=z0p Z
  refine zut (v.items[k]) (by omega) ?_
  rw[Yk Z (by omega)]
  refine⟨⟨k+1,rfl,by omega,?_⟩,by simp only[Al];omega⟩
  rw[ht];split <;> omega
 ·have Z:k=v.items.length:=by simp at hc;omega
  subst Z
  rw[AW,w64 (by omega)]
  have:((X6 v.items:Nat):Int)+1=(tdp v:Int):=by omega
  rw[this];exact h
termination_by tsz v
theorem zuu{v:Tr}(hv:Sm v)(h:R (Q9 v)):PC Tp gl 93 [Arg.mk .tree v] [.bool] R:=by
 apply zjj
 rw[W7]
 refine z0t v hv.sz ⟨λr=>r=(tdp v:Int),λ_=>zut v hv.sz rfl,λr hr=>?_⟩
 have e:(bif decide ((tsz v:Int)<=4096)then decide (r<=32)else false)=Q9 v:=by
  unfold Q9
  cases hc:decide ((tsz v:Int)<=4096)with
  |false=>(have:decide (tsz v<=4096)=false:=by simp at hc ⊢;omega);rw[this];rfl
  |true=>
   have:decide (tsz v<=4096)=true:=by simp at hc ⊢;omega
   rw[this,hr hc,cond_true,BZ,AJ];simp;omega
 rw[e];exact h
end
section
theorem zjw(Z:Sl)(n1:Int)(h:za)(R:Value->za->Prop)
  (H:let b:=h.push (.map #[] 0);∃(c:Int->za->Prop) (d:Int->za->Nat),c 0 b/\∀e:Int,∀f:za,c e f->((decide (e<Z.len)=true->∃g,(Z.a=some g/\0<=e/\e<Z.len)/\∃i,zc f (g.add (e.toNat*1))=some (.string i)/\∃j,QExec Tp (Ed 154 (.map (some h.size)) (.string i) false) f (.bool j)/\∃k:Value->za->Prop,((!j)=true->XC Tp 166 #[.string i] f (λl m=>∃n,l=.bool n/\k (.bool n) m))/\((!j)=false->∃o,k (.bool o) f)/\((!j)=true->∀p q,k p q->∃r,p=.bool r)/\∀s:Bool,∀t,k (.bool s) t->((bif j then true else(!s))=true->R (.bool false) t)/\((bif j then true else(!s))=false->zk Tp (CN 154 (.map (some h.size)) (.string i) (.bool true)) t (λu=>(c (Aa .i64 (e+1)) u/\d (Aa .i64 (e+1)) u<d e f))))/\(decide (e<Z.len)=false->R (.bool ((Z.len:Int)==n1)) f))):
  XC Tp 164 #[.slice Z.a Z.len Z.cap,.int .i64 n1] h R:=
 XF ⟨[],[(3,[(13,.one (.int .i64))])],[]⟩ [.tmp 4] 32 Tryz.func164 H
theorem jl(s0:Sl)(aa:FuncId)(Z:Array Value)(ab:Array Value)(h:za)(R:Value->za->Prop)
  (H:XC Tp 233 #[slV s0,.func (.func aa) Z ab] h (λb c=>∃d,b=.int .i64 d/\R (.bool (decide (d>=0))) c)):
  XC Tp 162 #[.slice s0.a s0.len s0.cap,.func (.func aa) Z ab] h R:=
 XF ⟨[],[],[]⟩ [.tmp 4] 9 Tryz.func162 H
theorem j4(s0:Sl)(Z:FuncId)(ab:Array Value)(aa:Array Value)(h:za)(R:Value->za->Prop)
  (H:∃(b:Int->za->Prop) (c:Int->za->Nat),b 0 h/\∀d:Int,∀e:za,b d e->((decide (d<s0.len)=true->∃f,(s0.a=some f/\0<=d/\d<s0.len)/\∃g i j k,zd e (f.add (d.toNat*4)) 0 [.int .i64 g,.string i,slV j,slV k]/\zj Tp Z=true/\XC Tp Z (ab++#[.agg #[.int .i64 g,.string i,slV j,slV k]]++aa) e (λl m=>∃n,l=.bool n/\(n=true->R (.int .i64 d) m)/\(n=false->(b (Aa .i64 (d+1)) m/\c (Aa .i64 (d+1)) m<c d e))))/\(decide (d<s0.len)=false->R (.int .i64 (-1)) e))):
  XC Tp 233 #[.slice s0.a s0.len s0.cap,.func (.func Z) ab aa] h R:=
 XF ⟨[],[(2,[(8,.one (.int .i64))])],[]⟩ [.tmp 4] 19 Tryz.func233 H
theorem zfz(b:Int)(c:Bt)(d:Sl)(e:Sl)(c1:Addr)(h:za)(R:Value->za->Prop)
  (H:let f:=h.push (.cells #[.int .i64 b,.string c,slV d,slV e] 26);∃g i j k,zd f ⟨h.size,0,none⟩ 0 [.int .i64 g,.string i,slV j,slV k]/\∃l:Value,zc f c1=some l/\XC Tp 94 #[.agg #[.int .i64 g,.string i,slV j,slV k],l] f (λm n=>∃o,m=.bool o/\R (.bool (!o)) n)):
  XC Tp 163 #[.agg #[.int .i64 b,.string c,.slice d.a d.len d.cap,.slice e.a e.len e.cap],.pointer (some c1)] h R:=
 XF ⟨[],[],[]⟩ [.tmp 3] 8 Tryz.func163 H
theorem zjx(b:Int)(c:Bt)(d:Sl)(e:Sl)(aa:FuncId)(Z:Array Value)(ab:Array Value)(h:za)(R:Value->za->Prop)
  (H:let f:=h.push (.cells #[.int .i64 b,.string c,slV d,slV e] 26);let g:=f.push (.cells #[.func (.func aa) Z ab] 65);∃i:Value,zc g ⟨f.size,0,none⟩=some i/\∃j k l m,zd g ⟨h.size,0,none⟩ 0 [.int .i64 j,.string k,slV l,slV m]/\qcz Tp i #[.agg #[.int .i64 j,.string k,slV l,slV m]] (λn o=>XC Tp n o g (λp q=>∃r,p=.bool r/\∃s,(r=true->zc q (Ai ⟨h.size,0,none⟩ 3)=some (slV s))/\∃t:Value->za->Prop,(r=true->XC Tp 162 #[slV s,.func (.func 163) #[] #[.pointer (some ⟨f.size,0,none⟩)]] q (λu v=>∃w,u=.bool w/\t (.bool w) v))/\(r=false->∃x,t (.bool x) q)/\(r=true->∀y z,t y z->∃A,y=.bool A)/\∀B:Bool,∀C,t (.bool B) C->R (.bool (bif r then(!B)else false)) C))):
  XC Tp 94 #[.agg #[.int .i64 b,.string c,.slice d.a d.len d.cap,.slice e.a e.len e.cap],.func (.func aa) Z ab] h R:=
 XF ⟨[],[],[]⟩ [.tmp 4] 15 Tryz.func94 H
theorem zm3(b:Int)(c:Bt)(d:Sl)(e:Sl)(h:za)(R:Value->za->Prop)
  (H:let f:=h.push (.cells #[.int .i64 b,.string c,slV d,slV e] 26);∃g i j k,zd f ⟨h.size,0,none⟩ 0 [.int .i64 g,.string i,slV j,slV k]/\XC Tp 93 #[.agg #[.int .i64 g,.string i,slV j,slV k]] f (λl m=>∃n,l=.bool n/\∃o p q r,(n=true->zd m ⟨h.size,0,none⟩ 0 [.int .i64 o,.string p,slV q,slV r])/\∃s:Value->za->Prop,(n=true->XC Tp 94 #[.agg #[.int .i64 o,.string p,slV q,slV r],.func (.func 96) #[] #[]] m (λt u=>∃v,t=.bool v/\s (.bool v) u))/\(n=false->∃w,s (.bool w) m)/\(n=true->∀x y,s x y->∃z,x=.bool z)/\∀A:Bool,∀B,s (.bool A) B->R (.bool (bif n then A else false)) B)):
  XC Tp 88 #[.agg #[.int .i64 b,.string c,.slice d.a d.len d.cap,.slice e.a e.len e.cap]] h R:=
 XF ⟨[],[],[]⟩ [.tmp 2] 9 Tryz.func88 H
theorem wo(s0:Sl)(aa:FuncId)(Z:Array Value)(ab:Array Value)(h:za)(R:Value->za->Prop)
  (H:XC Tp 208 #[slV s0,.func (.func aa) Z ab] h (λb c=>∃d,b=.int .i64 d/\R (.bool (decide (d>=0))) c)):
  XC Tp 132 #[.slice s0.a s0.len s0.cap,.func (.func aa) Z ab] h R:=
 XF ⟨[],[],[]⟩ [.tmp 4] 9 Tryz.func132 H
theorem xw(s0:Sl)(Z:FuncId)(aa:Array Value)(ab:Array Value)(h:za)(R:Value->za->Prop)
  (H:∃(b:Int->za->Prop) (c:Int->za->Nat),b 0 h/\∀d:Int,∀e:za,b d e->((decide (d<s0.len)=true->∃f,(s0.a=some f/\0<=d/\d<s0.len)/\∃g,zc e (f.add (d.toNat*1))=some (.string g)/\zj Tp Z=true/\XC Tp Z (aa++#[.string g]++ab) e (λi j=>∃k,i=.bool k/\(k=true->R (.int .i64 d) j)/\(k=false->(b (Aa .i64 (d+1)) j/\c (Aa .i64 (d+1)) j<c d e))))/\(decide (d<s0.len)=false->R (.int .i64 (-1)) e))):
  XC Tp 208 #[.slice s0.a s0.len s0.cap,.func (.func Z) aa ab] h R:=
 XF ⟨[],[(2,[(8,.one (.int .i64))])],[]⟩ [.tmp 4] 19 Tryz.func208 H
theorem zdu(s0:Bt)(h:za)(R:Value->za->Prop)
  (H:XC Tp 134 #[.string s0] h (λa b=>∃c,a=.bool c/\R (.bool (!c)) b)):
  XC Tp 133 #[.string s0] h R:=
 XF ⟨[],[],[]⟩ [.tmp 2] 6 Tryz.func133 H
theorem zf0(Z:Sl)(h:za)(R:Value->za->Prop)
  (H:∃b:Value->za->Prop,(decide ((Z.len:Int)<=64)=true->XC Tp 132 #[slV Z,.func (.func 133) #[] #[]] h (λc d=>∃e,c=.bool e/\b (.bool e) d))/\(decide ((Z.len:Int)<=64)=false->∃f,b (.bool f) h)/\(decide ((Z.len:Int)<=64)=true->∀g i,b g i->∃j,g=.bool j)/\∀k:Bool,∀l,b (.bool k) l->R (.bool (bif (decide ((Z.len:Int)<=64))then(!k)else false)) l):
  XC Tp 70 #[.slice Z.a Z.len Z.cap] h R:=
 XF ⟨[],[],[]⟩ [.tmp 2] 11 Tryz.func70 H
theorem ju(b0:Option Addr)(c1:Int)(h:za)(R:Value->za->Prop)
  (H:XC Tp 152 #[.pointer b0] h (λb c=>b=.tuple #[]/\∃d,b0=some d/\∃e,zc c (Ai d 1)=some (slV e)/\let f:=c.push (.cells #[.int .u8 c1] 5);Z5 Tp (AB #[110,110] 110 #[slV e,.slice (some ⟨c.size,0,none⟩) 1 1]) f (λg i=>∃j,g=slV j/\∃k,b0=some k/\zk Tp (An 110 (.pointer (some (Ai k 1))) (slV j)) i (λl=>R (.nilIface) l)))):
  XC Tp 81 #[.pointer b0,.int .u8 c1] h R:=
 XF ⟨[],[],[]⟩ [.tmp 4] 17 Tryz.func81 H
theorem je(b0:Option Addr)(s1:Bt)(h:za)(R:Value->za->Prop)
  (H:XC Tp 152 #[.pointer b0] h (λb c=>b=.tuple #[]/\∃d,b0=some d/\∃e,zc c (Ai d 1)=some (slV e)/\Z5 Tp (AB #[110,9] 110 #[slV e,.string s1]) c (λf g=>∃i,f=slV i/\∃j,b0=some j/\zk Tp (An 110 (.pointer (some (Ai j 1))) (slV i)) g (λk=>R (.tuple #[.int .i64 (s1.size:Int),.nilIface]) k)))):
  XC Tp 85 #[.pointer b0,.string s1] h R:=
 XF ⟨[],[],[]⟩ [.tmp 4,.tmp 5] 19 Tryz.func85 H
end
section
variable {gl M:Fr} {F:FuncId} {A C:Array Value} {h:za} {s:Sl}
theorem z0u:MapT Tp 154 9 4 (.bool false):=⟨by kernel_rfl,by kernel_rfl,⟨Tryz.t4,by kernel_rfl,by kernel_rfl⟩⟩
set_option maxHeartbeats 1000000 in
theorem z5w(hg:GL gl){ks:List Bt}{n:Int}(hk:∀k∈ks,(lb k).length<=1048576){R:Bool->Prop}(h:R (xe ks&&decide ((ks.length:Int)=n))):PC Tp gl 164 [Arg.mk (.row .str) ks,Arg.mk (.int .i64) n] [.bool] R:=by
 intro hp M vs hM ag ha
 match vs,ha with
 |[u,w],⟨h1,h2,_⟩=>
  obtain⟨s,rfl,hr⟩:=qds h1
  have hw:=qo h2
  subst hw
  have hr:Rd M (.row .str) ks [slV s]:=hr
  obtain⟨an,aL,aJ⟩:=rowLen hr
  apply PX.of
  apply zjw s n
  intro g0
  have kg:Keep hp.size hp g0:=Keep.push _ _ (Ac _)
  have sg:g0.size=hp.size+1:=Am _
  have mg:MapAt g0 hp.size []:=MapAt.new hp
  clear_value g0
  refine⟨λi h4=>∃k:Nat,i=k/\k<=ks.length/\hp.size<h4.size/\(∃M4,Later hp M h4 M4/\M4 hp.size=none)/\(∃l,MapAt h4 hp.size l/\∀x,zyw l x (.bool false)=.bool (decide (x∈ks.take k)))/\xe (ks.take k)=true,λi _=>ks.length-i.toNat,
   ⟨0,rfl,by omega,by omega,⟨M,Later.same ag kg,ag.none (Ac _)⟩,⟨[],mg,λx=>rfl⟩,by simp[xe]⟩,?_⟩
  rintro i h4 ⟨k,rfl,aI,af,⟨M4,L4,az⟩,⟨l,ai,ax⟩,aj⟩
  refine⟨λhc=>?_,λhc=>?_⟩
  ·have ab:k<ks.length:=by simp at hc;omega
   have aF:=Rd.mono L4.le hr
   refine zz3 L4.ag aF ab rfl rfl ?_
   have am:=zbm z0u ai ks[k] false
   rw[ax]at am
   refine⟨decide (ks[k]∈ks.take k),am,?_⟩
   have aa:=zpv hg.tabs (l:=lb ks[k]) (R:=λb=>b=jd (lb ks[k])) (by have:=hk _ (AN ab);omega) rfl
   rw[Y0]at aa
   generalize hd:decide (ks[k]∈ks.take k)=d
   refine⟨λv h5=>∃b,v=.bool b/\(d=false->b=jd (lb ks[k]))/\hp.size<h5.size/\(∃M5,Later hp M h5 M5/\M5 hp.size=none)/\MapAt h5 hp.size l,λhn=>?_,λhn=>⟨true,true,rfl,λe=>(by rw[e]at hn;cases hn),af,⟨M4,L4,az⟩,ai⟩,λ_ v h5 ⟨b,e,_⟩=>⟨b,e⟩,?_⟩
   ·refine aa.go (vs:=[.string ks[k]]) (hM.trans L4.le) L4.ag (yj (rdStr _) jy) λv h5 M5 r L5 ay aE=>⟨r,zn1 ay,r,rfl,λ_=>aE,by have:=L5.keep.size;omega,⟨M5,L4.trans L5,by rw[L5.old _ af,az]⟩,ai.keep (L5.keep.get _ af)⟩
   ·rintro b h5 ⟨b',e,hb,aH,⟨M5,L5,au⟩,aG⟩
    cases e
    have ar:ks.take (k+1)=ks.take k++[ks[k]]:=Av ab
    have ap:xe (ks.take (k+1))=(!d&&jd (lb ks[k])):=by
     have Z:=aj
     unfold xe at Z ⊢
     rw[As,decide_eq_true_eq]at Z
     rw[ar,Ea,Z.1,<-hd]
     have:decide (List.take k ks++[ks[k]]).Nodup=!decide (ks[k]∈ks.take k):=by
      rw[AJ]
      simp only[decide_eq_true_eq,CY,decide_eq_false_iff_not,CG]
      constructor
      ·rintro⟨_,_,h3⟩ ae
       exact h3 _ ae _ (by simp) rfl
      ·intro ae
       exact⟨Z.2,by simp,λa ha b hb e=>ae (by simp at hb;rw[<-hb,<-e];exact ha)⟩
     rw[this];simp[Bool.and_comm]
    refine⟨λhx=>?_,λhx=>?_⟩
    ·refine⟨M5,_,L5,zdo.2 (rdBool _),?_⟩
     have hf:xe (ks.take (k+1))=false:=by
      rw[ap]
      cases d with
      |true=>rfl
      |false=>rw[hb rfl]at hx;simpa using hx
     have aA:xe ks=false:=by
      cases hks:xe ks with
      |false=>rfl
      |true=>
       unfold xe at hks hf
       rw[As,decide_eq_true_eq]at hks
       have h1:((ks.take (k+1)).all λk=>jd (lb k))=true:=by
        rw[AD]at hks ⊢
        exact λx hx=>hks.1 x (List.mem_of_mem_take hx)
       have h2:(ks.take (k+1)).Nodup:=hks.2.sublist (List.take_sublist _ _)
       rw[h1,decide_eq_true h2]at hf;cases hf
     rw[aA]at h;exact h
    ·have ah:d=false:=by cases d with
      |true=>simp at hx
      |false=>rfl
     have aB:jd (lb ks[k])=true:=by rw[<-hb ah];rw[ah]at hx;simpa using hx
     refine zok z0u aG ks[k] (.bool true) λh6 m6 s6 o6=>?_
     rw[Yk ab (by omega)]
     refine⟨⟨k+1,rfl,by omega,by omega,⟨M5,⟨⟨by have:=L5.keep.size;omega,λi hi=>by rw[o6 i (by omega)];exact L5.keep.get i hi⟩,L5.le,L5.old,?_⟩,au⟩,⟨_,m6,λx=>?_⟩,by rw[ap,ah,aB];rfl⟩,by simp only[Al];omega⟩
     ·intro b c e
      have aC:b≠hp.size:=λe2=>by rw[e2,au]at e;cases e
      obtain⟨T,m,e'⟩:=L5.ag b c e
      exact⟨T,m,by rw[o6 b aC];exact e'⟩
     ·unfold zyw
      rw[zoj,ar]
      by_cases ak:ks[k]=x
      ·subst ak
       rw[if_pos rfl]
       simp only[Aw,A6,or_true,decide_true,Option.getD_some]
      ·rw[if_neg ak]
       have:=ax x
       unfold zyw at this
       rw[this]
       congr 1
       rw[AJ,decide_eq_true_eq,decide_eq_true_eq,Aw,A6]
       exact⟨.inl,λe=>e.elim id λe=>absurd e.symm ak⟩
  ·have ab:k=ks.length:=by simp at hc;omega
   subst ab
   rw[AW]at aj
   refine⟨M4,_,L4,zdo.2 (rdBool _),?_⟩
   rw[aj,BZ]at h
   have:(((s.len:Nat):Int)==n)=decide ((ks.length:Int)=n):=by rw[an,AJ];simp
   rw[this];exact h
def Beh(gl:Fr)(F:FuncId)(A C:Array Value)(h:za)(M:Fr)(t:Ty)(x:El t)(b:Bool):Prop:=
 zj Tp F=true/\∀h' M' u,Later h M h' M'->RdV M' t x u->PX Tp F (A++#[u]++C) h' M' [.bool] (λr=>r=b)
theorem qd2(ag:AgM M h){xs:List Tr}(hr:Rd M (.row .tree) xs [slV s]){p:Tr->Bool}(hb:∀x∈xs,Beh gl F A C h M .tree x (p x)):
  PX Tp 162 #[slV s,.func (.func F) A C] h M [.bool] (λr=>r=xs.any p):=by
 apply PX.of
 apply jl s F A C
 apply j4 s F A C
 obtain⟨af,ah,ai⟩:=rowLen hr
 refine⟨λi h4=>∃k:Nat,i=k/\k<=xs.length/\(∃M4,Later h M h4 M4)/\(xs.take k).any p=false,λi _=>xs.length-i.toNat,⟨0,rfl,by omega,⟨M,Later.refl ag⟩,by simp⟩,?_⟩
 rintro i h4 ⟨k,rfl,hk,⟨M4,L4⟩,aa⟩
 refine⟨λhc=>?_,λhc=>?_⟩
 ·have Z:k<xs.length:=by simp at hc;omega
  obtain⟨a,sk,si,e1,e2,e3,e4⟩:=zpg L4.ag (Rd.mono L4.le hr) Z
  refine⟨a,⟨e1,by omega,by omega⟩,xs[k].kind,xs[k].text,sk,si,by rw[Al];exact e2,(hb _ (AN Z)).1,?_⟩
  refine((hb _ (AN Z)).2 h4 M4 _ L4 (jz e3 e4)).go λv h5 M5 r L5 ae ab=>⟨r,zn1 ae,λhx=>?_,λhx=>?_⟩
  ·refine⟨(k:Int),rfl,M5,_,L4.trans L5,zdo.2 (rdBool _),?_⟩
   have:xs.any p=true:=DN.2 ⟨xs[k],AN Z,by rw[<-ab];exact hx⟩
   rw[this];simp
  ·rw[Yk Z (by omega)]
   refine⟨⟨k+1,rfl,by omega,⟨M5,L4.trans L5⟩,?_⟩,by simp only[Al];omega⟩
   rw[Av Z,List.any_append,aa]
   simp only[List.any_cons,List.any_nil,<-ab,hx];rfl
 ·have Z:k=xs.length:=by simp at hc;omega
  subst Z
  rw[AW]at aa
  refine⟨-1,rfl,M4,_,L4,zdo.2 (rdBool _),?_⟩
  rw[aa];rfl
theorem qgu(ag:AgM M h){xs:List Bt}(hr:Rd M (.row .str) xs [slV s]){p:Bt->Bool}(hb:∀x∈xs,Beh gl F A C h M .str x (p x)):
  PX Tp 132 #[slV s,.func (.func F) A C] h M [.bool] (λr=>r=xs.any p):=by
 apply PX.of
 apply wo s F A C
 apply xw s F A C
 obtain⟨af,ah,ai⟩:=rowLen hr
 refine⟨λi h4=>∃k:Nat,i=k/\k<=xs.length/\(∃M4,Later h M h4 M4)/\(xs.take k).any p=false,λi _=>xs.length-i.toNat,⟨0,rfl,by omega,⟨M,Later.refl ag⟩,by simp⟩,?_⟩
 rintro i h4 ⟨k,rfl,hk,⟨M4,L4⟩,aa⟩
 refine⟨λhc=>?_,λhc=>?_⟩
 ·have Z:k<xs.length:=by simp at hc;omega
  refine zz3 L4.ag (Rd.mono L4.le hr) Z rfl rfl ⟨(hb _ (AN Z)).1,?_⟩
  refine((hb _ (AN Z)).2 h4 M4 _ L4 (rdStr _)).go λv h5 M5 r L5 ab ae=>⟨r,zn1 ab,λhx=>?_,λhx=>?_⟩
  ·refine⟨(k:Int),rfl,M5,_,L4.trans L5,zdo.2 (rdBool _),?_⟩
   have:xs.any p=true:=DN.2 ⟨xs[k],AN Z,by rw[<-ae];exact hx⟩
   rw[this];simp
  ·rw[Yk Z (by omega)]
   refine⟨⟨k+1,rfl,by omega,⟨M5,L4.trans L5⟩,?_⟩,by simp only[Al];omega⟩
   rw[Av Z,List.any_append,aa]
   simp only[List.any_cons,List.any_nil,<-ae,hx];rfl
 ·have Z:k=xs.length:=by simp at hc;omega
  subst Z
  rw[AW]at aa
  refine⟨-1,rfl,M4,_,L4,zdo.2 (rdBool _),?_⟩
  rw[aa];rfl
end
section
variable {l:List Bt} {gl:Fr} {v:Tr} {R:Bool -> Prop} {F:FuncId}
theorem qia:decide (((l.length:Nat):Int)>0)=!l.isEmpty:=by cases l <;> simp
theorem qgv{l:List Tr}:decide (((l.length:Nat):Int)>0)=!l.isEmpty:=by cases l <;> simp
theorem z8o(s:Bt):(s.toList==(⟨#[]⟩:Bt).toList)=(lb s==[]):=by
 have:=zfx (lb s) []
 rw[Y0]at this
 rw[show(⟨#[]⟩:Bt)=bl []from rfl,this,AJ];simp
theorem qd3(s:Bt)(l:Bs):(s.toList==(bl l).toList)=(lb s==l):=by
 have:=zfx (lb s) l
 rw[Y0]at this
 rw[this,AJ];simp
theorem qib{k n:Int}:(k==n)=decide (k=n):=by rw[AJ];simp
set_option maxHeartbeats 1000000 in
theorem z0v(hg:GL gl)(hv:Sm v)(h:R (qe v)):PC Tp gl 96 [Arg.mk .tree v] [.bool] R:=by
 apply zmf
 have ht:(lb v.text).length<=1152921504606846976:=by have:=hv.text;omega
 have key:∀b,b=qe v->R b:=λb hb=>by rw[hb];exact h
 have hd:=zcc hg (s:=lb v.text) (R:=λr=>R r.2\/v.kind≠3) ht
 have ae:=zpv hg.tabs (l:=lb v.text) (R:=λr=>r=jd (lb v.text)) (by omega) rfl
 have ah:=qa6 hg (s:=lb v.text) (R:=λr=>r=z0q (lb v.text)) ht rfl
 have af:=zcc hg (s:=lb v.text) (R:=λr=>r.2=(zxh (lb v.text)).2) ht rfl
 rw[Y0]at ae ah af
 simp only[qib,qia,qgv,show(⟨#[116,114,117,101]⟩:Bt)=bl [116,114,117,101]from rfl,show(⟨#[102,97,108,115,101]⟩:Bt)=bl [102,97,108,115,101]from rfl,qd3]
 unfold qe at key
 refine⟨λh5=>key _ ?_,λh5=>⟨λh6=>?_,λh6=>⟨λhx=>key _ ?_,λhx=>?_⟩⟩⟩
 ·have:v.kind=5:=by simpa using h5
  simp[this,Bool.and_comm]
 ·have Z:v.kind=6:=by simpa using h6
  refine z5w hg (λk hk=>hv.key hk) (key _ ?_)
  simp only[Z]
  rw[Bool.cond_false_right]
  have:decide ((v.keys.length:Int)=(v.items.length:Int))=decide (v.keys.length=v.items.length):=by rw[AJ,decide_eq_true_eq,decide_eq_true_eq];omega
  rw[this];rfl
 ·have ab:v.kind≠5:=by simpa using h5
  have Z:v.kind≠6:=by simpa using h6
  have aa:(v.keys.isEmpty&&v.items.isEmpty)=false:=by
   cases hk:v.keys.isEmpty <;> cases hi:v.items.isEmpty <;> simp[hk,hi]at hx ⊢
  simp only[ab,Z,if_false,Bool.and_assoc,aa,Bool.and_false]
  simp
 ·have ab:v.kind≠5:=by simpa using h5
  have Z:v.kind≠6:=by simpa using h6
  have aa:v.keys.isEmpty=true/\v.items.isEmpty=true:=by
   cases hk:v.keys.isEmpty <;> cases hi:v.items.isEmpty <;> simp[hk,hi]at hx ⊢
  simp only[ab,Z,if_false,aa.1,aa.2,Dg]at key
  refine⟨λh1=>key _ ?_,λh1=>⟨λh2=>key _ ?_,λh2=>⟨λh3=>?_,λh3=>⟨λh4=>?_,λh4=>⟨λh7=>?_,λh7=>key _ ?_⟩⟩⟩⟩⟩
  ·have:v.kind=1:=by simpa using h1
   simp[this]
  ·have:v.kind=2:=by simpa using h2
   simp[this]
  ·have:v.kind=3:=by simpa using h3
   exact af.mono λr hr=>key _ (by rw[hr];simp[this])
  ·have:v.kind=4:=by simpa using h4
   exact ae.mono λr hr=>key _ (by rw[hr];simp[this])
  ·have:v.kind=7:=by simpa using h7
   exact ah.mono λr hr=>key _ (by rw[hr];simp[this])
  ·have an:v.kind≠1:=by simpa using h1
   have ai:v.kind≠2:=by simpa using h2
   have ak:v.kind≠3:=by simpa using h3
   have am:v.kind≠4:=by simpa using h4
   have aj:v.kind≠7:=by simpa using h7
   simp[an,ai,ak,am,aj]
theorem z5x{k:Nat}(h:k<l.length):l[((k:Int)).toNat]?=some l[k]:=by rw[Al,Aq h]
theorem z5y(hF:zj Tp F=true){p:Tr->Bool}(hp:∀x,Sm x->PC Tp gl F [Arg.mk .tree x] [.bool] (λr=>r=p x))(n:Nat):∀(v:Tr),tsz v<=n->Sm v->∀{h:za} {M:Fr} {u:Value},Fr.le gl M->AgM M h->RdV M .tree v u ->
  PX Tp 94 #[u,.func (.func F) #[] #[]] h M [.bool] (λr=>r=zb9 p v):=by
 induction n with
 |zero=>intro v hn;have:=zcb v;omega
 |succ n ih=>
 intro v hn hv h M u hM ag hu
 have aE:=hu
 obtain⟨sk,si,rfl,rk,ri⟩:=wn hu
 apply PX.of
 apply zjx v.kind v.text sk si F #[] #[]
 intro h1 h2
 have L1:Later h M h1 M:=Later.push ag _
 have aa:Later h1 M h2 (Mx M h1.size #[.func (.func F) #[] #[]]):=Later.frz L1.ag _ _
 have s1:h1.size=h.size+1:=Am _
 have s2:h2.size=h1.size+1:=Am _
 have ah:zd h2 ⟨h.size,0,none⟩ 0 [.int .i64 v.kind,.string v.text,slV sk,slV si]:=zw7 (h':=h2) (by have:=aa.keep;rw[s1]at this;exact this)
 have az:∀h':za,Keep h2.size h2 h'->zc h' (Ai ⟨h.size,0,none⟩ 3)=some (slV si):=λh' k=>by
  refine qau (h:=h) (T:=26) (cs:=[.int .i64 v.kind,.string v.text,slV sk,slV si]) ?_ rfl
  have:=aa.keep.trans k (by omega)
  rw[s1]at this;exact this
 have aj:zc h2 ⟨h1.size,0,none⟩=some (.func (.func F) #[] #[]):=aa.ag.cell (zz4 _ _ _) rfl
 have ax:(Mx M h1.size #[.func (.func F) #[] #[]]) h1.size=some #[.func (.func F) #[] #[]]:=zz4 _ _ _
 have L2:=L1.trans aa
 clear_value h1 h2
 generalize (Mx M h1.size #[.func (.func F) #[] #[]])=M2 at *
 refine⟨_,aj,v.kind,v.text,sk,si,ah,hF,?_⟩
 refine(hp v hv).go (vs:=[.agg #[.int .i64 v.kind,.string v.text,slV sk,slV si]]) (hM.trans L2.le) L2.ag (yj (RdV.mono L2.le aE) jy) λw h3 M3 r L3 am hr=>?_
 refine⟨r,zn1 am,si,λ_=>az h3 L3.keep,?_⟩
 have ab:=L2.trans L3
 refine⟨λw h4=>∃b,w=.bool b/\(r=true->b=!(ze2 p v.items))/\∃M4,Later h M h4 M4,λaH=>?_,λak=>⟨true,true,rfl,λe=>(by rw[e]at ak;cases ak),M3,ab⟩,λ_ w h4 ⟨b,e,_⟩=>⟨b,e⟩,?_⟩
 ·have aF:Rd M3 (.row .tree) v.items [slV si]:=Rd.mono ab.le ri
  have an:M3 h1.size=some #[.func (.func F) #[] #[]]:=L3.le _ _ ax
  refine(qd2 (gl:=gl) L3.ag aF (p:=λx=>!(zb9 p x)) λx hx=>⟨by kernel_rfl,λh' M' u' L' ap=>?_⟩).go λw h4 M4 b L4 af aC=>⟨b,zn1 af,b,rfl,λ_=>?_,M4,ab.trans L4⟩
  ·have aG:=wv hx
   obtain⟨ae,Z,rfl,ay,aB⟩:=wn ap
   apply PX.of
   show XC Tp 163 #[.agg #[.int .i64 x.kind,.string x.text,slV ae,slV Z],.pointer (some ⟨h1.size,0,none⟩)] h' _
   apply zfz x.kind x.text ae Z
   intro g1
   have G1:Later h' M' g1 M':=Later.push L'.ag _
   have au:zd g1 ⟨h'.size,0,none⟩ 0 [.int .i64 x.kind,.string x.text,slV ae,slV Z]:=zw7 (Keep.refl _ _)
   have aA:zc g1 ⟨h1.size,0,none⟩=some (.func (.func F) #[] #[]):=G1.ag.cell (L'.le _ _ an) rfl
   clear_value g1
   refine⟨x.kind,x.text,ae,Z,au,_,aA,?_⟩
   refine(ih x (by omega) (hv.item hx) (h:=g1) (M:=M') ((hM.trans ab.le).trans L'.le) G1.ag (jz ay aB)).go λw h5 M5 b L5 ai ar=>⟨b,zn1 ai,M5,_,G1.trans L5,zdo.2 (rdBool _),by rw[ar]⟩
  ·rw[aC,xu,AJ];simp
 ·rintro b h4 ⟨b',e,hb,M4,L4⟩
  cases e
  refine⟨M4,_,L4,zdo.2 (rdBool _),?_⟩
  rw[xt,<-hr]
  cases r with
  |false=>rfl
  |true=>rw[hb rfl];simp
theorem zuv(hF:zj Tp F=true){p:Tr->Bool}(hp:∀x,Sm x->PC Tp gl F [Arg.mk .tree x] [.bool] (λr=>r=p x))(v:Tr)(hv:Sm v){h:za}{M:Fr}{u:Value}(hM:Fr.le gl M)(ag:AgM M h)(hu:RdV M .tree v u):
  PX Tp 94 #[u,.func (.func F) #[] #[]] h M [.bool] (λr=>r=zb9 p v):=z5y hF hp (tsz v) v (Ac _) hv hM ag hu
theorem qa7(hg:GL gl)(hv:Sm v)(hR:R (X7 v)):PC Tp gl 88 [Arg.mk .tree v] [.bool] R:=by
 intro h M vs hM ag ha
 match vs,ha with
 |[u],⟨hu,_⟩=>
  have hu:RdV M .tree v u:=hu
  have ah:=hu
  obtain⟨sk,si,rfl,rk,ri⟩:=wn hu
  apply PX.of
  apply zm3 v.kind v.text sk si
  intro h1
  have L1:Later h M h1 M:=Later.push ag _
  have s1:h1.size=h.size+1:=Am _
  have aa:∀h':za,Keep h1.size h1 h'->zd h' ⟨h.size,0,none⟩ 0 [.int .i64 v.kind,.string v.text,slV sk,slV si]:=λh' k=>zw7 (h':=h') (by rw[s1]at k;exact k)
  clear_value h1
  refine⟨v.kind,v.text,sk,si,aa h1 (Keep.refl _ _),?_⟩
  have ai:PC Tp gl 93 [Arg.mk .tree v] [.bool] (λr=>r=Q9 v):=zuu hv rfl
  refine ai.go (vs:=[.agg #[.int .i64 v.kind,.string v.text,slV sk,slV si]]) (hM.trans L1.le) L1.ag (yj (RdV.mono L1.le ah) jy) λw h2 M2 r L2 af hr=>?_
  refine⟨r,zn1 af,v.kind,v.text,sk,si,λ_=>aa h2 L2.keep,?_⟩
  have Z:=L1.trans L2
  refine⟨λw h4=>∃b,w=.bool b/\(r=true->b=zb9 qe v)/\∃M4,Later h M h4 M4,λak=>?_,λae=>⟨true,true,rfl,λe=>(by rw[e]at ae;cases ae),M2,Z⟩,λ_ w h4 ⟨b,e,_⟩=>⟨b,e⟩,?_⟩
  ·refine(zuv (F:=96) (by kernel_rfl) (p:=qe) (λx hx=>z0v hg hx rfl) v hv (hM.trans Z.le) L2.ag (RdV.mono Z.le ah)).go λw h3 M3 b L3 ab aj=>⟨b,zn1 ab,b,rfl,λ_=>aj,M3,Z.trans L3⟩
  ·rintro b h4 ⟨b',e,hb,M4,L4⟩
   cases e
   refine⟨M4,_,L4,zdo.2 (rdBool _),?_⟩
   unfold X7 at hR
   rw[<-hr]at hR
   cases r with
   |false=>exact hR
   |true=>rw[cond_true,hb rfl];exact hR
end
end Go.X
end
section
namespace Go.X
open Go Go.RowKit
section
variable {h h':za} {bs:List Nat} {v:Tr} {M:Fr} {b o:Nat} {cs:Array Value} {vs:List Value}
def OKeys(h:za)(ks:List Bt)(bs:List Nat)(s:Sl):Prop:=
 s.len=ks.length/\ks.length<=140737488355328/\ks.length<=s.cap/\((ks=[]/\bs=[]/\s.cap=0)\/∃b cs,bs=[b]/\s.a=some ⟨b,0,none⟩/\Blk h b cs/\s.cap<=cs.size/\cut cs 0 ks.length=ks.map Bl)
inductive OT (h:za):Tr->List Nat->List Value->Prop where
 |mk {k:Int} {s:Bt} {ks:List Bt} {xs:List Tr} {sk si:Sl} {bk bb:List Nat} {b:Nat} {cs:Array Value} {bf:Nat->List Nat}
  (hk:OKeys h ks bk sk) (hn:si.len=xs.length/\xs.length<=140737488355328/\xs.length<=si.cap)
  (hz:(xs=[]/\bb=[]/\si.cap=0)\/(bb=[b]/\si.a=some ⟨b,0,none⟩/\Blk h b cs/\si.cap*4<=cs.size))
  (hi:∀i (hx:i<xs.length),OT h xs[i] (bf i) (cut cs (i*4) 4))
  (hd:(bk++(bb++(Cb xs.length).flatMap bf)).Nodup):
  OT h (.mk k s ks xs) (bk++(bb++(Cb xs.length).flatMap bf)) [.int .i64 k,.string s,slV sk,slV si]
theorem OKeys.frame{ks:List Bt}{s:Sl}(H:OKeys h ks bs s)(hf:∀b∈bs,h'[b]?=h[b]?):OKeys h' ks bs s:=by
 obtain⟨h1,h2,h3,h4⟩:=H
 refine⟨h1,h2,h3,h4.imp id ?_⟩
 rintro⟨b,cs,rfl,e1,e2,e3⟩
 exact⟨b,cs,rfl,e1,e2.keep (hf b (by simp)),e3⟩
theorem OT.frame{cells:List Value}(H:OT h v bs cells):(∀b∈bs,h'[b]?=h[b]?)->OT h' v bs cells:=by
 induction H with
 | @mk k s ks xs sk si bk bb b cs bf hk hn hz hi hd ih=>
  intro hf
  refine OT.mk (b:=b) (cs:=cs) (hk.frame λx hx=>hf x (by simp[hx])) hn (hz.imp id ?_) (λi hx=>ih i hx λx Z=>hf x ?_) hd
  ·rintro⟨rfl,e1,e2,e3⟩
   exact⟨rfl,e1,e2.keep (hf b (by simp)),e3⟩
  ·simp only[Aw,CF,Bw]
   exact .inr (.inr ⟨i,hx,Z⟩)
theorem OT.nodup{cells:List Value}(H:OT h v bs cells):bs.Nodup:=by
 cases H with|mk _ _ _ _ hd=>exact hd
theorem OT.lt{cells:List Value}(H:OT h v bs cells):∀b∈bs,b<h.size:=by
 induction H with
 | @mk k s ks xs sk si bk bb b cs bf hk hn hz hi hd ih=>
  intro x hx
  simp only[Aw,CF,Bw]at hx
  rcases hx with hx|hx|⟨i,h1,h2⟩
  ·obtain⟨_,_,_,h4⟩:=hk
   rcases h4 with⟨_,rfl,_⟩|⟨b',cs',rfl,_,e,_⟩
   ·cases hx
   ·simp at hx;subst hx;exact e.lt
  ·rcases hz with⟨_,rfl,_⟩|⟨rfl,_,e,_⟩
   ·cases hx
   ·simp at hx;subst hx;exact e.lt
  ·exact ih i h1 x h2
theorem OT.len{cells:List Value}(H:OT h v bs cells):cells.length=4:=by cases H;rfl
theorem OT.rd{cells:List Value}(H:OT h v bs cells)(hM:∀b∈bs,∀cs,Blk h b cs->M b=some cs):TrRd M v cells:=by
 induction H with
 | @mk k s ks xs sk si bk bb b cs bf hk hn hz hi hd ih=>
  obtain⟨k1,k2,k3,k4⟩:=hk
  have aa:RowAt M (λs cs=>cs=[.string s]) 1 ks (slV sk):=by
   refine⟨sk.a,sk.cap,by rw[slV,k1],⟨k2,k3⟩,?_⟩
   rcases k4 with⟨h0,_⟩|⟨b',cs',rfl,e1,e2,_,e3⟩
   ·exact .inl h0
   ·refine .inr ⟨b',0,cs',e1,hM b' (by simp) cs' e2,λi hx=>?_⟩
    have:(cut cs' 0 ks.length)[i]?=some (Bl ks[i]):=by rw[e3,BN,Aq hx];rfl
    unfold cut at this ⊢
    rw[AL,if_pos hx,Cc]at this
    have Z:=(AF.1 this).1
    rw[AK,Cw,Ba Z,C3,List.take_zero]
    rw[Aq Z]at this
    rw[Au this]
  have ae:slV si=.slice si.a xs.length si.cap:=by rw[slV,hn.1]
  rw[ae]
  refine TrRd.mk (b:=b) (o:=0) (cs:=cs) aa hn.2 (hz.imp (·.1) ?_) λi hx=>?_
  ·rintro⟨rfl,e1,e2,_⟩
   exact⟨e1,hM b (by simp) cs e2⟩
  ·rw[AK]
   exact ih i hx λx ab cs' e=>hM x (by
    simp only[Aw,CF,Bw]
    exact .inr (.inr ⟨i,hx,ab⟩)) cs' e
def MxL(M:Fr)(h:za)(bs:List Nat):Fr:=λi=>if i∈bs then(match h[i]? with
 |some (.cells cs _ _)=>some cs
 |_=>none)else M i
theorem MxL.ag{M:Fr}{h:za}(ag:AgM M h)(bs:List Nat):AgM (MxL M h bs) h:=by
 intro b c e
 unfold MxL at e
 split at e
 ·split at e
  ·rename_i cs T m hb
   cases e;exact⟨T,m,hb⟩
  ·cases e
 ·exact ag b c e
theorem MxL.later{h0 h:za}(ag:AgM M h0)(k:Keep h0.size h0 h)(hb:∀b∈bs,h0.size<=b):Later h0 M h (MxL M h bs) where
 keep:=k
 le:=λb c e=>by
  have:=ag.lt e
  unfold MxL;rw[if_neg (λhm=>by have:=hb b hm;omega)];exact e
 old:=λb hlt=>by unfold MxL;rw[if_neg (λhm=>by have:=hb b hm;omega)]
 ag:=MxL.ag (ag.keep k) bs
theorem MxL.at(hb:b∈bs)(e:Blk h b cs):MxL M h bs b=some cs:=by
 obtain⟨T,e⟩:=e
 unfold MxL;rw[if_pos hb,e]
theorem OT.rdv{cells:List Value}(H:OT h v bs cells):RdV (MxL M h bs) .tree v (.agg cells.toArray):=by
 unfold RdV
 simp only[zjf,if_true]
 exact⟨cells,rfl,H.rd λb hb cs e=>MxL.at hb e⟩
def upd(cs:Array Value)(o:Nat)(vs:List Value):Array Value:=(cs.toList.take o++vs++cs.toList.drop (o+vs.length)).toArray
theorem zuw(h:o+vs.length<=cs.size):(upd cs o vs).size=cs.size:=by
 unfold upd;simp;omega
theorem qa8(h:o+vs.length<=cs.size)(q:Nat):(upd cs o vs).toList[q]?=if q<o then cs.toList[q]? else if q<o+vs.length then vs[q-o]? else cs.toList[q]?:=by
 unfold upd
 exact Qt (by simpa using h) q
theorem yk{o n i:Nat}:(cut cs o n)[i]?=if i<n then cs.toList[o+i]? else none:=by
 unfold cut
 rw[AL]
 split
 ·rw[AQ]
 ·rfl
theorem zif{P:Program}{t:TypeId}(hi:qd P t=true)(H:Blk h b cs){v:Value}(hc:v.cells.toList=vs)(hs:qn P t=vs.length)(hl:o+vs.length<=cs.size)(h1:∀u∈vs,u.oneCell'=true){K:za->Prop}
  (hK:∀h':za,Blk h' b (upd cs o vs)->h'.size=h.size->(∀j,j≠b->h'[j]?=h[j]?)->K h'):zk P (An t (.pointer (some ⟨b,o,none⟩)) v) h K:=by
 intro B d
 obtain⟨T,e⟩:=H
 have Z:v.cells.size=vs.length:=by rw[<-hc];simp
 obtain⟨h',r1,r2,r3,r4⟩:=Q1 (P:=P) hi hs e Z hl (by rw[hc];exact h1) B d
 refine⟨d,h',r1,hK h' ⟨T,?_⟩ r3 r4⟩
 rw[r2]
 unfold upd
 rw[hc]
theorem Blk.ofKeep(H:Blk h b cs)(k:Keep h.size h h'):Blk h' b cs:=H.keepN k H.lt
theorem zig(ag:AgM M h)(bs:List Nat):Fr.le M (MxL M h bs):=by
 intro b c e
 unfold MxL
 split
 ·obtain⟨T,m,e'⟩:=ag b c e
  rw[e']
 ·exact e
end
end Go.X
end
section
namespace Go.X
section
theorem z0w:ElemT Tp 23 9 (.string ⟨#[]⟩) 1 16:=⟨by kernel_rfl,⟨Tryz.t9,by kernel_rfl,by kernel_rfl,by kernel_rfl,by kernel_rfl⟩,rfl,by omega⟩
theorem zux:ElemT Tp 24 26 (.agg #[.int .i64 0,.string ⟨#[]⟩,.slice none 0 0,.slice none 0 0]) 4 72:=⟨by kernel_rfl,⟨Tryz.t26,by kernel_rfl,by kernel_rfl,by kernel_rfl,by kernel_rfl⟩,rfl,by omega⟩
theorem qd4:qd Tp 23=true:=by kernel_rfl
theorem qd5:qn Tp 23=1:=by kernel_rfl
def z8p(k:Int)(s:Bt)(sk si:Sl):List Value:=[.int .i64 k,.string s,slV sk,slV si]
end
end Go.X
end
section
namespace Go.X
open Go Go.Lib
section
mutual
def tks:Tr->Nat | .mk _ _ ks xs=>1+ks.length+zm4 xs
def zm4:List Tr->Nat | []=>0|x::l=>tks x+zm4 l
end
theorem qd6(v:Tr):tks v=1+v.keys.length+zm4 v.items:=by cases v;rw[tks]
theorem zih:∀a b:List Tr,zm4 (a++b)=zm4 a+zm4 b
 |[],b=>by simp[zm4]
 |x::l,b=>by rw[AE,zm4,zm4,zih l b];omega
theorem z0x{l:List Tr}{k:Nat}(hk:k<l.length):zm4 (l.take (k+1))=zm4 (l.take k)+tks l[k]:=by
 rw[Av hk,zih];simp[zm4]
mutual
theorem z0y:∀v:Tr,tsz v<=tks v
 |.mk k s ks xs=>by rw[tsz,tks];have:=zpy xs;omega
theorem zpy:∀l:List Tr,Yf l<=zm4 l
 |[]=>by simp[Yf,zm4]
 |x::l=>by rw[Yf,zm4];have:=z0y x;have:=zpy l;omega
end
mutual
def txS:Tr->Prop | .mk _ s ks xs=>(s.size<=2048/\∀k∈ks,k.size<=1024)/\z8q xs
def z8q:List Tr->Prop | []=>True|x::l=>txS x/\z8q l
end
theorem qd7(v:Tr):txS v↔(v.text.size<=2048/\∀k∈v.keys,k.size<=1024)/\z8q v.items:=by cases v;rw[txS]
theorem zuy:∀{l:List Tr},z8q l↔∀x∈l,txS x
 |[]=>by simp[z8q]
 |x::l=>by rw[z8q,zuy];simp
mutual
theorem z8r:∀(v:Tr),tks v<=1000000->txS v->txB 1048576 v
 |.mk k s ks xs,h,g=>by
  rw[tks]at h;rw[txS]at g;rw[txB]
  exact⟨⟨by omega,by omega,λk hk=>by have:=g.1.2 k hk;omega⟩,z0z xs (by omega) g.2⟩
theorem z0z:∀(l:List Tr),zm4 l<=1000000->z8q l->zso 1048576 l
 |[],_,_=>by rw[zso];trivial
 |x::l,h,g=>by
  rw[zm4]at h;rw[z8q]at g;rw[zso]
  exact⟨z8r x (by omega) g.1,z0z l (by omega) g.2⟩
end
theorem Sm.few{v:Tr}(h:tks v<=1000000)(g:txS v):Sm v:=⟨by have:=z0y v;omega,z8r v h g⟩
def zpz(l:List Bt):Bool:=decide (l.length<=64)&&l.all λs=>jd (lb s)
end
end Go.X
end
section
namespace Go.X
section
variable {gl:Fr} {R:Tr -> Prop}
theorem z8s{gl:Fr}(v:Tr)(l d:Int)(hl:0<=l/\l<=1000)(hd:0<=d/\d<=61){R:Int->Prop}(h:∀r,-1000000000000000<=r->r<=l->(0<=r->r+tks v<=l)->R r):PC Tp gl 91 [Arg.mk .tree v,Arg.mk (.int .i64) l,Arg.mk (.int .i64) d] [.int .i64] R:=by
 refine PC.bd λaa=>?_
 have hb:v.keys.length<=140737488355328/\v.items.length<=140737488355328:=aa ⟨.tree,v⟩ (by simp)
 apply zex
 refine⟨λhx=>h _ (by omega) (by omega) (by omega),λhx=>?_⟩
 have ae:d<=60:=by simp at hx;omega
 rw[w64 (n:=l-1) (by omega),w64 (by omega)]
 refine⟨λl' i=>∃k:Nat,i=k/\k<=v.items.length/\-1000000000000000<=l'/\l'<=l/\(0<=l'->l'+(1+v.keys.length+zm4 (v.items.take k))<=l),λl' i=>v.items.length-i.toNat,⟨0,rfl,by omega,by omega,by omega,λ_=>by simp[zm4];omega⟩,?_⟩
 rintro l' i ⟨k,rfl,hk,h1,h2,h3⟩
 refine⟨λhc=>?_,λhc=>h l' h1 h2 λh0=>?_⟩
 ·have Z:k<v.items.length/\0<=l':=by simp at hc;omega
  refine⟨v.items[k],⟨by omega,ze3 Z.1⟩,?_⟩
  rw[W7,w64 (by omega)]
  have ab:=wv (AN Z.1)
  refine z8s v.items[k] l' (d+1) ⟨Z.2,by omega⟩ (by omega) λr r1 r2 r3=>?_
  rw[Yk Z.1 (by omega)]
  refine⟨⟨k+1,rfl,by omega,r1,by omega,λh0=>?_⟩,by simp only[Al];omega⟩
  have:=r3 h0;have:=h3 Z.2
  rw[z0x Z.1];omega
 ·have Z:k=v.items.length:=by simp at hc;omega
  subst Z
  have:=h3 h0
  rw[AW]at this
  rw[qd6];omega
termination_by tsz v
theorem zuz{gl:Fr}(v:Tr){R:Bool->Prop}(h:∀b,(b=true->txS v)->R b):PC Tp gl 92 [Arg.mk .tree v] [.bool] R:=by
 refine PC.bd λae=>?_
 have hb:v.keys.length<=140737488355328/\v.items.length<=140737488355328:=ae ⟨.tree,v⟩ (by simp)
 apply zb1
 refine⟨λhx=>h _ (λe=>by cases e),λhx=>?_⟩
 have af:v.text.size<=2048:=by simp at hx;omega
 refine⟨λi=>∃k:Nat,i=k/\k<=v.keys.length/\∀x∈v.keys.take k,x.size<=1024,λi=>v.keys.length-i.toNat,⟨0,rfl,by omega,by simp⟩,?_⟩
 rintro i ⟨k,rfl,hk,h1⟩
 refine⟨λhc=>?_,λhc=>?_⟩
 ·have aa:k<v.keys.length:=by simp at hc;omega
  refine⟨v.keys[k],⟨by omega,z5x aa⟩,λ_=>h _ (λe=>by cases e),λhq=>?_⟩
  have ab:v.keys[k].size<=1024:=by simp at hq;omega
  rw[Yk aa (by omega)]
  refine⟨⟨k+1,rfl,by omega,?_⟩,by simp only[Al];omega⟩
  rw[Av aa]
  intro x hx
  rcases Aw.1 hx with hx|hx
  ·exact h1 x hx
  ·simp at hx;subst hx;exact ab
 ·have aa:k=v.keys.length:=by simp at hc;omega
  subst aa
  rw[AW]at h1
  refine⟨λi=>∃k:Nat,i=k/\k<=v.items.length/\∀x∈v.items.take k,txS x,λi=>v.items.length-i.toNat,⟨0,rfl,by omega,by simp⟩,?_⟩
  rintro i ⟨k,rfl,hk,h2⟩
  refine⟨λhd=>?_,λhd=>h _ λ_=>?_⟩
  ·have Z:k<v.items.length:=by simp at hd;omega
   refine⟨v.items[k],⟨by omega,ze3 Z⟩,?_⟩
   rw[W7]
   have ah:=wv (AN Z)
   refine zuz v.items[k] λb hb=>⟨λ_=>h _ (λe=>by cases e),λhq=>?_⟩
   rw[Yk Z (by omega)]
   refine⟨⟨k+1,rfl,by omega,?_⟩,by simp only[Al];omega⟩
   rw[Av Z]
   intro x hx
   rcases Aw.1 hx with hx|hx
   ·exact h2 x hx
   ·simp at hx;subst hx;exact hb (by simpa using hq)
  ·have Z:k=v.items.length:=by simp at hd;omega
   subst Z
   rw[AW]at h2
   exact(qd7 v).2 ⟨⟨af,h1⟩,zuy.2 h2⟩
termination_by tsz v
theorem qd8{v:Tr}{m:Int}(hm:0<=m/\m<=1000){R:Bool->Prop}(h:∀b,(b=true->tks v<=m/\Sm v)->R b):PC Tp gl 32 [Arg.mk .tree v,Arg.mk (.int .i64) m] [.bool] R:=by
 apply zev
 rw[W7]
 refine z8s v m 0 hm (by omega) λr h1 h2 h3=>⟨λb=>b=true->txS v,λ_=>zuz v λb hb=>hb,λb hb=>h _ λe=>?_⟩
 cases hr:decide (r>=0)with
 |false=>rw[hr]at e;cases e
 |true=>
  rw[hr,cond_true]at e
  have h0:0<=r:=by simp at hr;omega
  have:=h3 h0
  exact⟨by omega,Sm.few (by omega) (hb hr e)⟩
theorem qd9{l:List Tr}(h:R (.mk 5 ⟨#[]⟩ [] l)):PC Tp gl 29 [Arg.mk (.row .tree) l] [.tree] R:=by
 apply zew;exact h
theorem qea(hg:GL gl){n:Int}(h1:-1000000<=n)(h2:n<=1000000)(h:R (.mk 3 (bl (qz (zi (Lib.itoa n)).1)) [] [])):PC Tp gl 58 [Arg.mk (.int .i64) n] [.tree] R:=by
 apply zph
 refine qgp hg.pow (by omega) (by omega) ?_
 exact zsl hg.pow (Yw _ (by have:=Go.X.itoa_len n;omega)) h
theorem zp0{gl:Fr}(a b:Tr){R:Bool->Prop}(h:∀r,(r=true↔a=b)->R r):PC Tp gl 16 [Arg.mk .tree a,Arg.mk .tree b] [.bool] R:=by
 refine PC.bd λah=>?_
 have hb:a.keys.length<=140737488355328/\a.items.length<=140737488355328:=ah ⟨.tree,a⟩ (by simp)
 apply zb0
 have te:∀s t:Bt,(s.toList==t.toList)=decide (s=t):=λs t=>by
  rw[Ji,Ji,AJ,beq_iff_eq,decide_eq_true_eq];exact zpj
 simp only[te]
 refine⟨λhx=>h _ ⟨λe=>(by cases e),λe=>?_⟩,λhx=>?_⟩
 ·subst e;simp at hx
 ·have ai:a.kind=b.kind/\a.text=b.text/\a.keys.length=b.keys.length/\a.items.length=b.items.length:=by
   simp at hx
   obtain⟨⟨⟨h1,h2⟩,h3⟩,h4⟩:=hx
   exact⟨h1,h2,by omega,by omega⟩
  obtain⟨q1,q2,q3,q4⟩:=ai
  refine⟨λi=>∃k:Nat,i=k/\k<=a.keys.length/\a.keys.take k=b.keys.take k,λi=>a.keys.length-i.toNat,⟨0,rfl,by omega,by simp⟩,?_⟩
  rintro i ⟨k,rfl,hk,h1⟩
  refine⟨λhc=>?_,λhc=>?_⟩
  ·have aa:k<a.keys.length:=by simp at hc;omega
   have ae:k<b.keys.length:=by omega
   refine⟨a.keys[k],⟨by omega,z5x aa⟩,b.keys[k],⟨by omega,z5x ae⟩,λhq=>h _ ⟨λe=>(by cases e),λe=>?_⟩,λhq=>?_⟩
   ·subst e;simp at hq
   ·have ab:a.keys[k]=b.keys[k]:=by simpa using hq
    rw[Yk aa (by omega)]
    refine⟨⟨k+1,rfl,by omega,?_⟩,by simp only[Al];omega⟩
    rw[Av aa,Av ae,h1,ab]
  ·have aa:k=a.keys.length:=by simp at hc;omega
   subst aa
   rw[AW,q3,AW]at h1
   refine⟨λi=>∃k:Nat,i=k/\k<=a.items.length/\a.items.take k=b.items.take k,λi=>a.items.length-i.toNat,⟨0,rfl,by omega,by simp⟩,?_⟩
   rintro i ⟨k,rfl,hk,h2⟩
   refine⟨λhd=>?_,λhd=>h _ ⟨λ_=>?_,λ_=>rfl⟩⟩
   ·have Z:k<a.items.length:=by simp at hd;omega
    have af:k<b.items.length:=by omega
    refine⟨a.items[k],⟨by omega,ze3 Z⟩,b.items[k],⟨by omega,ze3 af⟩,?_⟩
    rw[W7,W7]
    have aj:=wv (AN Z)
    refine zp0 a.items[k] b.items[k] λr hr=>⟨λhq=>h _ ⟨λe=>(by cases e),λe=>?_⟩,λhq=>?_⟩
    ·subst e
     rw[hr.2 rfl]at hq;cases hq
    ·have ab:a.items[k]=b.items[k]:=hr.1 (by simpa using hq)
     rw[Yk Z (by omega)]
     refine⟨⟨k+1,rfl,by omega,?_⟩,by simp only[Al];omega⟩
     rw[Av Z,Av af,h2,ab]
   ·have Z:k=a.items.length:=by simp at hd;omega
    subst Z
    rw[AW,q4,AW]at h2
    have:=W7 a
    rw[q1,q2,h1,h2,W7]at this
    exact this.symm
termination_by tsz a
end
section
structure SL (l:List Bt):Prop where
 n:l.length<=1000000
 s:∀x∈l,(lb x).length<=1048576
end
end Go.X
end
section
namespace Go.X
open Go Go.Proofs Go.Shelf Go.RowKit
section
def zdv:Go.Shelf.Ren:=⟨fun|169=>87|n=>n,fun|70=>109|9=>9|0=>0|72=>112|37=>110|127=>181|3=>3|5=>5|n=>n,fun|n=>n⟩
theorem z00:Go.Proofs.Lays.n169 Tp zdv:={
 mixed:=by kernel_rfl
 f169:=LF Tryz.func87
 t0:=Cd
 a0:=CX
 z0:=CK
 v0:=Ci
 t3:=Bo
 a3:=Co
 z3:=Ce
 v3:=BI
 t9:=Bm
 a9:=Cq
 z9:=Cg
 v9:=BK
 t37:=Tryz.underlying110
 a37:=Tryz.isAgg110
 z37:=Tryz.sizeOf110
 v37:=Tryz.zeroValue110
 t70:=Tryz.underlying109
 a70:=Tryz.isAgg109
 z70:=Tryz.sizeOf109
 v70:=Tryz.zeroValue109
 t72:=Tryz.underlying112
 a72:=Tryz.isAgg112
 z72:=Tryz.sizeOf112
 v72:=Tryz.zeroValue112
 t127:=C9
 a127:=En
 z127:=Eh
 v127:=Tryz.zeroValue181 }
theorem zcj:Builder.Extra Tp zdv:={
 sizeBuilder:=by kernel_rfl
 liesBuilder:=by kernel_rfl
 t5:=Bq
 a5:=Cp
 z5:=Cf
 v5:=BJ
 infoByte:=by kernel_rfl
 cellsByte:=by kernel_rfl
 sizeByte:=by kernel_rfl
 neB5:=by decide }
theorem za7(B b:Nat)(l:List UInt8)(w:World)(h:Lib.IsBuilder 112 5 B b (Lib.byteCells l) w)(Z:B<=w.heap.size):
  Calls Tp 87 #[.pointer (some ⟨b,0,none⟩)] w λe w'=>e=.returned (.string ⟨l.toArray⟩)/\Below B w w':=Any.Builder_String_any z00 zcj B b l w h Z
def zm5:Go.Shelf.Ren:=⟨fun|153=>265|152=>269|226=>293|227=>143|228=>214|137=>212|119=>300|224=>301|225=>302|217=>268|266=>299|n=>n,fun|9=>9|3=>3|4=>4|5=>5|21=>21|117=>170|116=>169|0=>0|46=>177|124=>173|n=>n,fun|n=>n⟩
theorem z01:Go.Proofs.Lays.n153 Tp zm5:={
 mixed:=by kernel_rfl
 f119:=LF Tryz.func300
 f137:=LF Eg
 f152:=LF Tryz.func269
 f153:=LF Tryz.func265
 f217:=LF Tryz.func268
 f224:=LF Tryz.func301
 f225:=LF Tryz.func302
 f226:=LF Tryz.func293
 f227:=LF Tryz.func143
 f228:=LF Tryz.func214
 f266:=LF Tryz.func299
 t0:=Cd
 a0:=CX
 z0:=CK
 v0:=Ci
 t3:=Bo
 a3:=Co
 z3:=Ce
 v3:=BI
 t4:=BD
 a4:=Cy
 z4:=Ck
 v4:=BO
 t5:=Bq
 a5:=Cp
 z5:=Cf
 v5:=BJ
 t9:=Bm
 a9:=Cq
 z9:=Cg
 v9:=BK
 t21:=CL
 a21:=Dq
 z21:=Df
 v21:=CU
 t46:=Tryz.underlying177
 a46:=Tryz.isAgg177
 z46:=Tryz.sizeOf177
 v46:=Tryz.zeroValue177
 t116:=Tryz.underlying169
 a116:=Tryz.isAgg169
 z116:=Tryz.sizeOf169
 t117:=Tryz.underlying170
 a117:=Tryz.isAgg170
 z117:=Tryz.sizeOf170
 v117:=Tryz.zeroValue170
 t124:=Tryz.underlying173
 a124:=Tryz.isAgg173
 z124:=Tryz.sizeOf173
 v124:=Tryz.zeroValue173 }
open Go.RowKit Go.Lib in
theorem Wt(ab:∀w,(zeroValue 169).run Tp w=.ok (.agg (Bn 256 (.bool false))) w)(s Z:Bt)(w:World)(h2:2<=Z.size)(h8:8<s.size)(hs:s.size<4294967281)(ae:Z.size<4294967281)(aa:∀(j:Nat) b,Z.data.toList[j]?=some b->b.toNat<128):
  Calls Tp 265 #[.string s,.string Z] w λe w'=>e=.returned (.int .i64 (Lib.indexAny s.data.toList Z.data.toList))/\w'=((w.alloc (.cells (Lib.setCells Z.data.toList) 169)).alloc (.cells (Lib.setCells Z.data.toList) 169)):=Any.strings_IndexAny_long z01 ab (by kernel_rfl) s Z w h2 h8 hs ae aa
end
end Go.X
end
section
namespace Go.X
open Go Go.X Go.Proofs Go.RowKit
section
variable {h h':za} {b:Nat} {l:Bs} {cs:Array Value} {s:Sl} {K:Value -> za -> Prop}
def Bld(h:za)(b:Nat)(l:Bs):Prop:=∃(p:Option Addr) (s:Sl),h[b]?=some (.cells #[.pointer p,slV s] 112 (0,0))/\(p=none\/p=some ⟨b,0,none⟩)/\Owns h (b+1) 5 1 s (Lib.byteCells l)
theorem Bld.lt(H:Bld h b l):b<h.size:=by
 obtain⟨p,s,e,_⟩:=H
 rcases A1 b h.size with q|q
 ·exact q
 ·rw[Array.getElem?_eq_none q]at e;cases e
theorem Bld.keep(H:Bld h b l)(k:Keep h.size h h'):Bld h' b l:=by
 have Z:=H.lt
 obtain⟨p,s,e,hp,ho⟩:=H
 exact⟨p,s,by rw[k.get b Z];exact e,hp,ho.keepN k⟩
theorem Bld.new(h:za):Bld (h.push (.cells #[.pointer none,.slice none 0 0] 112)) h.size []:=
 ⟨none,⟨none,0,0⟩,yb _ _,.inl rfl,Owns.nil _ _ _ _⟩
theorem zss:(AY.info? 112).map (·.size)=some 2:=by kernel_rfl
theorem qa9:liesAt Tp AY.depth 112 (2 / AY.cellsOf 112) 0 112 1=true:=by kernel_rfl
theorem zp1:AY.underlying 109=some (.pointer 112):=by kernel_rfl
theorem zm6:AY.underlying 234=some .unsafePointer:=by kernel_rfl
set_option maxHeartbeats 1000000 in
set_option maxRecDepth 100000 in
theorem zk9(b:Nat)(w:World)(h0:w.cell? ⟨b,0,none⟩=some (.pointer (some ⟨b,0,none⟩))):
  Calls Tp 152 #[.pointer (some ⟨b,0,none⟩)] w λe w'=>e=.returned (.tuple #[])/\w'=w:=by
 obtain⟨j,hj,_⟩:=Cs.1 zss
 have mixed:=Tryz.mixed
 go_enter Tryz.func152,Tryz.ntmps152
 go_wp2
 rw[Lib.run_neq_ptr_same w _ zp1 hj]
 go_wp2
 go_end0
 exact⟨rfl,rfl⟩
set_option maxHeartbeats 1000000 in
set_option maxRecDepth 100000 in
theorem zst(b:Nat)(w:World)(h0:w.cell? ⟨b,0,none⟩=some (.pointer none))(Z:w.shape? b=some (112,2))(ab:w.frozen? ⟨b,0,none⟩=false):
  Calls Tp 152 #[.pointer (some ⟨b,0,none⟩)] w λe w'=>e=.returned (.tuple #[])/\w'=w.setCell ⟨b,0,none⟩ (.pointer (some ⟨b,0,none⟩)):=by
 obtain⟨j,hj,aa⟩:=Cs.1 zss
 have mixed:=Tryz.mixed
 go_enter Tryz.func152,Tryz.ntmps152
 go_wp2
 rw[Lib.run_to_unsafe w ⟨b,0,none⟩ zp1 zm6 hj (by rw[aa];decide) Z (Nat.zero_lt_succ 1)]
 simp only[Result.andThen]
 rw[Oper.upon_value]
 go_wp2
 rw[run_callFunc_extern Tryz.func219 (by kernel_rfl) (by kernel_rfl) (by kernel_rfl) (e:=Ez) (by kernel_rfl)]
 rw[Lib.run_noEscape]
 simp only[Result.andThen]
 rw[Oper.upon_value]
 go_wp2
 rw[Lib.run_from_unsafe w ⟨b,0,none⟩ zm6 zp1 hj Z qa9]
 simp only[Result.andThen]
 rw[Oper.upon_value]
 go_wp2
 go_end0
 exact⟨rfl,rfl⟩
theorem zla{b o:Nat}{T:TypeId}(e:h[b]?=some (.cells cs T (0,0)))(v:Value)(B:World)(d:Nat):(mk B d h).setCell ⟨b,o,none⟩ v=mk B d (h.setIfInBounds b (.cells (cs.setIfInBounds o v) T (0,0))):=by
 unfold World.setCell mk
 simp only
 congr 1
 have hb:b<h.size:=(Ad.1 e).1
 apply Array.ext_getElem?
 intro i
 rw[Array.getElem?_modify]
 by_cases hi:i=b
 ·subst hi
  have e':h[i]=.cells cs T (0,0):=by
   have:=A0 hb
   rw[e]at this
   exact(Au this).symm
  simp[hb,e']
 ·rw[if_neg (Ne.symm hi),AC (Ne.symm hi)]
theorem Keep.ne(hs:h'.size=h.size)(hf:∀i,i≠b->h'[i]?=h[i]?):Keep b h h':=⟨by omega,λi hi=>hf i (by omega)⟩
def Itk(h h':za):Prop:=∀(i:Nat) (s:Bt) (p:Nat),h[i]?=some (.stringIter s p)->h'[i]?=some (.stringIter s p)
theorem Itk.trans{a b c:za}(x:Itk a b)(y:Itk b c):Itk a c:=λi s p e=>y i s p (x i s p e)
theorem Itk.keep(k:Keep h.size h h'):Itk h h':=λi s p e=>by
 have hi:i<h.size:=(Ad.1 e).1
 rw[k.get i hi];exact e
theorem Itk.ne{T:TypeId}{m:Nat×Nat}(e:h[b]?=some (.cells cs T m))(f:∀i,i≠b->h'[i]?=h[i]?):Itk h h':=λi s p ei=>by
 by_cases hi:i=b
 ·subst hi;rw[e]at ei;cases ei
 ·rw[f i hi];exact ei
theorem Itk.own{base:Nat}{e:TypeId}{sz:Nat}{xs:List Value}(H:Owns h base e sz s xs)(f:∀i,i<h.size->(∀p,s.a=some p->i≠p.block)->h'[i]?=h[i]?):Itk h h':=λi t p ei=>by
 have hi:i<h.size:=(Ad.1 ei).1
 rw[f i hi λq hq Z=>?_]
 ·exact ei
 ·rcases H.2 with⟨hv,_⟩|⟨g,cap,aa,hv,_,hg,_⟩
  ·rw[hq]at hv;cases hv
  ·have hg:h[g]?=some (.cells aa e (0,0)):=hg
   rw[hq]at hv
   injection hv with e1 _ _
   injection e1 with e1
   rw[Z,e1]at ei
   rw[hg]at ei;cases ei
theorem chk(H:Bld h b l)(hK:∀h',Bld h' b l->Keep b h h'->h'.size=h.size->Itk h h'->K (.tuple #[]) h'):XC Tp 152 #[.pointer (some ⟨b,0,none⟩)] h K:=by
 have aa:=H.lt
 obtain⟨p,s,e,hp,ho⟩:=H
 have Z:∀B d,(mk B d h).cell? ⟨b,0,none⟩=some (.pointer p):=λB d=>by
  have:(mk B d h).heap[b]?=some (.cells #[.pointer p,slV s] 112 (0,0)):=e
  simp[World.cell?,this]
 rcases hp with rfl|rfl
 ·refine XC.of_calls λB d=>(zst b (mk B d h) (Z B d) ?_ ?_).mono ?_
  ·have:(mk B d h).heap[b]?=some (.cells #[.pointer none,slV s] 112 (0,0)):=e
   simp[World.shape?,this]
  ·exact zej ⟨_,e⟩ B d
  ·rintro e' w' ⟨rfl,rfl⟩
   rw[zla e]
   refine⟨_,rfl,rfl,rfl,rfl,?_⟩
   show K _ (h.setIfInBounds b _)
   refine hK _ ⟨_,s,?_,.inr rfl,?_⟩ ?_ (by simp) (Itk.ne e λi hi=>AC (Ne.symm hi))
   ·rw[Cn aa];rfl
   ·refine ho.keep λq hq=>?_
    have:=ho.base_le q hq
    rw[AC (by omega)]
   ·exact Keep.setBlk _ (Ac _)
 ·refine XC.of_calls λB d=>(zk9 b (mk B d h) (Z B d)).mono ?_
  rintro e' w' ⟨rfl,rfl⟩
  exact⟨_,rfl,rfl,rfl,rfl,hK _ ⟨_,s,e,.inr rfl,ho⟩ (Keep.refl _ _) rfl (Itk.keep (Keep.refl _ _))⟩
theorem elemU8:ElemT Tp 110 5 (.int .u8 0) 1 1:=⟨by kernel_rfl,⟨Tryz.t5,by kernel_rfl,by kernel_rfl,by kernel_rfl,by kernel_rfl⟩,rfl,by omega⟩
theorem qgw:AY.underlying 9=some .string:=by kernel_rfl
theorem z02:qd Tp 110=true:=by kernel_rfl
theorem z03:qn Tp 110=1:=by kernel_rfl
theorem z04{p:Option Addr}{s s0:Sl}(e:h[b]?=some (.cells #[.pointer p,slV s0] 112 (0,0)))(hp:p=none\/p=some ⟨b,0,none⟩)(ho:Owns h (b+1) 5 1 s (Lib.byteCells l)){K:za->Prop}
  (hK:∀h',Bld h' b l->Keep b h h'->h'.size=h.size->Itk h h'->K h'):zk Tp (An 110 (.pointer (some ⟨b,1,none⟩)) (.slice s.a s.len s.cap)) h K:=by
 intro B d
 obtain⟨h',r1,r2,r3,r4⟩:=Q1 (P:=Tp) z02 z03 e (o:=1) (v:=slV s) rfl (by simp) (by simp[slV,Value.cells,Value.oneCell']) B d
 refine⟨d,h',r1,hK h' ⟨p,s,?_,hp,?_⟩ (Keep.ne r3 r4) r3 (Itk.ne e r4)⟩
 ·rw[r2];rfl
 ·refine ho.keep λq hq=>?_
  have:=ho.base_le q hq
  exact r4 _ (by omega)
theorem Wu(H:Bld h b l)(hl:l.length<140737488355328)(c:UInt8)(hK:∀h',Bld h' b (l++[c])->Keep b h h'->Itk h h'->K .nilIface h'):
  XC Tp 81 #[.pointer (some ⟨b,0,none⟩),.int .u8 (c.toNat:Int)] h K:=by
 apply ju
 refine chk H λh2 H2 k2 z2 i2=>⟨rfl,_,rfl,?_⟩
 have aa:=H2.lt
 obtain⟨p,s,e,hp,ho⟩:=H2
 have Z:=ho.1
 rw[Lib.byteCells_length,Cw]at Z
 refine⟨s,Blk.cellAdd (o:=0) (k:=1) (cs:=#[.pointer p,slV s]) ⟨_,e⟩ rfl,?_⟩
 intro h5
 have k5:Keep h2.size h2 h5:=Keep.push _ _ (Ac _)
 have s5:h5.size=h2.size+1:=Am _
 have b5:Blk h5 h2.size #[.int .u8 (c.toNat:Int)]:=Blk.new _ _ _
 have e5:h5[b]?=some (.cells #[.pointer p,slV s] 112 (0,0)):=by rw[k5.get b aa];exact e
 have o5:=ho.keepN k5
 clear_value h5
 refine zei elemU8 o5 (src:=⟨some ⟨h2.size,0,none⟩,1,1⟩) (news:=[.int .u8 (c.toNat:Int)]) (n:=h5.size) ?_ rfl (by simp[Value.oneCell']) (by simp only;omega) (by simp only;omega) (by omega) λs' h6 q1 q2 q3 q4 q5=>⟨s',rfl,_,rfl,?_⟩
 ·refine .inr ⟨h2.size,0,rfl,by omega,λi v hv=>?_⟩
  match i,hv with
  |0,hv=>cases hv;exact b5.cell rfl
 ·have e6:h6[b]?=some (.cells #[.pointer p,slV s] 112 (0,0)):=by
   rw[q3 b (by omega) λq hq=>by have:=ho.base_le q hq;omega];exact e5
  have o6:Owns h6 (b+1) 5 1 s' (Lib.byteCells (l++[c])):=by
   have:Lib.byteCells (l++[c])=Lib.byteCells l++[.int .u8 (c.toNat:Int)]:=by unfold Lib.byteCells;rw[BW];rfl
   rw[this];exact q2
  have kk:Keep b h h6:=k2.trans ⟨by omega,λi hi=>by
   rw[q3 i (by omega) λq hq=>by have:=ho.base_le q hq;omega]
   exact k5.get i (by omega)⟩ (Ac _)
  refine z04 e6 hp o6 λh7 H7 k7 z7 i7=>hK h7 H7 (kk.trans k7 (Ac _)) (i2.trans ((Itk.keep k5).trans ((Itk.own o5 q3).trans i7)))
theorem zm7(H:Bld h b l)(t:Bs)(hl:l.length+t.length<=140737488355328)(hK:∀h',Bld h' b (l++t)->Keep b h h'->Itk h h'->K (.tuple #[.int .i64 (t.length:Int),.nilIface]) h'):
  XC Tp 85 #[.pointer (some ⟨b,0,none⟩),.string (bl t)] h K:=by
 apply je
 refine chk H λh2 H2 k2 z2 i2=>⟨rfl,_,rfl,?_⟩
 have ab:=H2.lt
 obtain⟨p,s,e,hp,ho⟩:=H2
 have aa:=ho.1
 rw[Lib.byteCells_length,Cw]at aa
 refine⟨s,Blk.cellAdd (o:=0) (k:=1) (cs:=#[.pointer p,slV s]) ⟨_,e⟩ rfl,?_⟩
 have Z:=ze t
 refine zav elemU8 ho (x:=.string (bl t)) (m:=(bl t).size) (news:=Lib.byteCells t) (λB d=>?_) (by rw[Z];omega) (by rw[Z];omega) (by omega) λs' h6 q1 q2 q3 q4 q5=>⟨s',rfl,_,rfl,?_⟩
 ·have:=Src.ofString (P:=Tp) (w:=mk B d h2) qgw (bl t)
  have e2:byteCells (bl t)=Lib.byteCells t:=by
   unfold byteCells Lib.byteCells
   have:(bl t).data.toList=t:=yp t
   rw[this]
  rw[e2]at this;exact this
 ·have e6:h6[b]?=some (.cells #[.pointer p,slV s] 112 (0,0)):=by
   rw[q3 b (by omega) λq hq=>by have:=ho.base_le q hq;omega];exact e
  have o6:Owns h6 (b+1) 5 1 s' (Lib.byteCells (l++t)):=by
   have:Lib.byteCells (l++t)=Lib.byteCells l++Lib.byteCells t:=by unfold Lib.byteCells;rw[BW]
   rw[this];exact q2
  have kk:Keep b h h6:=k2.trans ⟨by omega,λi hi=>q3 i (by omega) λq hq=>by have:=ho.base_le q hq;omega⟩ (Ac _)
  refine z04 e6 hp o6 λh7 H7 k7 z7 i7=>?_
  rw[Z]
  exact hK h7 H7 (kk.trans k7 (Ac _)) (i2.trans ((Itk.own ho q3).trans i7))
theorem zu0(H:Bld h b l)(hK:∀h',Keep b h h'->K (.string (bl l)) h'):XC Tp 87 #[.pointer (some ⟨b,0,none⟩)] h K:=by
 have aa:=H.lt
 obtain⟨p,s,e,hp,ho⟩:=H
 refine XC.of_calls λB d=>(za7 b b l (mk B d h) ?_ (DW aa)).mono ?_
 ·have hb:Lib.BuilderAt 112 5 b b (.pointer p) (Lib.byteCells l) (mk B d h):=by
   refine⟨Ac _,slV s,e,?_,?_⟩
   ·have h1:=ho.1
    rw[Cw]at h1
    rw[h1]
    exact ho.base (Nat.le_succ b)
   ·intro hq
    cases ha:s.a with
    |none=>rw[slV,ha]at hq;cases hq
    |some q=>
     have:=ho.base_le q ha
     rw[slV,ha]at hq
     have:q.block=b:=by simpa[Value.ownBlock]using hq
     omega
  rcases hp with rfl|rfl
  ·exact .inl hb
  ·exact .inr hb
 ·rintro e' w' ⟨rfl,Z⟩
  exact⟨_,rfl,Z.os,Z.tape,Z.output,hK _ ⟨Z.size,Z.block⟩⟩
end
end Go.X
end
section
namespace Go.X
section
theorem zp2(gl:Fr)(d0:Bt×List (Int×(Int×Int)×(Int×Int)×(List Int)×List (Int×Int)))(k1:Int)(R:(Tr×Bool)->Prop)
  (H:((bif (decide (k1<0))then true else(decide (k1>=d0.2.length)))=true->R (Tr.mk 0 (⟨#[]⟩:Bt) [] [],false))/\((bif (decide (k1<0))then true else(decide (k1>=d0.2.length)))=false->PC Tp gl 59 [Arg.mk (.pair .str (.row (.pair (.int .i64) (.pair (.pair (.int .i64) (.int .i64)) (.pair (.pair (.int .i64) (.int .i64)) (.pair (.row (.int .i64)) (.row (.pair (.int .i64) (.int .i64))))))))) (d0.1,d0.2),Arg.mk (.int .i64) k1,Arg.mk (.int .i64) 1] [.tree] (λa:Tr=>R (Tr.mk a.kind a.text a.keys a.items,true)))):
  PC Tp gl 21 [Arg.mk (.pair .str (.row (.pair (.int .i64) (.pair (.pair (.int .i64) (.int .i64)) (.pair (.pair (.int .i64) (.int .i64)) (.pair (.row (.int .i64)) (.row (.pair (.int .i64) (.int .i64))))))))) d0,Arg.mk (.int .i64) k1] [.tree,.bool] R:=
 PF ⟨[],[],[],[]⟩ [.cell 4 26,.tmp 5] 19 Tryz.func21 H
theorem zxk(gl:Fr)(d0:Bt×List (Int×(Int×Int)×(Int×Int)×(List Int)×List (Int×Int)))(Z:List Bt)(R:(Int×Bool)->Prop)
  (H:∃a:Bool->Prop,((!((d0.2.length:Int)==0))=true->PC Tp gl 70 [Arg.mk (.row .str) Z] [.bool] a)/\∀b:Bool,((!((d0.2.length:Int)==0))=true->a b)->((bif ((d0.2.length:Int)==0)then true else(!b))=true->R (0,false))/\((bif ((d0.2.length:Int)==0)then true else(!b))=false->∃(c:Int->Int->Prop) (d:Int->Int->Nat),c 0 0/\∀e f:Int,c e f->((decide (f<Z.length)=true->∃g,(0<=f/\Z[f.toNat]?=some g)/\PC Tp gl 71 [Arg.mk (.pair .str (.row (.pair (.int .i64) (.pair (.pair (.int .i64) (.int .i64)) (.pair (.pair (.int .i64) (.int .i64)) (.pair (.row (.int .i64)) (.row (.pair (.int .i64) (.int .i64))))))))) (d0.1,d0.2),Arg.mk (.int .i64) e,Arg.mk .str g] [.int .i64] (λi:Int=>PC Tp gl 72 [Arg.mk (.pair .str (.row (.pair (.int .i64) (.pair (.pair (.int .i64) (.int .i64)) (.pair (.pair (.int .i64) (.int .i64)) (.pair (.row (.int .i64)) (.row (.pair (.int .i64) (.int .i64))))))))) (d0.1,d0.2),Arg.mk (.int .i64) i] [.bool] (λj:Bool=>((!j)=true->R (0,false))/\((!j)=false->(c i (Aa .i64 (f+1))/\d i (Aa .i64 (f+1))<d e f)))))/\(decide (f<Z.length)=false->R (e,true))))):
  PC Tp gl 23 [Arg.mk (.pair .str (.row (.pair (.int .i64) (.pair (.pair (.int .i64) (.int .i64)) (.pair (.pair (.int .i64) (.int .i64)) (.pair (.row (.int .i64)) (.row (.pair (.int .i64) (.int .i64))))))))) d0,Arg.mk (.row .str) Z] [.int .i64,.bool] R:=
 PF ⟨[],[],[(5,⟨[(6,.one (.dat (.int .i64))),(20,.one (.dat (.int .i64)))],[],[2],[100384,101280]⟩)],[]⟩ [.tmp 4,.tmp 5] 34 Tryz.func23 H
theorem zm8(gl:Fr)(d0:Bt×List (Int×(Int×Int)×(Int×Int)×(List Int)×List (Int×Int)))(s1:Int×Int)(R:Bt->Prop)
  (H:((bif (bif (decide (s1.1<0))then true else(decide (s1.1>s1.2)))then true else(decide (s1.2>d0.1.size)))=true->R (⟨#[]⟩:Bt))/\((bif (bif (decide (s1.1<0))then true else(decide (s1.1>s1.2)))then true else(decide (s1.2>d0.1.size)))=false->(0<=s1.1/\s1.1<=s1.2/\s1.2<=d0.1.size)/\R (d0.1.extract s1.1.toNat s1.2.toNat))):
  PC Tp gl 31 [Arg.mk (.pair .str (.row (.pair (.int .i64) (.pair (.pair (.int .i64) (.int .i64)) (.pair (.pair (.int .i64) (.int .i64)) (.pair (.row (.int .i64)) (.row (.pair (.int .i64) (.int .i64))))))))) d0,Arg.mk (.pair (.int .i64) (.int .i64)) s1] [.str] R:=
 PF ⟨[],[],[],[]⟩ [.tmp 4] 30 Tryz.func31 H
theorem zsu(gl:Fr)(d0:Bt×List (Int×(Int×Int)×(Int×Int)×(List Int)×List (Int×Int)))(k1:Int)(Z:Bt)(R:Int->Prop)
  (H:∃a:Int×(Int×Int)×(Int×Int)×(List Int)×List (Int×Int),(0<=k1/\d0.2[k1.toNat]?=some a)/\∃b:Int×(Int×Int)×(Int×Int)×(List Int)×List (Int×Int),(0<=k1/\d0.2[k1.toNat]?=some b)/\((b.1==5)=true->PC Tp gl 135 [Arg.mk .str Z] [.int .i64,.bool] (λc:Int×Bool=>((bif c.2 then(decide (c.1<a.2.2.2.1.length))else false)=true->∃d,(0<=c.1/\a.2.2.2.1[c.1.toNat]?=some d)/\R d)/\((bif c.2 then(decide (c.1<a.2.2.2.1.length))else false)=false->R (-1))))/\((b.1==5)=false->((b.1==6)=true->∃(e:Int->Prop) (f:Int->Nat),e 0/\∀g:Int,e g->((decide (g<a.2.2.2.1.length)=true->∃i,(0<=g/\a.2.2.2.1[g.toNat]?=some i)/\PC Tp gl 72 [Arg.mk (.pair .str (.row (.pair (.int .i64) (.pair (.pair (.int .i64) (.int .i64)) (.pair (.pair (.int .i64) (.int .i64)) (.pair (.row (.int .i64)) (.row (.pair (.int .i64) (.int .i64))))))))) (d0.1,d0.2),Arg.mk (.int .i64) i] [.bool] (λj:Bool=>∃k,(j=true->(0<=g/\a.2.2.2.1[g.toNat]?=some k))/\∃l:Bt->Prop,(j=true->PC Tp gl 112 [Arg.mk (.pair .str (.row (.pair (.int .i64) (.pair (.pair (.int .i64) (.int .i64)) (.pair (.pair (.int .i64) (.int .i64)) (.pair (.row (.int .i64)) (.row (.pair (.int .i64) (.int .i64))))))))) (d0.1,d0.2),Arg.mk (.int .i64) k] [.str] l)/\∀m:Bt,(j=true->l m)->((bif j then(m.toList==Z.toList)else false)=true->∃n,(0<=g/\a.2.2.2.1[g.toNat]?=some n)/\R n)/\((bif j then(m.toList==Z.toList)else false)=false->(e (Aa .i64 (g+1))/\f (Aa .i64 (g+1))<f g))))/\(decide (g<a.2.2.2.1.length)=false->R (-1))))/\((b.1==6)=false->R (-1)))):
  PC Tp gl 71 [Arg.mk (.pair .str (.row (.pair (.int .i64) (.pair (.pair (.int .i64) (.int .i64)) (.pair (.pair (.int .i64) (.int .i64)) (.pair (.row (.int .i64)) (.row (.pair (.int .i64) (.int .i64))))))))) d0,Arg.mk (.int .i64) k1,Arg.mk .str Z] [.int .i64] R:=
 PF ⟨[],[(11,14,[],[0,1,2,3,4,5,6,7,8,9,10,11,13,12],[])],[(9,⟨[(45,.one (.dat (.int .i64)))],[],[3],[102880]⟩)],[]⟩ [.tmp 6] 69 Tryz.func71 H
theorem zm9(gl:Fr)(d0:Bt×List (Int×(Int×Int)×(Int×Int)×(List Int)×List (Int×Int)))(k1:Int)(R:Bool->Prop)
  (H:R (bif (decide (k1>=0))then(decide (k1<d0.2.length))else false)):
  PC Tp gl 72 [Arg.mk (.pair .str (.row (.pair (.int .i64) (.pair (.pair (.int .i64) (.int .i64)) (.pair (.pair (.int .i64) (.int .i64)) (.pair (.row (.int .i64)) (.row (.pair (.int .i64) (.int .i64))))))))) d0,Arg.mk (.int .i64) k1] [.bool] R:=
 PF ⟨[],[],[],[]⟩ [.tmp 4] 14 Tryz.func72 H
theorem zp3(gl:Fr)(Z:Int)(s1:Bt)(R:Bt->Prop)
  (H:((Z==2)=true->R s1)/\((Z==2)=false->((Z==3)=true->PC Tp gl 25 [Arg.mk .str s1] [.pair .bool (.pair .str (.int .i64)),.int .i64] (λa:(Bool×Bt×Int)×Int=>PC Tp gl 26 [Arg.mk (.pair .bool (.pair .str (.int .i64))) (a.1.1,(a.1.2.1,a.1.2.2))] [.str] (λb:Bt=>R b)))/\((Z==3)=false->((Z==4)=true->PC Tp gl 196 [Arg.mk .str s1] [.str,.int .i64,.int .i64] (λc:Bt×Int×Int=>R c.1))/\((Z==4)=false->R (⟨#[]⟩:Bt))))):
  PC Tp gl 111 [Arg.mk (.int .i64) Z,Arg.mk .str s1] [.str] R:=
 PF ⟨[],[],[],[]⟩ [.tmp 4] 32 Tryz.func111 H
theorem zsv(gl:Fr)(d0:Bt×List (Int×(Int×Int)×(Int×Int)×(List Int)×List (Int×Int)))(k1:Int)(R:Bt->Prop)
  (H:∃a:Int×(Int×Int)×(Int×Int)×(List Int)×List (Int×Int),(0<=k1/\d0.2[k1.toNat]?=some a)/\PC Tp gl 31 [Arg.mk (.pair .str (.row (.pair (.int .i64) (.pair (.pair (.int .i64) (.int .i64)) (.pair (.pair (.int .i64) (.int .i64)) (.pair (.row (.int .i64)) (.row (.pair (.int .i64) (.int .i64))))))))) (d0.1,d0.2),Arg.mk (.pair (.int .i64) (.int .i64)) (a.2.2.1.1,a.2.2.1.2)] [.str] (λb:Bt=>PC Tp gl 196 [Arg.mk .str b] [.str,.int .i64,.int .i64] (λc:Bt×Int×Int=>R c.1))):
  PC Tp gl 112 [Arg.mk (.pair .str (.row (.pair (.int .i64) (.pair (.pair (.int .i64) (.int .i64)) (.pair (.pair (.int .i64) (.int .i64)) (.pair (.row (.int .i64)) (.row (.pair (.int .i64) (.int .i64))))))))) d0,Arg.mk (.int .i64) k1] [.str] R:=
 PF ⟨[],[(1,13,[],[0,1,2,3,4,5,6,7,8,9,10,11,12],[11,12])],[],[]⟩ [.tmp 4] 22 Tryz.func112 H
theorem zjy(gl:Fr)(Z:Int)(R:Int->Prop)
  (H:((Z==12)=true->R 1)/\((Z==12)=false->∀a:Bool->Prop,(∀b:Bool,((b=true->R 2)/\(b=false->((Z==9)=true->R 3)/\((Z==9)=false->((Z==8)=true->R 4)/\((Z==8)=false->((Z==4)=true->R 5)/\((Z==4)=false->((Z==2)=true->R 6)/\((Z==2)=false->R 0))))))->a b)->((Z==10)=true->a (Z==10))/\((Z==10)=false->a (Z==11)))):
  PC Tp gl 114 [Arg.mk (.int .i64) Z] [.int .i64] R:=
 PF ⟨[],[],[],[(6,⟨[(6,.one (.dat .bool))],[],[],[100384]⟩)]⟩ [.tmp 2] 17 Tryz.func114 H
theorem zf1(gl:Fr)(t0:Bt)(R:(Bt×Int×Int)->Prop)
  (H:PC Tp gl 253 [Arg.mk .str t0,Arg.mk (.int .i64) 0] [.str,.int .i64,.int .i64] (λa:Bt×Int×Int=>((bif (a.2.2==0)then(decide (a.2.1<t0.size))else false)=true->R ((⟨#[]⟩:Bt),a.2.1,2))/\((bif (a.2.2==0)then(decide (a.2.1<t0.size))else false)=false->R (a.1,a.2.1,a.2.2)))):
  PC Tp gl 196 [Arg.mk .str t0] [.str,.int .i64,.int .i64] R:=
 PF ⟨[],[],[],[]⟩ [.tmp 2,.tmp 3,.tmp 4] 26 Tryz.func196 H
theorem zna(gl:Fr)(aa:Int)(Z:Int)(R:((Int×Int×Int)×Int)->Prop)
  (H:R ((0,(aa,aa)),Z)):
  PC Tp gl 255 [Arg.mk (.int .i64) aa,Arg.mk (.int .i64) Z] [.pair (.int .i64) (.pair (.int .i64) (.int .i64)),.int .i64] R:=
 PF ⟨[],[],[],[]⟩ [.cell 4 90,.tmp 5] 11 Tryz.func255 H
theorem zp4(gl:Fr)(t0:Bt)(Z:Int)(R:(Int×Int)->Prop)
  (H:((bif (decide (Z<0))then true else(decide (Z>t0.size)))=true->R (0,2))/\((bif (decide (Z<0))then true else(decide (Z>t0.size)))=false->PC Tp gl 253 [Arg.mk .str t0,Arg.mk (.int .i64) Z] [.str,.int .i64,.int .i64] (λa:Bt×Int×Int=>R (a.2.1,a.2.2)))):
  PC Tp gl 258 [Arg.mk .str t0,Arg.mk (.int .i64) Z] [.int .i64,.int .i64] R:=
 PF ⟨[],[],[],[]⟩ [.tmp 4,.tmp 5] 26 Tryz.func258 H
theorem zp5(gl:Fr)(c0:Int)(R:Bool->Prop)
  (H:R (bif (decide (c0>=97))then(decide (c0<=122))else false)):
  PC Tp gl 259 [Arg.mk (.int .u8) c0] [.bool] R:=
 PF ⟨[],[],[],[]⟩ [.tmp 2] 9 Tryz.func259 H
theorem zsw(gl:Fr)(s0:Bt)(R:Int->Prop)
  (H:((s0.toList==(⟨#[116,114,117,101]⟩:Bt).toList)=true->R 10)/\((s0.toList==(⟨#[116,114,117,101]⟩:Bt).toList)=false->((s0.toList==(⟨#[102,97,108,115,101]⟩:Bt).toList)=true->R 11)/\((s0.toList==(⟨#[102,97,108,115,101]⟩:Bt).toList)=false->((s0.toList==(⟨#[110,117,108,108]⟩:Bt).toList)=true->R 12)/\((s0.toList==(⟨#[110,117,108,108]⟩:Bt).toList)=false->R 0)))):
  PC Tp gl 260 [Arg.mk .str s0] [.int .i64] R:=
 PF ⟨[],[],[],[]⟩ [.tmp 2] 10 Tryz.func260 H
theorem znb(gl:Fr)(s0:Bt)(R:(Int×Int)->Prop)
  (H:(0<=(0:Int)/\(0:Int)<(s0.size:Int))/\(((zb s0 (0:Int).toNat:Int)==92)=true->PC Tp gl 315 [Arg.mk .str s0] [.int .i32,.int .i64] (λa:Int×Int=>R (a.1,a.2)))/\(((zb s0 (0:Int).toNat:Int)==92)=false->PC Tp gl 151 [Arg.mk .str s0] [.int .i32,.int .i64] (λb:Int×Int=>((bif (decide (b.1<32))then true else(bif (b.1==65533)then(b.2==1)else false))=true->R (0,0))/\((bif (decide (b.1<32))then true else(bif (b.1==65533)then(b.2==1)else false))=false->R (b.1,b.2))))):
  PC Tp gl 291 [Arg.mk .str s0] [.int .i32,.int .i64] R:=
 PF ⟨[],[],[],[]⟩ [.tmp 2,.tmp 3] 30 Tryz.func291 H
theorem zii(gl:Fr)(s0:Bt)(R:(Int×Int)->Prop)
  (H:(decide ((s0.size:Int)<2)=true->R (0,0))/\(decide ((s0.size:Int)<2)=false->(0<=(1:Int)/\(1:Int)<(s0.size:Int))/\PC Tp gl 323 [Arg.mk (.int .u8) (zb s0 (1:Int).toNat)] [.int .i32,.bool] (λa:Int×Bool=>(a.2=true->R (a.1,2))/\(a.2=false->(0<=(1:Int)/\(1:Int)<(s0.size:Int))/\(((zb s0 (1:Int).toNat:Int)==117)=true->PC Tp gl 324 [Arg.mk .str s0] [.int .i32,.int .i64] (λb:Int×Int=>R (b.1,b.2)))/\(((zb s0 (1:Int).toNat:Int)==117)=false->R (0,0)))))):
  PC Tp gl 315 [Arg.mk .str s0] [.int .i32,.int .i64] R:=
 PF ⟨[],[],[],[]⟩ [.tmp 2,.tmp 3] 24 Tryz.func315 H
theorem zjz(gl:Fr)(c0:Int)(R:(Int×Bool)->Prop)
  (H:∀a:Bool->Prop,(∀b:Bool,((b=true->R (Aa .i32 c0,true))/\(b=false->((c0==98)=true->R (8,true))/\((c0==98)=false->((c0==102)=true->R (12,true))/\((c0==102)=false->((c0==110)=true->R (10,true))/\((c0==110)=false->((c0==114)=true->R (13,true))/\((c0==114)=false->((c0==116)=true->R (9,true))/\((c0==116)=false->R (0,false))))))))->a b)->((c0==34)=true->a (c0==34))/\((c0==34)=false->((c0==92)=true->a (c0==92))/\((c0==92)=false->a (c0==47)))):
  PC Tp gl 323 [Arg.mk (.int .u8) c0] [.int .i32,.bool] R:=
 PF ⟨[],[],[],[(5,⟨[(5,.one (.dat .bool))],[],[],[100320]⟩)]⟩ [.tmp 2,.tmp 3] 21 Tryz.func323 H
theorem zf2(gl:Fr)(s0:Bt)(R:(Int×Int)->Prop)
  (H:(0<=(2:Int)/\(2:Int)<=(s0.size:Int)/\(s0.size:Int)<=(s0.size:Int))/\PC Tp gl 328 [Arg.mk .str (s0.extract (2:Int).toNat (s0.size:Int).toNat)] [.int .i32,.bool] (λa:Int×Bool=>∀b:Bool->Prop,(∀c:Bool,((c=true->R (0,0))/\(c=false->((bif (decide (a.1<55296))then true else(decide (a.1>=57344)))=true->R (a.1,6))/\((bif (decide (a.1<55296))then true else(decide (a.1>=57344)))=false->(0<=(6:Int)/\(6:Int)<=(s0.size:Int)/\(s0.size:Int)<=(s0.size:Int))/\PC Tp gl 156 [Arg.mk .str (s0.extract (6:Int).toNat (s0.size:Int).toNat),Arg.mk .str (⟨#[92,117]⟩:Bt)] [.bool] (λd:Bool=>((!d)=true->R (0,0))/\((!d)=false->(0<=(8:Int)/\(8:Int)<=(s0.size:Int)/\(s0.size:Int)<=(s0.size:Int))/\PC Tp gl 328 [Arg.mk .str (s0.extract (8:Int).toNat (s0.size:Int).toNat)] [.int .i32,.bool] (λe:Int×Bool=>((bif (bif (!e.2)then true else(decide (e.1<56320)))then true else(decide (e.1>=57344)))=true->R (0,0))/\((bif (bif (!e.2)then true else(decide (e.1<56320)))then true else(decide (e.1>=57344)))=false->R (Aa .i32 ((Aa .i32 ((Aa .i32 (65536+(Aa .i32 ((Aa .i32 (a.1-55296))*1024))))+e.1))-56320),12))))))))->b c)->((!a.2)=true->b (!a.2))/\((!a.2)=false->b (bif (decide (a.1>=56320))then(decide (a.1<57344))else false)))):
  PC Tp gl 324 [Arg.mk .str s0] [.int .i32,.int .i64] R:=
 PF ⟨[],[],[],[(4,⟨[(13,.one (.dat .bool))],[],[],[100832]⟩)]⟩ [.tmp 2,.tmp 3] 58 Tryz.func324 H
theorem znc(gl:Fr)(s0:Bt)(R:(Int×Bool)->Prop)
  (H:((!(decide ((s0.size:Int)<4)))=true->(0<=(0:Int)/\(0:Int)<=4/\(4:Int)<=(s0.size:Int)))/\∃a:Bool->Prop,((!(decide ((s0.size:Int)<4)))=true->PC Tp gl 209 [Arg.mk .str (s0.extract (0:Int).toNat (4:Int).toNat),Arg.mk .str (⟨#[43,45,95]⟩:Bt)] [.bool] a)/\∀b:Bool,((!(decide ((s0.size:Int)<4)))=true->a b)->((bif (decide ((s0.size:Int)<4))then true else b)=true->R (0,false))/\((bif (decide ((s0.size:Int)<4))then true else b)=false->(0<=(0:Int)/\(0:Int)<=4/\(4:Int)<=(s0.size:Int))/\PC Tp gl 329 [Arg.mk .str (s0.extract (0:Int).toNat (4:Int).toNat),Arg.mk (.int .i64) 16,Arg.mk (.int .i64) 32] [.int .u64,.err] (λc:Int×Bool=>R (Aa .i32 c.1,c.2)))):
  PC Tp gl 328 [Arg.mk .str s0] [.int .i32,.bool] R:=
 PF ⟨[],[],[],[]⟩ [.tmp 2,.tmp 3] 24 Tryz.func328 H
end
end Go.X
end
section
namespace Go.X
open Go Go.Lib
section
variable {l:Bs} {n r:Nat}
theorem qic(l:Bs):decodeL l=dec l:=by rw[decodeL_N,dec]
theorem zsx(h:l≠[])(hg:zd8 (dec l)=false):encodeRune ((dec l).1:Int)=l.take (dec l).2:=by
 rw[<-qic]at hg ⊢
 refine encode_decode l h λ⟨h1,h2⟩=>?_
 unfold zd8 at hg
 rw[h1,h2]at hg
 cases hg
def zja(c:UInt8):Option Nat:=
 if 48<=c.toNat/\c.toNat<=57 then some (c.toNat-48)
 else if 97<=c.toNat/\c.toNat<=102 then some (c.toNat-87)
 else if 65<=c.toNat/\c.toNat<=70 then some (c.toNat-55)
 else none
theorem qba{c:UInt8}(h:zja c=some n):n<16:=by
 unfold zja at h
 split at h
 ·cases h;omega
 ·split at h
  ·cases h;omega
  ·split at h
   ·cases h;omega
   ·cases h
def zj0:Nat->Bs->Option Nat
 |n,[]=>some n
 |n,c::l=>match zja c with
  |some d=>zj0 (16*n+d) l
  |none=>none
def zij(l:Bs):Option Nat:=if 4<=l.length then zj0 0 (l.take 4)else none
theorem zsy:∀{l:Bs} {n m:Nat},zj0 n l=some m->m<(n+1)*16 ^ l.length
 |[],n,m,h=>by cases h;simp
 |c::l,n,m,h=>by
  unfold zj0 at h
  cases e:zja c with
  |none=>rw[e]at h;cases h
  |some d=>
   rw[e]at h
   have h1:=zsy h
   have h2:=qba e
   have h3:(16*n+d+1)*16 ^ l.length<=(16*(n+1))*16 ^ l.length:=AP _ (by omega)
   have h4:(16*(n+1))*16 ^ l.length=(n+1)*16 ^ (l.length+1):=by rw[DU,CJ 16,Nat.mul_assoc,CJ 16]
   simp only[Ap]
   omega
theorem ze4(h:zij l=some n):n<65536:=by
 unfold zij at h
 split at h
 ·have:=zsy h
  simp only[Bb]at this
  rename_i h4
  rw[Nat.min_eq_left h4]at this
  omega
 ·cases h
def z5z(c:UInt8):Option Nat:=
 if c=34\/c=92\/c=47 then some c.toNat else if c=98 then some 8 else if c=102 then some 12 else if c=110 then some 10 else if c=114 then some 13 else if c=116 then some 9 else none
def qbb(t:Bs):Option (Nat×Nat):=match zij t with
 |none=>none
 |some n=>if 56320<=n/\n<57344 then none else if n<55296\/57344<=n then some (n,6)else
  if(t.drop 4).take 2=[92,117]then match zij (t.drop 6)with
   |some m=>if 56320<=m/\m<57344 then some (65536+(n-55296)*1024+(m-56320),12)else none
   |none=>none
  else none
def qbc(l:Bs):Option (Nat×Nat):=match l with
 |_::c::t=>match z5z c with
  |some r=>some (r,2)
  |none=>if c=117 then qbb t else none
 |_=>none
def X9(l:Bs):Option (Nat×Nat):=if l.head?=some 92 then qbc l else if(dec l).1<32\/zd8 (dec l)=true then none else some (dec l)
def zp6:Nat->Bs->Bs×Nat×Bool
 |0,_=>([],0,false)
 |f+1,l=>if l=[]then([],0,false)else if l.head?=some 34 then([],1,true)else match X9 l with
  |none=>([],0,false)
  |some (r,n)=>let q:=zp6 f (l.drop n);(encodeRune (r:Int)++q.1,n+q.2.1,q.2.2)
def zdw(l:Bs):Bs×Nat×Bool:=zp6 l.length l
theorem zxl{t:Bs}(h:qbb t=some (r,n)):(n=6\/n=12)/\n<=t.length+2/\r<=1114111:=by
 unfold qbb at h
 cases e:zij t with
 |none=>rw[e]at h;cases h
 |some m=>
  have hm:=ze4 e
  have hl:4<=t.length:=by
   unfold zij at e
   split at e
   ·assumption
   ·cases e
  rw[e]at h
  dsimp only at h
  split at h
  ·cases h
  ·split at h
   ·simp only[Ab,Be]at h
    obtain⟨rfl,rfl⟩:=h
    exact⟨.inl rfl,by omega,by omega⟩
   ·split at h
    ·cases e2:zij (t.drop 6)with
     |none=>rw[e2]at h;cases h
     |some k=>
      have Z:4<=(t.drop 6).length:=by
       unfold zij at e2
       split at e2
       ·assumption
       ·cases e2
      rw[AI]at Z
      rw[e2]at h
      dsimp only at h
      split at h
      ·simp only[Ab,Be]at h
       obtain⟨rfl,rfl⟩:=h
       exact⟨.inr rfl,by omega,by omega⟩
      ·cases h
    ·cases h
theorem z05{c:UInt8}(h:z5z c=some r):r<=255:=by
 have:=c.toNat_lt
 unfold z5z at h
 repeat' split at h
 all_goals first|(cases h;omega)|cases h
theorem zxm(h:qbc l=some (r,n)):2<=n/\n<=12/\n<=l.length/\r<=1114111:=by
 match l,h with
 |a::c::t,h=>
  unfold qbc at h
  dsimp only at h
  cases e:z5z c with
  |some k=>
   rw[e]at h;cases h
   have:=z05 e
   exact⟨by omega,by omega,by simp,by omega⟩
  |none=>
   rw[e]at h
   dsimp only at h
   split at h
   ·obtain⟨h1,h2,h3⟩:=zxl h
    refine⟨by omega,by omega,?_,h3⟩
    simp only[Ap];omega
   ·cases h
theorem z06(l:Bs):(dec l).1<=1114111:=by
 have h0:=(l.getD 0 0).toNat_lt
 have h1:=(l.getD 1 0).toNat_lt
 have h2:=(l.getD 2 0).toNat_lt
 have h3:=(l.getD 3 0).toNat_lt
 unfold dec decodeN
 repeat' split
 all_goals (simp only;omega)
theorem Ya(hl:l≠[])(h:X9 l=some (r,n)):1<=n/\n<=12/\n<=l.length/\r<=1114111:=by
 unfold X9 at h
 split at h
 ·obtain⟨h1,h2,h3,h4⟩:=zxm h
  exact⟨by omega,h2,h3,h4⟩
 ·split at h
  ·cases h
  ·have h:=Au h
   obtain⟨rfl,rfl⟩:r=(dec l).1/\n=(dec l).2:=by rw[h];exact⟨rfl,rfl⟩
   have h1:=xn l
   have h2:=zuk hl
   exact⟨h1.1,by omega,h2,z06 l⟩
theorem zlb:∀(f:Nat) (l:Bs),l.length<=f->∀g,l.length<=g->zp6 f l=zp6 g l
 |0,l,h,g,_=>by
  have:l=[]:=A7.1 (by omega)
  subst this
  cases g <;> simp[zp6]
 |f+1,l,h,0,hg=>by
  have:l=[]:=A7.1 (by omega)
  subst this
  simp[zp6]
 |f+1,l,h,g+1,hg=>by
  unfold zp6
  by_cases h1:l=[]
  ·rw[if_pos h1,if_pos h1]
  ·rw[if_neg h1,if_neg h1]
   by_cases h2:l.head?=some 34
   ·rw[if_pos h2,if_pos h2]
   ·rw[if_neg h2,if_neg h2]
    cases e:X9 l with
    |none=>rfl
    |some x=>
     obtain⟨r,n⟩:=x
     obtain⟨n1,_,n2,_⟩:=Ya h1 e
     have:=zlb f (l.drop n) (by rw[AI];omega) g (by rw[AI];omega)
     dsimp only
     rw[this]
theorem z07:zdw []=([],0,false):=rfl
theorem Jm(h:l≠[]):zdw l=if l.head?=some 34 then([],1,true)else match X9 l with
  |none=>([],0,false)
  |some (r,n)=>(encodeRune (r:Int)++(zdw (l.drop n)).1,n+(zdw (l.drop n)).2.1,(zdw (l.drop n)).2.2):=by
 have hp:=Bf.2 h
 obtain⟨f,hf⟩:∃f,l.length=f+1:=⟨l.length-1,by omega⟩
 rw[zdw,hf,zp6,if_neg h]
 by_cases h2:l.head?=some 34
 ·rw[if_pos h2,if_pos h2]
 ·rw[if_neg h2,if_neg h2]
  cases e:X9 l with
  |none=>rfl
  |some x=>
   obtain⟨r,n⟩:=x
   obtain⟨n1,_,n2,_⟩:=Ya h e
   dsimp only
   rw[zdw,zlb f (l.drop n) (by rw[AI];omega) (l.drop n).length (Ac _)]
theorem zp7:∀(k:Nat) (l:Bs),l.length=k->(zdw l).2.1<=l.length/\(zdw l).1.length<=4*l.length:=by
 intro k
 induction k using Dt with
 |_ k ih=>
  intro l hl
  by_cases h:l=[]
  ·subst h;exact⟨Ac _,Ac _⟩
  ·have hp:=Bf.2 h
   rw[Jm h]
   split
   ·exact⟨hp,by simp⟩
   ·cases e:X9 l with
    |none=>exact⟨by simp,by simp⟩
    |some x=>
     obtain⟨r,n⟩:=x
     obtain⟨n1,_,n2,_⟩:=Ya h e
     have hd:(l.drop n).length=l.length-n:=AI
     have:=ih (l.drop n).length (by omega) _ rfl
     have h4:(encodeRune (r:Int)).length<=4:=by
      have:=(encodeRuneZ_length (r:Int)).2
      rw[encodeRune,AH];exact this
     dsimp only
     rw[Ag]
     omega
def y0(t:Bs)(a:Nat):Bs×Nat×Int:=
 if(t.drop a).head?=some 34 then(let q:=zdw (t.drop (a+1));if q.2.2 then(q.1,a+1+q.2.1,0)else([],a+1+q.2.1,2))else([],a,2)
def W8(t:Bs):Bs×Nat×Int:=let r:=y0 t 0;if r.2.2=0/\r.2.1<t.length then([],r.2.1,2)else r
def z8t(c:UInt8):Bs:=
 if c=34\/c=92 then [92,c]else if c=8 then [92,98]else if c=12 then [92,102]else if c=10 then [92,110]else if c=13 then [92,114]else if c=9 then [92,116]
 else if c.toNat<32 then [92,117,48,48,A4 (48+c.toNat / 16),A4 (if c.toNat % 16<10 then 48+c.toNat % 16 else 87+c.toNat % 16)]else [c]
def zay(l:Bs):Bs:=l.flatMap z8t
def zp8(l:Bs):Bs×Int:=if jd l then(34::zay l++[34],0)else([],2)
end
end Go.X
end
section
namespace Go.X
open Go Go.X Go.Proofs Go.RowKit
section
variable {h:za} {b:Nat} {l:Bs} {r:Int} {K:Value -> za -> Prop}
theorem zik(H:Bld h b l)(h0:0<=r)(h1:r<=1114111)(hl:l.length+4<=140737488355328)(hK:∀h' n,Bld h' b (l++Lib.encodeRune r)->Keep b h h'->Itk h h'->K (.tuple #[.int .i64 n,.nilIface]) h'):
  XC Tp 83 #[.pointer (some ⟨b,0,none⟩),.int .i32 r] h K:=by
 apply Qo
 refine chk H λh2 H2 k2 z2 i2=>⟨rfl,_,rfl,?_⟩
 have Z:=H2.lt
 obtain⟨p,s,e,hp,ho⟩:=H2
 have aa:=ho.1
 rw[Lib.byteCells_length,Cw]at aa
 have c1:=Blk.cellAdd (o:=0) (k:=1) (v:=slV s) (cs:=#[.pointer p,slV s]) ⟨_,e⟩ rfl
 refine⟨s,c1,_,rfl,s,c1,?_⟩
 refine XC.of_calls λB d=>(Wp (b+1) (slV s) s.len (Lib.byteCells l) r (by omega) (by omega) (mk B d h2) ho (by omega) (show b+1<=h2.size by omega)).mono ?_
 rintro e' w' ⟨v',rfl,q,o,gr⟩
 obtain⟨s',rfl,hn⟩:∃s':Sl,v'=slV s'/\s'.len=s.len+(Lib.runeCells r).length:=by
  rcases q.2 with⟨rfl,hz⟩|⟨g,cap,ae,rfl,_⟩
  ·exact⟨⟨none,0,0⟩,rfl,hz.symm⟩
  ·exact⟨⟨_,_,_⟩,rfl,rfl⟩
 have o6:Owns w'.heap (b+1) 5 1 s' (Lib.byteCells (l++Lib.encodeRune r)):=by
  have e1:Lib.byteCells (l++Lib.encodeRune r)=Lib.byteCells l++Lib.runeCells r:=by
   rw[<-Lib.byteCells_encodeRune];unfold Lib.byteCells;rw[BW]
  rw[e1]
  rw[<-hn]at q
  exact q
 have e6:w'.heap[b]?=some (.cells #[.pointer p,slV s] 112 (0,0)):=by
  have hx:=gr.block b (by show b<(h2.push o).size;rw[Am];omega) (by
   intro hq
   cases ha:s.a with
   |none=>rw[slV,ha]at hq;cases hq
   |some a=>
    have:=ho.base_le a ha
    rw[slV,ha]at hq
    simp only[Value.ownBlock,Ab]at hq
    omega)
  rw[hx]
  show(h2.push o)[b]?=_
  rw[Array.getElem?_push_lt Z,<-e];simp[Z]
 have kk:Keep b h w'.heap:=by
  refine k2.trans ⟨?_,λi hi=>?_⟩ (Ac _)
  ·have:=gr.size
   have h3:(h2.push o).size<=w'.heap.size:=this
   rw[Am]at h3;omega
  ·have hx:=gr.block i (by show i<(h2.push o).size;rw[Am];omega) (by
    intro hq
    cases ha:s.a with
    |none=>rw[slV,ha]at hq;cases hq
    |some a=>
     have:=ho.base_le a ha
     rw[slV,ha]at hq
     simp only[Value.ownBlock,Ab]at hq
     omega)
   rw[hx]
   show(h2.push o)[i]?=_
   rw[Array.getElem?_push_lt (by omega)];simp[show i<h2.size by omega]
 have ik:Itk h2 w'.heap:=Itk.own ho λi hi ab=>by
  have hx:=gr.block i (by show i<(h2.push o).size;rw[Am];omega) (by
   intro hq
   cases ha:s.a with
   |none=>rw[slV,ha]at hq;cases hq
   |some a=>
    have:=ab a ha
    rw[slV,ha]at hq
    simp only[Value.ownBlock,Ab]at hq
    exact this hq)
  rw[hx]
  show(h2.push o)[i]?=_
  rw[Array.getElem?_push_lt hi];simp[hi]
 refine⟨_,rfl,gr.os,gr.tape,gr.output,s',rfl,_,rfl,?_⟩
 refine z04 e6 hp o6 λh7 H7 k7 z7 i7=>?_
 have H8:=H7
 obtain⟨p8,s8,e8,_,_⟩:=H8
 exact⟨_,rfl,s8,Blk.cellAdd (o:=0) (k:=1) (v:=slV s8) (cs:=#[.pointer p8,slV s8]) ⟨_,e8⟩ rfl,hK h7 _ H7 (kk.trans k7 (Ac _)) (i2.trans (ik.trans i7))⟩
theorem zs0(H:Bld h b l)(h0:0<=r)(h1:r<=1114111)(hl:l.length+4<=140737488355328)(hK:∀h' n,Bld h' b (l++Lib.encodeRune r)->Keep b h h'->K (.tuple #[.int .i64 n,.nilIface]) h'):
  XC Tp 83 #[.pointer (some ⟨b,0,none⟩),.int .i32 r] h K:=
 zik H h0 h1 hl λh' n a b _=>hK h' n a b
def qgx(c:Int):Option Nat:=let lo:=bits .or .u8 c 32
 if 97<=lo/\lo<=122 then(let d:=Aa .u8 ((Aa .u8 (lo-97))+10);if d>=16 then none else some d.toNat)else none
theorem qbd:(Cb 256).all (λc=>decide (48<=c/\c<=57)||(qgx (c:Int)==zja (A4 c)))=true:=by kernel_rfl
theorem qbe{c:UInt8}(h:¬(48<=c.toNat/\c.toNat<=57)):qgx (c.toNat:Int)=zja c:=by
 have:=AD.1 qbd c.toNat (Bw.2 c.toNat_lt)
 rw[Br,decide_eq_true_eq]at this
 rcases this with h1|h1
 ·exact absurd h1 h
 ·rw[beq_iff_eq]at h1
  rw[h1];congr 1
  rw[UInt8.ofNat_toNat]
theorem z08:(Cb 256).all (λc=>decide (0<=Aa .u8 ((Aa .u8 ((bits .or .u8 (c:Int) 32)-97))+10)))=true:=by kernel_rfl
theorem zs1{c:Int}(hK:K (.int .u8 (bits .or .u8 c 32)) h):XC Tp 325 #[.int .u8 c] h K:=by
 refine XC.of_calls λB d=>(Jh c (mk B d h)).mono ?_
 rintro e w' ⟨rfl,rfl⟩
 exact⟨_,rfl,rfl,rfl,rfl,hK⟩
theorem zck:∀(a b:Bs) (n:Nat),zj0 n (a++b)=(zj0 n a).bind λm=>zj0 m b
 |[],b,n=>rfl
 |c::a,b,n=>by
  show(match zja c with|some d=>zj0 (16*n+d) (a++b)|none=>none)=(match zja c with|some d=>zj0 (16*n+d) a|none=>none).bind _
  cases zja c with
  |none=>rfl
  |some d=>exact zck a b _
theorem z6a(n:Nat)(c:UInt8):zj0 n [c]=(zja c).map λd=>16*n+d:=by
 show(match zja c with|some d=>zj0 (16*n+d) []|none=>none)=_
 cases zja c <;> rfl
theorem qeb{s:Bs}(hK:∀(x:Sl) h',Keep h.size h h'->x.len=s.length->x.a=some ⟨h.size,0,none⟩->(∀j (hj:j<s.length),zc h' ⟨h.size,j,none⟩=some (.int .u8 (s[j].toNat:Int)))->K (slV x) h'):
  Z5 Tp (convert 9 110 (.string (bl s))) h K:=by
 intro B d
 refine⟨_,_,_,Lib.run_convert_string_bytes (P:=Tp) (mk B d h) 9 110 5 (bl s) qgw elemU8.slice (by kernel_rfl),?_⟩
 refine hK ⟨some ⟨h.size,0,none⟩,(bl s).size,_⟩ _ ⟨?_,λi hi=>?_⟩ (ze s) rfl λj hj=>?_
 ·show h.size<=(Lib.bytesWorld (mk B d h) 5 (bl s)).heap.size
  rw[Lib.bytesWorld_size];exact Nat.le_succ _
 ·exact Lib.bytesWorld_at_old (mk B d h) 5 (bl s) i hi
 ·have:=Lib.bytesWorld_cell (mk B d h) 5 (bl s) j (by rw[ze];exact hj)
  have e:(bl s).data.toList=s:=yp s
  rw[e,List.getD_eq_getElem?_getD,Aq hj]at this
  exact this
set_option maxHeartbeats 4000000 in
theorem zs2(hl:l.length=4)(h1:∀n h',zj0 0 l=some n->Keep h.size h h'->K (.tuple #[.int .u64 (n:Int),.nilIface]) h')
  (h2:∀h',zj0 0 l=none->Keep h.size h h'->K (.tuple #[.int .u64 0,.iface 287 (.int .i64 2)]) h'):
  XC Tp 316 #[.string (bl l),.int .i64 16,.int .i64 32] h K:=by
 apply Qd
 have he:((bl l:Bt).toList==((⟨#[]⟩:Bt):Bt).toList)=false:=by
  have:((bl l:Bt).toList==((⟨#[]⟩:Bt):Bt).toList)=decide (l=[]):=zfx l []
  rw[this,decide_eq_false_iff_not]
  intro e;rw[e]at hl;simp at hl
 refine⟨λe=>(by rw[he]at e;cases e),λ_=>?_⟩
 intro K4 ax
 refine⟨λ_=>ax _ _ _ ?_,λe=>by simp at e⟩
 intro K7 az
 refine⟨λe=>by simp at e,λ_=>⟨λe=>by simp at e,λ_=>az _ _ ?_⟩⟩
 intro aB aj
 refine⟨λe=>by simp at e,λ_=>⟨λ_=>aj _ _ ?_,λe=>by simp at e⟩⟩
 have ah:(Aa .u64 32:Int)=32:=by decide
 refine⟨by rw[ah];omega,?_⟩
 refine qeb λx h3 k3 xl xa xc=>⟨x,rfl,?_⟩
 refine⟨λu n i g=>u=false/\g=h3/\∃(k m:Nat),k<=4/\i=(k:Int)/\n=(m:Int)/\zj0 0 (l.take k)=some m,λu n i g=>4-i.toNat,⟨rfl,rfl,0,0,by omega,rfl,rfl,rfl⟩,?_⟩
 rintro u n i g ⟨rfl,rfl,k,m,hk,rfl,rfl,hm⟩
 have aC:m<65536:=by
  have:=zsy hm
  have hp:(l.take k).length<=4:=by rw[Bb];omega
  have:16 ^ (l.take k).length<=16 ^ 4:=Nat.pow_le_pow_right (by omega) hp
  omega
 refine⟨λhc=>?_,λhc=>?_⟩
 ·have ab:k<4:=by rw[decide_eq_true_eq,xl,hl]at hc;omega
  have am:k<l.length:=by omega
  refine⟨⟨h.size,0,none⟩,⟨xa,by omega,by rw[decide_eq_true_eq]at hc;exact hc⟩,(l[k].toNat:Int),?_,?_⟩
  ·rw[qh,Al,Cw,AK]
   exact xc k am
  generalize ay:l[k]=c
  have Z:zj0 0 (l.take (k+1))=(zja c).map λd=>16*m+d:=by
   rw[Av am,zck,hm,ay]
   exact z6a m c
  have aa:zja c=none->zj0 0 l=none:=by
   intro e
   rw[e]at Z
   rw[<-BQ (k+1) l,zck,Z];rfl
  have cl:=c.toNat_lt
  intro au ai
  have fin:∀d:Int,0<=d->(d<16->zja c=some d.toNat)->(16<=d->zja c=none)->au false d g:=by
   intro d an ap aA
   apply ai
   have ar:(Aa .u8 16:Int)=16:=by decide
   have af:(Aa .u64 16:Int)=16:=by decide
   rw[ar,af,ah]
   refine⟨λe=>h2 _ (aa (aA (by simpa using e))) k3,λe=>?_⟩
   have hd:d<16:=by simpa using e
   have hv:=ap hd
   rw[hv]at Z
   have wr:∀z:Int,0<=z->z<18446744073709551616->Aa .u64 z=z:=by
    intro z z0 z1
    unfold Aa
    have e1:(2:Int) ^ Ak .u64=18446744073709551616:=by decide
    have e2:Dj .u64=false:=rfl
    simp only[e1,e2,DG,A5,if_false]
    exact Int.emod_eq_of_lt z0 z1
   have e1:Aa .u64 ((m:Int)*16)=(m:Int)*16:=wr _ (by omega) (by omega)
   have e2:Aa .u64 d=d:=wr _ an (by omega)
   have e3:Aa .u64 ((m:Int)*16+d)=(m:Int)*16+d:=wr _ (by omega) (by omega)
   have e4:(Aa .u64 ((Aa .u64 (1*2 ^ (min (32:Int).toNat 64)))-1):Int)=4294967295:=by decide
   rw[e1,e2,e3,e4]
   refine⟨λe=>?_,λ_=>⟨λe=>?_,λ_=>?_⟩⟩
   ·rw[decide_eq_true_eq]at e;omega
   ·simp only[Bool.cond_eq_ite,Bool.if_true_left,Br,decide_eq_true_eq]at e
    omega
   ·rw[Yk (n:=4) ab (by omega)]
    refine⟨⟨rfl,rfl,k+1,16*m+d.toNat,by omega,rfl,by omega,Z⟩,?_⟩
    show 4-((k+1:Nat):Int).toNat<4-((k:Nat):Int).toNat
    omega
  have ak:(bif ((c.toNat:Int)==95)then((16:Int)==0)else false)=false:=by
   cases((c.toNat:Int)==95) <;> rfl
  refine⟨λe=>(by rw[ak]at e;cases e),λ_=>⟨λe=>?_,λe=>?_⟩⟩
  ·have hd:48<=c.toNat/\c.toNat<=57:=by
    simp only[Bool.cond_eq_ite,Bool.if_false_right,As,decide_eq_true_eq]at e
    omega
   rw[qdw (by omega) (by omega)]
   refine fin _ (by omega) (λ_=>?_) (λh9=>by omega)
   unfold zja
   rw[if_pos hd];congr 1;omega
  ·have hd:¬(48<=c.toNat/\c.toNat<=57):=by
    simp only[Bool.cond_eq_ite,Bool.if_false_right,Cz,decide_eq_false_iff_not,decide_eq_true_eq]at e
    omega
   have lh:=qbe hd
   have lr:=AD.1 z08 c.toNat (Bw.2 cl)
   rw[decide_eq_true_eq]at lr
   unfold qgx at lh
   dsimp only at lh
   refine zs1 ?_
   generalize ae:bits .or .u8 (c.toNat:Int) 32=lo at lh lr ⊢
   refine⟨lo,rfl,λv g'=>v=.int .u8 lo/\g'=g,λ_=>zs1 ?_,λ_=>⟨lo,rfl,rfl⟩,?_,?_⟩
   ·rw[ae];exact⟨lo,rfl,rfl,rfl⟩
   ·rintro _ v g' ⟨rfl,_⟩;exact⟨lo,rfl⟩
   ·rintro x g' ⟨e1,rfl⟩
    injection e1 with _ e1
    subst e1
    refine⟨λe9=>zs1 ?_,λe9=>?_⟩
    ·rw[ae]
     refine⟨x,rfl,?_⟩
     have hr:97<=x/\x<=122:=by
      simp only[Bool.cond_eq_ite,Bool.if_false_right,As,decide_eq_true_eq]at e9
      omega
     rw[if_pos hr]at lh
     refine fin _ lr (λh9=>?_) (λh9=>?_)
     ·rw[if_neg (by omega)]at lh;exact lh.symm
     ·rw[if_pos (by omega)]at lh;exact lh.symm
    ·have hr:¬(97<=x/\x<=122):=by
      simp only[Bool.cond_eq_ite,Bool.if_false_right,Cz,decide_eq_false_iff_not,decide_eq_true_eq]at e9
      omega
     rw[if_neg hr]at lh
     exact h2 _ (aa lh.symm) k3
 ·have ab:k=4:=by rw[decide_eq_false_iff_not,xl,hl]at hc;omega
  refine⟨λv g'=>g'=g,(λe=>by cases e),(λ_=>⟨true,rfl⟩),(λe=>by cases e),?_⟩
  rintro x g' rfl
  refine⟨λe=>(by cases e),λ_=>h1 _ _ ?_ k3⟩
  rw[Ct (by omega)]at hm
  exact hm
end
end Go.X
end
section
namespace Go.X
section
theorem z6b{gl:Fr}(hg:GL gl){l:List Bt}(hl:SL l){R:Bool->Prop}(hR:R (zpz l)):PC Tp gl 70 [Arg.mk (.row .str) l] [.bool] R:=by
 intro h M vs hM ag ha
 match vs,ha with
 |[u],⟨hu,_⟩=>
  obtain⟨s,rfl,hr⟩:=qds hu
  have hr:Rd M (.row .str) l [slV s]:=hr
  obtain⟨ab,ai,aj⟩:=rowLen hr
  apply PX.of
  apply zf0 s
  have hd:decide (((s.len:Nat):Int)<=64)=decide (l.length<=64):=by rw[ab,AJ,decide_eq_true_eq,decide_eq_true_eq];omega
  rw[hd]
  refine⟨λv h'=>∃b,v=.bool b/\(decide (l.length<=64)=true->b=l.any λx=>!(jd (lb x)))/\∃M',Later h M h' M',λhc=>?_,λhc=>⟨true,true,rfl,λe=>(by rw[e]at hc;cases hc),M,Later.refl ag⟩,λ_ v h' ⟨b,e,_⟩=>⟨b,e⟩,?_⟩
  ·refine(qgu (gl:=gl) ag hr (p:=λx=>!(jd (lb x))) λx hx=>⟨by kernel_rfl,λh' M' u' L' af=>?_⟩).go λw h4 M4 b L4 Z ae=>⟨b,zn1 Z,b,rfl,λ_=>ae,M4,L4⟩
   have:=Ql af
   subst this
   apply PX.of
   show XC Tp 133 #[.string x] h' _
   apply zdu
   have hp:=z5s hg.tabs (l:=lb x) (R:=λb=>b=jd (lb x)) (by have:=hl.s x hx;omega) rfl
   rw[Y0]at hp
   exact hp.go (vs:=[.string x]) (hM.trans L'.le) L'.ag (yj (rdStr _) jy) λw h5 M5 b L5 aa ah=>⟨b,zn1 aa,M5,_,L5,zdo.2 (rdBool _),by rw[ah]⟩
  ·rintro b h' ⟨b',e,hb,M',L'⟩
   cases e
   refine⟨M',_,L',zdo.2 (rdBool _),?_⟩
   have:(bif decide (l.length<=64)then !b else false)=zpz l:=by
    unfold zpz
    cases hc:decide (l.length<=64)with
    |false=>rfl
    |true=>
     rw[hb hc,cond_true,BZ,AJ];simp
   rw[this];exact hR
end
end Go.X
end
section
namespace Go.X
open Go Go.X Go.Proofs Go.RowKit
section
theorem qid{z:UInt8}(h:128<=z.toNat):Lib.indexByte [95] z=-1:=by
 have:z≠95:=by rintro rfl;revert h;decide
 unfold Lib.indexByte
 simp[Lib.indexByte,this.symm]
theorem ix0{z:UInt8}:Lib.indexByte [] z=-1:=by simp[Lib.indexByte]
def VR(r:Int)(e:Ending):Prop:=∃b,e=.returned (.bool b)/\(b=true->(0<=r/\r<55296)\/(57343<r/\r<=1114111))
set_option maxHeartbeats 4000000 in
set_option maxRecDepth 1000000 in
theorem zs3(r:Int)(w:World):Calls Tp 300 #[.int .i32 r] w λe w'=>VR r e/\w'=w:=by
 have mixed:=Tryz.mixed
 go_enter Tryz.func300,Tryz.ntmps300
 by_cases h1:0<=r <;> by_cases h2:r<55296 <;> by_cases h3:57343<r <;> by_cases h4:r<=1114111 <;> (go_wp2;go_ret;exact⟨⟨_,rfl,λh=>by first|omega|cases h⟩,rfl⟩)
theorem z09(r:Int)(h:128<=r):(∃a z:UInt8,Ep r=⟨#[a,z]⟩/\128<=z.toNat)\/(∃a b z:UInt8,Ep r=⟨#[a,b,z]⟩/\128<=z.toNat)\/(∃a b c z:UInt8,Ep r=⟨#[a,b,c,z]⟩/\128<=z.toNat):=by
 have hz:∀n:Nat,128<=(A4 (128+n % 64)).toNat:=λn=>by
  have:(A4 (128+n % 64)).toNat=(128+n % 64) % 256:=UInt8.toNat_ofNat
  rw[this,DV (by omega)];omega
 have hc:∃c:Nat,128<=c/\(if Utf8.valid r then r.toNat else Utf8.runeError)=c:=by
  refine⟨_,?_,rfl⟩
  split
  ·omega
  ·decide
 obtain⟨c,aa,Z⟩:=hc
 unfold Ep
 simp only[Z]
 rw[if_neg (by omega)]
 by_cases h1:c<2048
 ·rw[if_pos h1];exact .inl ⟨_,_,rfl,hz _⟩
 ·rw[if_neg h1]
  by_cases h2:c<65536
  ·rw[if_pos h2];exact .inr (.inl ⟨_,_,_,rfl,hz _⟩)
  ·rw[if_neg h2];exact .inr (.inr ⟨_,_,_,_,rfl,hz _⟩)
def IR(e:Ending):Prop:=∃n,e=.returned (.int .i64 n)
set_option maxHeartbeats 4000000 in
set_option maxRecDepth 1000000 in
theorem zs4(r:Int)(w:World)(h1:128<=r)(h2:r≠65533):Calls Tp 269 #[.string ⟨#[43,45,95]⟩,.int .i32 r] w λe w'=>IR e/\Below w.heap.size w w':=by
 have mixed:=Tryz.mixed
 have ae:∀args w,(callFunc 212 args).run Tp w=.ok (.enter 212 args) w:=enters_of Eg (by kernel_rfl) rfl
 have ab:∀args w,(callFunc 300 args).run Tp w=.ok (.enter 300 args) w:=enters_of Tryz.func300 (by kernel_rfl) rfl
 have g1:¬r<128:=by omega
 go_enter Tryz.func269,Tryz.ntmps269
 go_wp2_with (go_at_fn 300;refine(zs3 _ _).mono ?_;rintro e w' ⟨⟨b,rfl,hb⟩,hw⟩;rw[hw];cases b)
 ·go_ret
  exact⟨⟨_,rfl⟩,Below.refl _ _⟩
 ·rcases z09 r h1 with⟨a,z,hE,hz⟩|⟨a,b,z,hE,hz⟩|⟨a,b,c,z,hE,hz⟩
  ·have Z:=λ(w:World)=>run_convert_int_string (P:=Tp) w 21 9 .i32 r (by kernel_rfl) (by kernel_rfl)
   rw[hE]at Z
   refine wp_scope_straight ?_
   go_wp2
   go_loop [9] (λv=>v=.int .i64 1) (λ_=>0)
   case atStart=>rfl
   case round=>
    subst hrel
    go_wp2
    refine wp_scope_straight ?_
    have aa:((45:Int) != (z.toNat:Int))=true:=bne_iff_ne.2 (by omega)
    go_wp2
    go_region
    simp only[show ∀h,((⟨#[43,45,95]⟩:Bt)[1]'h)=45 from λ_=>rfl,show ∀h,((⟨#[a,z]⟩:Bt)[1]'h)=z from λ_=>rfl,show((45:UInt8).toNat:Int)=45 from rfl,aa]
    all_goals go_wp2
    all_goals go_region_with (go_at_call 212;refine(jh _ _ _).mono ?_;rintro e w' ⟨rfl,rfl⟩)
    all_goals simp only[show ∀h,((⟨#[a,z]⟩:Bt)[1]'h)=z from λ_=>rfl,qid hz]
    all_goals go_wp2
    all_goals simp only[Exit.noGoto,Exit.inBlock]
    all_goals go_wp2
    all_goals simp only[Exit.noGoto,Exit.inBlock]
    all_goals go_wp2
    all_goals go_ret
    all_goals exact⟨⟨_,rfl⟩,zh0 w 2⟩
  ·have Z:=λ(w:World)=>run_convert_int_string (P:=Tp) w 21 9 .i32 r (by kernel_rfl) (by kernel_rfl)
   rw[hE]at Z
   refine wp_scope_straight ?_
   go_wp2
   go_loop [9] (λv=>v=.int .i64 2) (λ_=>0)
   case atStart=>rfl
   case round=>
    subst hrel
    go_wp2
    refine wp_scope_straight ?_
    have aa:((95:Int) != (z.toNat:Int))=true:=bne_iff_ne.2 (by omega)
    go_wp2
    go_region
    simp only[show ∀h,((⟨#[43,45,95]⟩:Bt)[2]'h)=95 from λ_=>rfl,show ∀h,((⟨#[a,b,z]⟩:Bt)[2]'h)=z from λ_=>rfl,show((95:UInt8).toNat:Int)=95 from rfl,aa]
    all_goals go_wp2
    all_goals go_region_with (go_at_call 212;refine(jh _ _ _).mono ?_;rintro e w' ⟨rfl,rfl⟩)
    all_goals simp only[show ∀h,((⟨#[a,b,z]⟩:Bt)[2]'h)=z from λ_=>rfl,ix0]
    all_goals go_wp2
    all_goals simp only[Exit.noGoto,Exit.inBlock]
    all_goals go_wp2
    all_goals simp only[Exit.noGoto,Exit.inBlock]
    all_goals go_wp2
    all_goals go_ret
    all_goals exact⟨⟨_,rfl⟩,zh0 w 2⟩
  ·have Z:=λ(w:World)=>run_convert_int_string (P:=Tp) w 21 9 .i32 r (by kernel_rfl) (by kernel_rfl)
   rw[hE]at Z
   refine wp_scope_straight ?_
   go_wp2
   go_loop [9] (λv=>v=.int .i64 3) (λ_=>0)
   case atStart=>rfl
   case round=>
    subst hrel
    go_wp2
    go_ret
    exact⟨⟨_,rfl⟩,Below.refl _ _⟩
end
end Go.X
end
section
namespace Go.X
open Go Go.Lib
section
variable {l:Bs}
def zs5(l:Bs):Prop:=∀c∈l,c.toNat<128
theorem zaa(cs:Bs):∀l:Bs,containsAny l cs=l.any λc=>cs.contains c
 |[]=>by simp[containsAny,indexAny]
 |c::l=>by
  have ih:=zaa cs l
  have aa:=indexAny_ge cs l
  rw[List.any_cons,<-ih]
  unfold containsAny
  rw[indexAny]
  by_cases hc:cs.contains c=true
  ·rw[if_pos hc,hc];simp
  ·have Z:cs.contains c=false:=by simpa using hc
   rw[if_neg hc,Z,Du]
   by_cases h1:indexAny l cs=-1
   ·simp[h1]
   ·have hb:(indexAny l cs==-1)=false:=by rw[beq_eq_false_iff_ne];exact h1
    rw[hb,if_neg (by simp),AJ,decide_eq_true_eq,decide_eq_true_eq];omega
theorem z1a:∀(l:Bs) (acc:Nat),l.all qi=true->acc*10 ^ l.length+zh l<10 ^ 18->parseUint10 acc l=.ok (acc*10 ^ l.length+zh l)
 |[],acc,_,_=>by simp[parseUint10,zh]
 |c::t,acc,hd,hl=>by
  rw[C5,As]at hd
  have hc:48<=c.toNat/\c.toNat<=57:=by simpa[qi]using hd.1
  have e:zh (c::t)=(c.toNat-48)*10 ^ t.length+zh t:=by
   have:=Ws [c] t
   rw[Dw]at this
   rw[this];simp[zh]
  have e2:(acc*10+(c.toNat-48))*10 ^ t.length+zh t=acc*10 ^ (c::t).length+zh (c::t):=by
   rw[e,Ap,DU,BU,Nat.mul_assoc,CJ 10 (10 ^ t.length)];omega
  have hp:1<=10 ^ t.length:=Nat.one_le_pow _ _ (by decide)
  have hb:acc*10+(c.toNat-48)<=acc*10 ^ (c::t).length+zh (c::t):=by
   rw[<-e2]
   calc acc*10+(c.toNat-48)=(acc*10+(c.toNat-48))*1:=by omega
    _<=(acc*10+(c.toNat-48))*10 ^ t.length:=Nat.mul_le_mul_left _ hp
    _<=_:=by omega
  rw[parseUint10,if_pos hc,if_neg (by omega),if_neg (by omega),z1a t _ hd.2 (by rw[e2];exact hl),e2]
theorem zs6:∀(l:Bs) (acc:Nat),l.all qi=false->∀v,parseUint10 acc l≠.ok v
 |[],acc,h,v=>by simp at h
 |c::t,acc,h,v=>by
  rw[parseUint10]
  by_cases hc:48<=c.toNat/\c.toNat<=57
  ·have hd:qi c=true:=by simp[qi,hc]
   rw[C5,hd,BZ]at h
   rw[if_pos hc]
   by_cases h1:1844674407370955162<=acc
   ·rw[if_pos h1];simp
   ·rw[if_neg h1]
    by_cases h2:18446744073709551616<=acc*10+(c.toNat-48)
    ·rw[if_pos h2];simp
    ·rw[if_neg h2];exact zs6 t _ h v
  ·rw[if_neg hc];simp
theorem qbf(hd:l.all qi=true)(aa:l≠[])(hl:l.length<=9):atoiAll l=.ok (zh l:Int):=by
 have hv:zh l<10 ^ 9:=X4 hl hd
 have hp:=z1a l 0 hd (by rw[Dp];omega)
 rw[Dp,AK]at hp
 obtain⟨c,t,rfl⟩:=A9 aa
 have hc:48<=c.toNat/\c.toNat<=57:=by
  rw[C5,As]at hd
  simpa[qi]using hd.1
 unfold atoiAll
 simp only
 rw[if_neg (by omega)]
 unfold parseMag
 rw[if_neg (by simp),hp]
 have Z:¬c.toNat=45:=by omega
 simp only[Z,not_false_eq_true,true_and,false_and,if_false]
 rw[if_neg (by omega)]
theorem qbg(hd:l.all qi=false)(hh:∀c,l.head?=some c->c.toNat≠43/\c.toNat≠45)(v:Int):atoiAll l≠.ok v:=by
 cases l with
 |nil=>simp at hd
 |cons c t=>
  have hc:=hh c rfl
  unfold atoiAll
  simp only
  rw[if_neg (by omega)]
  unfold parseMag
  rw[if_neg (by simp)]
  have:=zs6 (c::t) 0 hd
  cases hp:parseUint10 0 (c::t)with
  |ok u=>exact absurd hp (this u)
  |range=>simp
  |_=>simp
theorem qbh(h:¬zs5 l)(v:Int):atoiAll l≠.ok v:=by
 have Z:∀m:Bs,¬zs5 m->∀u,parseMag m≠.ok u:=by
  intro m hm u
  unfold parseMag
  split
  ·simp
  ·apply zs6
   rw[Bool.eq_false_iff]
   intro hd
   apply hm
   intro c hc
   rw[AD]at hd
   have:=hd c hc
   simp[qi]at this;omega
 cases l with
 |nil=>exact absurd (λc hc=>by cases hc) h
 |cons c t=>
  unfold atoiAll
  simp only
  have hm:¬zs5 (if c.toNat=43\/c.toNat=45 then t else c::t):=by
   split
   ·rename_i hc
    intro ht
    apply h
    intro d hd
    rcases Af.1 hd with rfl|hd
    ·omega
    ·exact ht d hd
   ·exact h
  have:=Z _ hm
  cases hp:parseMag (if c.toNat=43\/c.toNat=45 then t else c::t)with
  |ok u=>exact absurd hp (this u)
  |range=>simp
  |_=>simp
def zp9(l:Bs):Int×Bool:=if l.length<1\/9<l.length\/(1<l.length/\l.head?=some 48)then(0,false)else if l.all qi then((zh l:Int),true)else(0,false)
theorem zlc(h:(zp9 l).2=true):0<=(zp9 l).1/\(zp9 l).1<1000000000:=by
 unfold zp9 at h ⊢
 split
 ·rename_i hc;rw[if_pos hc]at h;cases h
 ·rename_i hc
  rw[if_neg hc]at h
  split
  ·rename_i hd
   have:zh l<10 ^ 9:=X4 (by omega) hd
   simp only;omega
  ·rename_i hd;rw[if_neg hd]at h;cases h
end
end Go.X
end
section
namespace Go.X
section
theorem Xc(gl:Fr)(s0:Bt)(Z:Bt)(R:Bool->Prop)
  (H:PC Tp gl 265 [Arg.mk .str s0,Arg.mk .str Z] [.int .i64] (λa:Int=>R (decide (a>=0)))):
  PC Tp gl 209 [Arg.mk .str s0,Arg.mk .str Z] [.bool] R:=
 PF ⟨[],[],[],[]⟩ [.tmp 4] 9 Tryz.func209 H
theorem zcl(gl:Fr)(s0:Bt)(aa:Bt)(R:Int->Prop)
  (H:((aa.toList==(⟨#[]⟩:Bt).toList)=true->R (-1))/\((aa.toList==(⟨#[]⟩:Bt).toList)=false->(((aa.size:Int)==1)=true->(0<=(0:Int)/\(0:Int)<(aa.size:Int))/\∀a:Int->Prop,(∀b:Int,(PC Tp gl 269 [Arg.mk .str s0,Arg.mk (.int .i32) b] [.int .i64] (λc:Int=>R c))->a b)->((decide ((Aa .i32 (zb aa (0:Int).toNat))>=128))=true->a 65533)/\((decide ((Aa .i32 (zb aa (0:Int).toNat))>=128))=false->a (Aa .i32 (zb aa (0:Int).toNat))))/\(((aa.size:Int)==1)=false->∀d:Prop,((∃(e:(Bt×Nat)->Prop) (f:(Bt×Nat)->Nat),e (s0,0)/\∀Z:Bt×Nat,e Z->(((nxB Z.1 Z.2)=true->(nxB Z.1 Z.2)=true/\(nxB Z.1 Z.2)=true/\PC Tp gl 269 [Arg.mk .str aa,Arg.mk (.int .i32) (nxR Z.1 Z.2)] [.int .i64] (λg:Int=>(decide (g>=0)=true->R (Z.2:Int))/\(decide (g>=0)=false->(e (Z.1,nxP Z.1 Z.2)/\f (Z.1,nxP Z.1 Z.2)<f Z))))/\((nxB Z.1 Z.2)=false->R (-1))))->d)->PC Tp gl 293 [Arg.mk (.int .i64) (s0.size:Int)] [.bool] (λi:Bool=>(i=true->False)/\(i=false->d))))):
  PC Tp gl 265 [Arg.mk .str s0,Arg.mk .str aa] [.int .i64] R:=
 PF ⟨[],[],[(18,⟨[],[(45,[.dat .iter])],[],[1002880]⟩)],[(7,⟨[(5,.one (.dat (.int .i32)))],[],[],[100320]⟩),(17,⟨[],[],[],[]⟩)]⟩ [.tmp 4] 55 Tryz.func265 H
theorem Qi(gl:Fr)(s0:Bt)(r1:Int)(R:Int->Prop)
  (H:((bif (decide ((0:Int)<=r1))then(decide (r1<128))else false)=true->PC Tp gl 212 [Arg.mk .str s0,Arg.mk (.int .u8) (Aa .u8 r1)] [.int .i64] (λa:Int=>R a))/\((bif (decide ((0:Int)<=r1))then(decide (r1<128))else false)=false->((r1==65533)=true->∃(b:(Bt×Nat)->Prop) (c:(Bt×Nat)->Nat),b (s0,0)/\∀Z:Bt×Nat,b Z->(((nxB Z.1 Z.2)=true->(nxB Z.1 Z.2)=true/\(nxB Z.1 Z.2)=true/\(((nxR Z.1 Z.2:Int)==65533)=true->R (Z.2:Int))/\(((nxR Z.1 Z.2:Int)==65533)=false->(b (Z.1,nxP Z.1 Z.2)/\c (Z.1,nxP Z.1 Z.2)<c Z)))/\((nxB Z.1 Z.2)=false->R (-1))))/\((r1==65533)=false->PC Tp gl 300 [Arg.mk (.int .i32) r1] [.bool] (λd:Bool=>((!d)=true->R (-1))/\((!d)=false->False))))):
  PC Tp gl 269 [Arg.mk .str s0,Arg.mk (.int .i32) r1] [.int .i64] R:=
 PF ⟨[],[],[(38,⟨[],[(175,[.dat .iter])],[],[1011200]⟩)],[]⟩ [.tmp 4] 187 Tryz.func269 H
theorem Qp(gl:Fr)(Z:Int)(R:Bool->Prop)
  (H:R (decide (Z>8))):
  PC Tp gl 293 [Arg.mk (.int .i64) Z] [.bool] R:=
 PF ⟨[],[],[],[]⟩ [.tmp 2] 5 Tryz.func293 H
end
end Go.X
end
section
namespace Go.X
open Go Go.X Go.Proofs Go.RowKit
section
variable {gl:Fr} {R:Int -> Prop} {l:Bs}
theorem zil{f:FuncId}{args:List Arg}{us:List Value}(aa:zfl args=some us)(hR:∀n,R n)
  (H:∀w:World,Calls Tp f us.toArray w λe w'=>IR e/\Below w.heap.size w w'):PC Tp gl f args [.int .i64] R:=by
 intro h M vs hM ag ha
 rw[zdn aa ha]
 refine XC.of_calls λB d=>(H (mk B d h)).mono ?_
 rintro e w' ⟨⟨n,rfl⟩,Z⟩
 have k:Keep h.size h w'.heap:=⟨Z.size,Z.block⟩
 exact⟨_,rfl,Z.os,Z.tape,Z.output,k,M,n,Fr.le.refl _,λ_ _=>rfl,ag.keep k,zz0 _ _,hR n⟩
theorem zqa{r:Int}(hr:0<=r)(hR:∀n,R n):PC Tp gl 269 [Arg.mk .str (bl [43,45,95]),Arg.mk (.int .i32) r] [.int .i64] R:=by
 by_cases h1:r<128
 ·apply Qi
  have e:(bif decide ((0:Int)<=r)then decide (r<128)else false)=true:=by simp[hr,h1]
  rw[e]
  exact⟨λ_=>X1 (hR _),λhx=>by cases hx⟩
 ·by_cases h2:r=65533
  ·subst h2
   apply Qi
   refine⟨λ_=>X1 (hR _),λ_=>⟨λ_=>?_,λhx=>by cases hx⟩⟩
   refine⟨λq=>∃p:Nat,q=(bl [43,45,95],p),λq=>3-q.2,⟨0,rfl⟩,?_⟩
   rintro q ⟨p,rfl⟩
   simp only[zpo]
   refine⟨λhn=>⟨hn,hn,λ_=>hR _,λ_=>⟨⟨_,rfl⟩,?_⟩⟩,λ_=>hR _⟩
   have hp:p < [43,45,95].length:=by simpa using hn
   have Z:p<3:=hp
   rw[zh5 _ _ hp]
   have:=(xn (([43,45,95]:Bs).drop p)).1
   omega
  ·exact zil (us:=[.string ⟨#[43,45,95]⟩,.int .i32 r]) rfl hR λw=>zs4 r w (by omega) h2
theorem z1b(w:World)(o1 o2:Obj):Below w.heap.size w ((w.alloc o1).alloc o2):=((Below.refl _ w).alloc (Ac _) o1).alloc (by show w.heap.size<=(w.heap.push o1).size;simp) o2
theorem z1c(l:Bs):(0:Int)<=((dec l).1:Int):=Int.natCast_nonneg _
theorem z1d(hl:l.length<=9){R:Bool->Prop}(h1:zs5 l->R (l.any λc=>[43,45,95].contains c))(h2:¬zs5 l->∀b,R b):PC Tp gl 209 [Arg.mk .str (bl l),Arg.mk .str (bl [43,45,95])] [.bool] R:=by
 have Z:∀(j:Nat) (b:UInt8),([43,45,95]:Bs)[j]?=some b->b.toNat<128:=by
  intro j b hb
  have:b∈([43,45,95]:Bs):=Bh hb
  simp at this
  rcases this with rfl|rfl|rfl <;> decide
 by_cases ha:zs5 l
 ·refine zjs (s:=bl l) (c:=bl [43,45,95]) (by rw[ze];omega) (by rw[ze];decide) ?_ ?_ ?_
  ·rw[yp];exact λj b hb=>ha b (Bh hb)
  ·rw[yp];exact Z
  ·rw[yp,yp,zaa];exact h1 ha
 ·have hb:=h2 ha
  apply Xc
  by_cases h8:l.length<=8
  ·apply zcl
   have e1:((bl [43,45,95]).toList==(⟨#[]⟩:Bt).toList)=false:=by rw[z8o,yp];rfl
   have e2:((((bl [43,45,95]).size:Int))==1)=false:=by rw[ze];rfl
   rw[e1,e2]
   refine⟨λhx=>(by cases hx),λ_=>⟨λhx=>(by cases hx),λ_ K hK=>?_⟩⟩
   apply Qp
   have e3:decide (((bl l).size:Int)>8)=false:=by rw[ze];simp;omega
   rw[e3]
   refine⟨λhx=>(by cases hx),λ_=>hK ?_⟩
   refine⟨λq=>∃p:Nat,q=(bl l,p),λq=>l.length-q.2,⟨0,rfl⟩,?_⟩
   rintro q ⟨p,rfl⟩
   simp only[zpo]
   refine⟨λhn=>⟨hn,hn,?_⟩,λ_=>hb _⟩
   have hp:p<l.length:=by simpa using hn
   refine zqa (by rw[zpp];exact z1c _) λn=>⟨λ_=>hb _,λ_=>⟨⟨_,rfl⟩,?_⟩⟩
   rw[zh5 _ _ hp]
   have:=(xn (l.drop p)).1
   omega
  ·refine zil (us:=[.string (bl l),.string (bl [43,45,95])]) rfl (λn=>hb _) λw=>?_
   have hz:=(zero_of_info (P:=Tp) (t:=169) (v:=.agg (Bn 256 (.bool false))) (n:=256) (by kernel_rfl)).1
   refine(Wt hz (bl l) (bl [43,45,95]) w (by rw[ze];decide) (by rw[ze];omega) (by rw[ze];omega) (by rw[ze];decide) Z).mono ?_
   rintro e w' ⟨rfl,rfl⟩
   exact⟨⟨_,rfl⟩,z1b w _ _⟩
theorem z1e:(bif (bif (l==[])then true else decide ((l.length:Int)>9))then true else(bif (!(l==[48]))then((((l[0]?).getD 0).toNat:Int)==48)else false))=decide (l.length<1\/9<l.length\/(1<l.length/\l.head?=some 48)):=by
 match l with
 |[]=>simp
 |[c]=>
  rw[AJ,decide_eq_true_eq]
  by_cases hc:c=48
  ·subst hc;simp
  ·have:((c.toNat:Int)==48)=false:=by
    have:=zup (c:=c) (n:=48) 48 rfl
    unfold bne at this
    rw[<-Bool.not_not ((c.toNat:Int)==48),this];simp[hc]
   show(bif (bif ([c]==[])then true else decide ((([c]:Bs).length:Int)>9))then true else(bif (!([c]==[48]))then((c.toNat:Int)==48)else false))=true↔_
   rw[this];simp
 |c::d::t=>
  have e:((c.toNat:Int)==48)=(c==48):=by
   have:=zup (c:=c) (n:=48) 48 rfl
   unfold bne at this
   rw[<-Bool.not_not ((c.toNat:Int)==48),this,Bool.not_not]
  show(bif (bif ((c::d::t)==[])then true else decide (((c::d::t:Bs).length:Int)>9))then true else(bif (!((c::d::t)==[48]))then((c.toNat:Int)==48)else false))=_
  rw[e,AJ,decide_eq_true_eq]
  have Z:¬(c::d::t:Bs).length<1:=by simp
  have aa:1<(c::d::t:Bs).length:=by simp
  have h1:((c::d::t:Bs)==[])=false:=rfl
  have h2:((c::d::t:Bs)==[48])=false:=by simp
  rw[h1,h2,cond_false,Bool.not_false,cond_true]
  generalize (c::d::t:Bs).length=n at *
  by_cases h9:9<n
  ·have:decide ((n:Int)>9)=true:=by simp;omega
   rw[this];simp[h9]
  ·have:decide ((n:Int)>9)=false:=by simp;omega
   rw[this,cond_false];simp[h9,Z,aa]
theorem z6c(h:l.any (λc=>[43,45,95].contains c)=false):∀c,l.head?=some c->c.toNat≠43/\c.toNat≠45:=by
 intro c hc
 rw[List.any_eq_false]at h
 have:=h c (List.mem_of_head? hc)
 constructor
 ·intro e
  have:c=43:=D7.1 (by rw[e];rfl)
  subst this;exact absurd rfl ‹¬_›
 ·intro e
  have:c=45:=D7.1 (by rw[e];rfl)
  subst this;exact absurd rfl ‹¬_›
theorem zqb(h:l.all qi=true):zs5 l/\(l.any λc=>[43,45,95].contains c)=false:=by
 rw[AD]at h
 constructor
 ·intro c hc
  have:=h c hc
  simp[qi]at this;omega
 ·rw[List.any_eq_false]
  intro c hc hm
  have h2:=h c hc
  simp[qi]at h2
  simp at hm
  rcases hm with rfl|rfl|rfl <;> revert h2 <;> decide
theorem z1f(hg:GL gl)(hl:l.length<=1048576){R:Int×Bool->Prop}(h:R (zp9 l)):PC Tp gl 135 [Arg.mk .str (bl l)] [.int .i64,.bool] R:=by
 apply zfs
 have af:∀s:Bs,((bl s).toList==(⟨#[48]⟩:Bt).toList)=(s==[48]):=λs=>by rw[show(⟨#[48]⟩:Bt)=bl [48]from rfl,qd3,yp]
 simp only[ze,yr,show(0:Int).toNat=0 from rfl,z8o,yp,af,z1e]
 refine⟨λhx=>⟨by omega,?_⟩,?_⟩
 ·simp at hx
  have:=Bf.2 hx.1.1
  omega
 unfold zp9 at h
 by_cases Z:l.length<1\/9<l.length\/(1<l.length/\l.head?=some 48)
 ·rw[if_pos Z]at h
  rw[decide_eq_true Z]
  exact⟨λ_=>True,λhx=>(by cases hx),λr _=>⟨λ_=>h,λhx=>by cases hx⟩⟩
 ·rw[if_neg Z]at h
  rw[decide_eq_false Z]
  refine⟨λb=>(l.all qi=true->b=false)/\(l.all qi=false->b=false->∀v,Lib.atoiAll l≠.ok v),λ_=>?_,λb hb=>?_⟩
  ·refine z1d (by omega) (λha=>⟨λhd=>(zqb hd).2,λhd hf=>qbg hd (z6c hf)⟩) (λab b=>⟨λhd=>absurd (zqb hd).1 ab,λhd hf v=>qbh ab v⟩)
  ·obtain⟨ae,ah⟩:=hb rfl
   refine⟨λhx=>?_,λhx=>?_⟩
   ·have aa:b=true:=by simpa using hx
    cases hd:l.all qi with
    |true=>rw[ae hd]at aa;cases aa
    |false=>rw[hd,if_neg (by simp)]at h;exact h
   ·have ai:b=false:=by simpa using hx
    refine qa0 hg.err (s:=bl l) (by rw[ze];omega) ?_
    rw[yp]
    unfold qaz
    cases hd:l.all qi with
    |true=>
     rw[qbf hd (by rintro rfl;simp at Z) (by omega)]
     rw[hd,if_pos rfl]at h
     exact⟨λhx=>(by cases hx),λ_=>h⟩
    |false=>
     rw[hd,if_neg (by simp)]at h
     have:=ah hd ai
     cases ha:Lib.atoiAll l with
     |ok v=>exact absurd ha (this v)
     |range=>exact⟨λ_=>h,λhx=>by cases hx⟩
     |_=>exact⟨λ_=>h,λhx=>by cases hx⟩
end
section
variable {gl:Fr} {l:Bs}
theorem z1g{gl M:Fr}(hg:zmu gl)(hM:Fr.le gl M){h:za}(ag:AgM M h){fn s:Bt}(hs:s.size<=281474976710656){b n:Int}{K:Value->za->Prop}(hK:∀t u h',Keep h.size h h'->K (.iface t u) h'):
  XC Tp 267 #[.string fn,.string s,.int .i64 b,.int .i64 n,.iface 287 (.int .i64 2)] h K:=by
 obtain⟨⟨cs,ev,e1,e2,e3⟩,_⟩:=hg
 refine XC.of_calls λB d=>(Jg fn s b n ev (mk B d h) hs (AgM.glob (w:=mk B d h) ag (hM _ _ e1) e2) e3).mono ?_
 rintro e w' ⟨N,rfl,h1,h2,Z⟩
 exact⟨_,rfl,Z.os,Z.tape,Z.output,hK _ _ _ ⟨Z.size,Z.block⟩⟩
theorem znd:∀{l:Bs} {c:UInt8} (n:Nat),c∈l->zja c=none->zj0 n l=none
 |x::l,c,n,hc,hv=>by
  show(match zja x with|some d=>zj0 (16*n+d) l|none=>none)=none
  rcases Af.1 hc with rfl|hc
  ·rw[hv]
  ·cases zja x with
   |none=>rfl
   |some d=>exact znd _ hc hv
theorem zu1{c:UInt8}(h:c.toNat<48\/c=95\/128<=c.toNat):zja c=none:=by
 have h':c.toNat<48\/c.toNat=95\/128<=c.toNat:=by rcases h with h|rfl|h <;> simp[*]
 unfold zja
 rw[if_neg (by omega),if_neg (by omega),if_neg (by omega)]
theorem zqc(hg:GL gl)(hl:l.length=4){R:Int×Bool->Prop}(h1:∀n:Nat,zj0 0 l=some n->R ((n:Int),true))(h2:zj0 0 l=none->R (0,false)):
  PC Tp gl 329 [Arg.mk .str (bl l),Arg.mk (.int .i64) 16,Arg.mk (.int .i64) 32] [.int .u64,.err] R:=by
 intro h M vs hM ag ha
 match vs,ha with
 |[u1,u2,u3],⟨a1,a2,a3,_⟩=>
  obtain rfl:=Ql a1
  obtain rfl:=qo a2
  obtain rfl:=qo a3
  apply PX.of
  apply za6
  refine zs2 hl (λn h' e k=>?_) (λh' e k=>?_)
  ·exact⟨(n:Int),.nilIface,rfl,rfl,λhx=>(by cases hx),λ_=>⟨M,((n:Int),true),Later.same ag k,zh3 _ _,h1 n e⟩⟩
  ·refine⟨0,.iface _ _,rfl,rfl,λ_=>?_,λhx=>(by cases hx)⟩
   refine z1g hg.err hM (ag.keep k) (by rw[ze];omega) λt u h3 k3=>⟨_,rfl,M,(0,false),Later.same ag (k.trans k3 k.size),zh2 _ _ _ _,h2 e⟩
theorem z1h(hg:GL gl)(hl:l.length<=1152921504606846976){R:Int×Bool->Prop}(h1:∀n:Nat,zij l=some n->R ((n:Int),true))(h2:zij l=none->∀v,R (v,false)):
  PC Tp gl 328 [Arg.mk .str (bl l)] [.int .i32,.bool] R:=by
 apply znc
 simp only[ze,Zq,show(0:Int).toNat=0 from rfl,show(4:Int).toNat=4 from rfl,Cc,Ee]
 by_cases h4:l.length<4
 ·have e:decide (((l.length:Nat):Int)<4)=true:=by rw[decide_eq_true_eq];omega
  have e9:zij l=none:=by unfold zij;rw[if_neg (by omega)]
  simp only[e]
  exact⟨λhx=>(by cases hx),λ_=>True,λhx=>(by cases hx),λr _=>⟨λ_=>h2 e9 0,λhx=>(by cases hx)⟩⟩
 ·have e:decide (((l.length:Nat):Int)<4)=false:=by rw[decide_eq_false_iff_not];omega
  simp only[e]
  have Z:zij l=zj0 0 (l.take 4):=by unfold zij;rw[if_pos (by omega)]
  have ht:(l.take 4).length=4:=by rw[Bb];omega
  refine⟨λ_=>⟨by omega,by omega,by omega⟩,λr=>r=true->zij l=none,λ_=>?_,λr hr=>⟨λhx=>h2 (hr rfl hx) 0,λhx=>⟨⟨by omega,by omega,by omega⟩,?_⟩⟩⟩
  ·refine z1d (l:=l.take 4) (by omega) (λha hb=>?_) (λha b hb=>?_)
   ·obtain⟨c,hc,aa⟩:=DN.1 hb
    rw[Z]
    refine znd 0 hc (zu1 ?_)
    simp at aa
    rcases aa with rfl|rfl|rfl
    ·left;decide
    ·left;decide
    ·right;left;rfl
   ·rw[Z]
    have:∃c∈l.take 4,128<=c.toNat:=by
     refine CO λhn=>ha λc hc=>?_
     refine CO λh9=>hn ⟨c,hc,by omega⟩
    obtain⟨c,hc,aa⟩:=this
    exact znd 0 hc (zu1 (.inr (.inr aa)))
  ·refine zqc hg ht (λn e1=>?_) (λe1=>h2 (Z.trans e1) _)
   have hn:=ze4 (Z.trans e1)
   have:=h1 n (Z.trans e1)
   rw[Xz (by omega) (by omega)]
   exact this
end
section
variable {M:Fr} {h:za} {K:Value -> za -> Prop} {b o c:Nat}
def Brn(gl:Fr):Prop:=∃cs:Array Value,gl 7=some cs/\cs[15]?=some (.int .u8 4)
theorem Brn.mono{gl M:Fr}(h:Brn gl)(le:Fr.le gl M):Brn M:=by
 obtain⟨cs,e,h⟩:=h;exact⟨cs,le _ _ e,h⟩
theorem qbi(hK:K (.bool true) h):XC Tp 273 #[.int .i64 16] h K:=by
 apply Zb
 exact Eq.mpr (congrArg (λb=>K (.bool b) h) (by kernel_rfl)) hK
theorem qie(hb:Brn M)(ag:AgM M h)(hK:K (.int .i64 4) h):XC Tp 274 #[.int .u64 16] h K:=by
 obtain⟨cs,e,hc⟩:=hb
 apply Yl
 refine⟨λhx=>(by cases hx),λ_=>?_⟩
 apply Qm
 refine⟨λhx=>(by cases hx),λ_=>⟨_,⟨rfl,by decide +kernel,by decide +kernel⟩,4,?_,4,rfl,hK⟩⟩
 have key:∀n:Nat,n=15->zc h (Ai ⟨7,0,none⟩ n)=some (.int .u8 4):=by
  rintro n rfl;exact ag.cell e hc
 exact key _ (by kernel_rfl)
def qhv:Bs:=[48,49,50,51,52,53,54,55,56,57,97,98,99,100,101,102,103,104,105,106,107,108,109,110,111,112,113,114,115,116,117,118,119,120,121,122]
def dgH(k:Nat):UInt8:=qhv[k]?.getD 0
theorem zld(k:Nat):zb (⟨#[48,49,50,51,52,53,54,55,56,57,97,98,99,100,101,102,103,104,105,106,107,108,109,110,111,112,113,114,115,116,117,118,119,120,121,122]⟩:Bt) k=((dgH k).toNat:Int):=yr qhv k
def zaz(c:Nat):Bs:=if c<16 then [dgH c]else [dgH 1,dgH (c % 16)]
def z65:Array Value:=#[.int .u8 0,.int .u8 0,.int .u8 0,.int .u8 0,.int .u8 0,.int .u8 0,.int .u8 0,.int .u8 0,.int .u8 0,.int .u8 0,.int .u8 0,.int .u8 0,.int .u8 0,.int .u8 0,.int .u8 0,.int .u8 0,.int .u8 0,.int .u8 0,.int .u8 0,.int .u8 0,.int .u8 0,.int .u8 0,.int .u8 0,.int .u8 0,.int .u8 0,.int .u8 0,.int .u8 0,.int .u8 0,.int .u8 0,.int .u8 0,.int .u8 0,.int .u8 0,.int .u8 0,.int .u8 0,.int .u8 0,.int .u8 0,.int .u8 0,.int .u8 0,.int .u8 0,.int .u8 0,.int .u8 0,.int .u8 0,.int .u8 0,.int .u8 0,.int .u8 0,.int .u8 0,.int .u8 0,.int .u8 0,.int .u8 0,.int .u8 0,.int .u8 0,.int .u8 0,.int .u8 0,.int .u8 0,.int .u8 0,.int .u8 0,.int .u8 0,.int .u8 0,.int .u8 0,.int .u8 0,.int .u8 0,.int .u8 0,.int .u8 0,.int .u8 0,.int .u8 0]
theorem qif:qd Tp 5=true:=by kernel_rfl
theorem qig:qn Tp 5=1:=by kernel_rfl
theorem qec{l:Bs}{cap:Nat}(hc:∀j (hj:j<l.length),zc h ⟨b,o+j,none⟩=some (.int .u8 (l[j].toNat:Int)))(hK:K (.string (bl l)) h):
  Z5 Tp (convert 110 9 (.slice (some ⟨b,o,none⟩) l.length cap)) h K:=by
 intro B d
 refine⟨_,d,h,run_convert_bytes_back (P:=Tp) (mk B d h) 110 9 5 ⟨b,o,none⟩ cap l Tryz.underlying110 Bq Bm λj hj=>?_,hK⟩
 rw[zrj,zu];exact hc j hj
theorem qed(hc:c<18446744073709551616):Aa .u64 (((Ao (Ak .u64) (c:Int)) &&& (Ao (Ak .u64) (15:Int))).toNat:Int)=((c % 16:Nat):Int):=by
 rw[show(15:Int)=((15:Nat):Int)from rfl,z5o hc (by decide)]
 congr 1
 exact Nat.and_two_pow_sub_one_eq_mod c 4
theorem z1i{k:Nat}(h:k<36):0<=(k:Int)/\(k:Int)<(((⟨#[48,49,50,51,52,53,54,55,56,57,97,98,99,100,101,102,103,104,105,106,107,108,109,110,111,112,113,114,115,116,117,118,119,120,121,122]⟩:Bt)).size:Int):=by
 have:(((⟨#[48,49,50,51,52,53,54,55,56,57,97,98,99,100,101,102,103,104,105,106,107,108,109,110,111,112,113,114,115,116,117,118,119,120,121,122]⟩:Bt)).size:Int)=36:=rfl
 rw[this];omega
theorem z1j{g:za}{cs:Array Value}(B:Blk g b cs)(ho:o<cs.size){x:Int}{K:za->Prop}(hK:∀g',Blk g' b (cs.setIfInBounds o (.int .u8 x))->g'.size=g.size->(∀i,i≠b->g'[i]?=g[i]?)->K g'):zk Tp (An 5 (.pointer (some ⟨b,o,none⟩)) (.int .u8 x)) g K:=
 wb qif qig B ho rfl hK
set_option maxRecDepth 100000 in
set_option maxHeartbeats 4000000 in
theorem qgy(hc:c<32)(hb:Brn M)(ag:AgM M h)(hK:∀h',Keep h.size h h'->K (.tuple #[.slice none 0 0,.string (bl (zaz c))]) h'):
  XC Tp 224 #[.slice none 0 0,.int .u64 (c:Int),.int .i64 16,.bool false,.bool false] h K:=by
 refine Z3 ⟨none,0,0⟩ (c:Int) 16 false false h K ?_
 intro K2 au
 refine⟨λhx=>(by simp at hx),λ_=>au _ ?_⟩
 intro h3
 have k3:Keep h.size h h3:=Keep.push _ _ (Ac _)
 have z3:h3.size=h.size+1:=Am _
 have B3:Blk h3 h.size z65:=Blk.new _ _ _
 clear_value h3
 have aB:=ag.keep k3
 intro K6 ay
 refine⟨λhx=>(by cases hx),λ_=>ay _ _ ?_⟩
 intro K9 ak
 have ar:Aa .u64 16=16:=by decide
 have az:Aa .u64 (16-1)=15:=by decide
 rw[ar,az]
 refine qbi ⟨true,rfl,λ_=>?_,λhx=>(by cases hx)⟩
 refine qie hb aB ⟨_,rfl,?_⟩
 have ae:z65.size=65:=rfl
 have fin:∀(g:za) (cs:Array Value) (u i:Nat),Keep h.size h g->Blk g h.size cs->cs.size=65->u<16->1<=i->i<=65->(∀j,j<65-i->∃x:UInt8,(zaz c)[j+1]?=some x/\cs[i+j]?=some (.int .u8 (x.toNat:Int)))->(zaz c).length=66-i->(zaz c)[0]?=some (dgH u) ->
   zk Tp (An 5 (.pointer (some (Ai ⟨h.size,0,none⟩ (((i-1:Nat):Int).toNat*1)))) (.int .u8 (zb (⟨#[48,49,50,51,52,53,54,55,56,57,97,98,99,100,101,102,103,104,105,106,107,108,109,110,111,112,113,114,115,116,117,118,119,120,121,122]⟩:Bt) ((u:Int)).toNat))) g (λan=>K9 (((i-1:Nat):Int)) an):=by
  intro g cs u i kg Bg af hu aF aC ab aj aa
  rw[Al,Al,Cw,zld]
  rw[zu,AK]
  refine z1j Bg (by rw[af];omega) λg2 B2 z2 f2=>ak _ _ ?_
  intro aE ah
  refine⟨λhx=>(by cases hx),λ_=>ah _ _ ?_⟩
  refine⟨λhx=>(by cases hx),λ_=>⟨⟨by omega,by omega,by omega⟩,?_⟩⟩
  have ax:Keep h.size h g2:=⟨by have:=kg.size;omega,λj hj=>(f2 j (by omega)).trans (kg.get j hj)⟩
  have aA:Value.slice (zjc (some ⟨h.size,0,none⟩) 1 ((i-1:Nat):Int).toNat 65) ((65:Int).toNat-((i-1:Nat):Int).toNat) (65-((i-1:Nat):Int).toNat)=.slice (some ⟨h.size,i-1,none⟩) (zaz c).length (65-(i-1)):=by
   rw[Al,aj,show(65:Int).toNat-(i-1)=66-i from by have:(65:Int).toNat=65:=rfl;omega]
   congr 1
   unfold zjc
   rw[if_neg (by omega)]
   simp only[D6,zu,AK,Cw]
  rw[aA]
  refine qec (λj hj=>?_) ⟨_,rfl,hK _ ax⟩
  refine B2.cell ?_
  rw[Array.getElem?_setIfInBounds]
  cases j with
  |zero=>
   rw[CW,if_pos rfl,if_pos (by rw[af];omega)]
   rw[Aq hj]at aa
   rw[Au aa]
  |succ j=>
   rw[if_neg (by omega)]
   obtain⟨x,ai,ap⟩:=ab j (by omega)
   rw[show i-1+(j+1)=i+j from by omega,ap]
   rw[Aq hj]at ai
   rw[Au ai]
 refine⟨λu i g=>Keep h.size h g/\((u=(c:Int)/\i=65/\Blk g h.size z65)\/(16<=c/\u=1/\i=64/\Blk g h.size (z65.setIfInBounds 64 (.int .u8 ((dgH (c % 16)).toNat:Int))))),λu _ _=>u.toNat,⟨k3,.inl ⟨rfl,rfl,B3⟩⟩,?_⟩
 rintro u i g ⟨kg,⟨rfl,rfl,Bg⟩|⟨Z,rfl,rfl,Bg⟩⟩
 ·refine⟨λhx=>?_,λhx=>?_⟩
  ·have Z:16<=c:=by have:=of_decide_eq_true hx;omega
   rw[qed (by omega)]
   have w64:Aa .i64 ((65:Int)-1)=64:=by decide
   rw[w64]
   refine⟨z1i (by omega),_,⟨rfl,by decide,by decide⟩,?_⟩
   rw[Al,zld,zu]
   refine z1j (o:=64) Bg (by rw[ae];omega) λg2 B2 z2 f2=>⟨by decide,⟨⟨by have:=kg.size;omega,λj hj=>(f2 j (by omega)).trans (kg.get j hj)⟩,.inr ⟨Z,?_,rfl,B2⟩⟩,?_⟩
   ·have:(min (Aa .u64 4).toNat 64)=4:=by decide
    rw[this]
    show(c:Int).fdiv 16=1
    rw[Int.fdiv_eq_ediv_of_nonneg _ (by decide)];omega
   ·have:(min (Aa .u64 4).toNat 64)=4:=by decide
    rw[this]
    show((c:Int).fdiv 16).toNat<(c:Int).toNat
    rw[Int.fdiv_eq_ediv_of_nonneg _ (by decide)];omega
  ·have Z:c<16:=by have:=of_decide_eq_false hx;omega
   have w64:Aa .i64 ((65:Int)-1)=((65-1:Nat):Int):=by decide
   rw[w64]
   refine⟨z1i (by omega),_,⟨rfl,by decide,by decide⟩,?_⟩
   have ht:zaz c=[dgH c]:=by unfold zaz;rw[if_pos Z]
   exact fin g z65 c 65 kg Bg rfl Z (by omega) (by omega) (λj hj=>by omega) (by rw[ht];rfl) (by rw[ht];rfl)
 ·refine⟨λhx=>?_,λhx=>?_⟩
  ·exact absurd (of_decide_eq_true hx) (by omega)
  ·have am:Aa .i64 ((64:Int)-1)=((64-1:Nat):Int):=by decide
   rw[am]
   refine⟨z1i (k:=1) (by omega),_,⟨rfl,by decide,by decide⟩,?_⟩
   have ht:zaz c=[dgH 1,dgH (c % 16)]:=by unfold zaz;rw[if_neg (by omega)]
   refine fin g _ 1 64 kg Bg (by simp[ae]) (by omega) (by omega) (by omega) (λj hj=>?_) (by rw[ht];rfl) (by rw[ht];rfl)
   have:j=0:=by omega
   subst this
   exact⟨_,by rw[ht];rfl,by rw[Array.getElem?_setIfInBounds,if_pos rfl,if_pos (by rw[ae];omega)]⟩
theorem zs7(hc:c<32)(hb:Brn M)(ag:AgM M h)(hK:∀h',Keep h.size h h'->K (.string (bl (zaz c))) h'):XC Tp 84 #[.int .i64 (c:Int),.int .i64 16] h K:=by
 apply za4
 apply Qe
 refine⟨λhx=>(by simp at hx),λ_=>?_⟩
 have e1:Aa .u64 (c:Int)=(c:Int):=z0m (by omega) (by omega)
 have e2:decide ((c:Int)<0)=false:=decide_eq_false (by omega)
 rw[e1,e2]
 exact qgy hc hb ag λh' k=>⟨⟨none,0,0⟩,_,rfl,_,rfl,hK h' k⟩
end
end Go.X
end
section
namespace Go.Proofs.YtjohlemfgcmaoaaGreatDoor
open Go Go.X Go.ChangeShapes Go.WideShapes Go.ChangeAt Go.RowKit Go.Lib
set_option linter.unusedVariables false
section
theorem qee{W:World}(h:laidMetH AY zid W):Brn (Fz W):=by
 have hl:laidMet AY zid W:=by
  rw[MakeChecks.laidMetH_plain _ _ _ (by kernel_rfl)]at h;exact h
 have hv : VarReads Tryz.prog W "math/bits.deBruijn64tab" (tabData .u8 [0, 1, 56, 2, 57, 49, 28, 3, 61, 58, 42, 50, 38, 29, 17, 4, 62, 47, 59, 36, 45, 43, 51, 22, 53, 39, 33, 30, 24, 18, 12, 5, 63, 55, 48, 27, 60, 41, 37, 16, 46, 35, 44, 21, 52, 32, 23, 11, 54, 26, 40, 15, 34, 20, 31, 10, 25, 14, 19, 9, 13, 8, 7, 6]) := by
  have := Go.Lib.laidMet.reads hl (List.mem_of_getElem? (show zid[1]? = some ("math/bits.deBruijn64tab", Rows.laid_math_bits_deBruijn64tab) from rfl))
  have e:(Rows.laid_math_bits_deBruijn64tab:DataW Unit)=tabData .u8 [0,1,56,2,57,49,28,3,61,58,42,50,38,29,17,4,62,47,59,36,45,43,51,22,53,39,33,30,24,18,12,5,63,55,48,27,60,41,37,16,46,35,44,21,52,32,23,11,54,26,40,15,34,20,31,10,25,14,19,9,13,8,7,6]:=by kernel_rfl
  rw[<-e];exact this
 obtain⟨cs,h1,h2⟩:=z0r (g:=7) (t:=307) (e:=5) (m:=64) (by kernel_rfl) (by kernel_rfl) (by kernel_rfl) (by kernel_rfl) (by kernel_rfl) (by kernel_rfl) hv
 exact⟨cs,h1,by rw[<-BP,h2];rfl⟩
end
end Go.Proofs.YtjohlemfgcmaoaaGreatDoor
end
section
namespace Go.X
open Go Go.Lib
section
variable {a:Nat}
abbrev Tk:=Int×Int×Int
def xf:Bs:=[32,9,10,13]
def yl:Bs:=[123,125,91,93,44,58]
def zcm:Bs:=[45,43,46,48,49,50,51,52,53,54,55,56,57,101,69]
def zcn:Bs:=[45,48,49,50,51,52,53,54,55,56,57]
def j5:Bs:=[97,98,99,100,101,102,103,104,105,106,107,108,109,110,111,112,113,114,115,116,117,118,119,120,121,122]
def Yg(p:UInt8->Bool)(l:Bs):Nat:=(l.takeWhile p).length
theorem z1k(p:UInt8->Bool)(l:Bs):Yg p l<=l.length:=(List.takeWhile_sublist p).length_le
theorem zu2{p:UInt8->Bool}{c:UInt8}{l:Bs}(h:p c=true):0<Yg p (c::l):=by
 unfold Yg;rw[List.takeWhile_cons,if_pos h];simp
theorem zs8{p:UInt8->Bool}:∀{l:Bs} {k:Nat} (hk:k<=l.length),(∀j (hj:j<k),p (l[j]'(by omega))=true)->(∀h:k<l.length,p l[k]=false)->Yg p l=k
 |[],k,hk,h1,h2=>by simp at hk;subst hk;rfl
 |c::l,0,hk,h1,h2=>by
  have:=h2 (by simp)
  unfold Yg;rw[List.takeWhile_cons,if_neg (by simp at this;simp[this])];rfl
 |c::l,k+1,hk,h1,h2=>by
  have hc:=h1 0 (by omega)
  simp only[List.getElem_cons_zero]at hc
  unfold Yg
  rw[List.takeWhile_cons,if_pos hc,Ap]
  have:=zs8 (p:=p) (l:=l) (k:=k) (by simp at hk;omega) (λj hj=>by have:=h1 (j+1) (by omega);simpa using this) (λhh=>by have:=h2 (by simp;omega);simpa using this)
  unfold Yg at this
  omega
def Qq(s:Bs):Int:=if s=[116,114,117,101]then 10 else if s=[102,97,108,115,101]then 11 else if s=[110,117,108,108]then 12 else 0
def xg(l:Bs)(c:UInt8):Bool:=decide (c∈l)
def Z7(s:Bs)(a:Nat):Int×Nat×Int:=match s.drop a with
 |[]=>(0,a,2)
 |c::t=>
  if c∈yl then(2+indexByte yl c,a+1,0)
  else if c∈xf then(1,a+Yg (xg xf) (c::t),0)
  else if c=34 then(if(y0 s a).2.2=0 then(8,(y0 s a).2.1,0)else(0,(y0 s a).2.1,(y0 s a).2.2))
  else if c∈zcn then(if(zi ((c::t).take (Yg (xg zcm) (c::t)))).2=0 then(9,a+Yg (xg zcm) (c::t),0)else(0,a,(zi ((c::t).take (Yg (xg zcm) (c::t)))).2))
  else if Qq ((c::t).take (Yg (xg j5) (c::t)))=0 then(0,a,2)else(Qq ((c::t).take (Yg (xg j5) (c::t))),a+Yg (xg j5) (c::t),0)
theorem zxn{t:Bs}(h:(y0 t a).2.2=0):a<(y0 t a).2.1/\(y0 t a).2.1<=t.length:=by
 unfold y0 at h ⊢
 split at h
 ·rename_i hh
  rw[if_pos hh]
  have:=(zp7 _ (t.drop (a+1)) rfl).1
  have Z:a<t.length:=by
   rcases A1 a t.length with h1|h1
   ·exact h1
   ·rw[BL h1]at hh;cases hh
  rw[AI]at this
  dsimp only at h ⊢
  split at h
  ·rename_i h2;rw[if_pos h2];dsimp only;omega
  ·cases h
 ·cases h
theorem Jn{s:Bs}(ha:a<s.length)(h:(Z7 s a).2.2=0):a<(Z7 s a).2.1/\(Z7 s a).2.1<=s.length:=by
 have hd:s.drop a=s[a]::s.drop (a+1):=Ba ha
 have hl:(s[a]::s.drop (a+1)).length=s.length-a:=by rw[<-hd,AI]
 have rb:=λp=>z1k p (s[a]::s.drop (a+1))
 rw[hl]at rb
 unfold Z7 at h ⊢
 rw[hd]at h ⊢
 dsimp only at h ⊢
 split
 ·dsimp only;omega
 ·rename_i h1
  rw[if_neg h1]at h
  split
  ·rename_i h2
   have:=zu2 (p:=xg xf) (l:=s.drop (a+1)) (c:=s[a]) (by unfold xg;exact decide_eq_true h2)
   have:=rb (xg xf)
   dsimp only;omega
  ·rename_i h2
   rw[if_neg h2]at h
   split
   ·rename_i h3
    rw[if_pos h3]at h
    split at h
    ·rename_i h4
     rw[if_pos h4]
     exact zxn h4
    ·rename_i h4;exact absurd h h4
   ·rename_i h3
    rw[if_neg h3]at h
    split
    ·rename_i h4
     rw[if_pos h4]at h
     split at h
     ·rename_i h5
      rw[if_pos h5]
      have hn:s[a]∈zcm:=by
       have:∀c∈zcn,c∈zcm:=by decide
       exact this _ h4
      have:=zu2 (p:=xg zcm) (l:=s.drop (a+1)) (c:=s[a]) (by unfold xg;exact decide_eq_true hn)
      have:=rb (xg zcm)
      dsimp only;omega
     ·rename_i h5;exact absurd h h5
    ·rename_i h4
     rw[if_neg h4]at h
     split at h
     ·cases h
     ·rename_i h5
      rw[if_neg h5]
      have:0<Yg (xg j5) (s[a]::s.drop (a+1)):=by
       refine Nat.pos_of_ne_zero λe=>h5 ?_
       rw[e];rfl
      have:=rb (xg j5)
      dsimp only;omega
def Yb:Nat->Bs->Nat->List Tk->List Tk×Nat×Int
 |0,_,a,o=>(o,a,0)
 |f+1,s,a,o=>if a<s.length then(if(Z7 s a).2.2=0 then Yb f s (Z7 s a).2.1 (o++[((Z7 s a).1,((a:Int),((Z7 s a).2.1:Int)))])else([],(Z7 s a).2.1,(Z7 s a).2.2))else(o,a,0)
def y5(s:Bs):List Tk×Nat×Int:=if 65536<s.length then([],0,3)else Yb s.length s 0 []
end
section
variable {s:Bs}
abbrev Sp:=Int×Int
abbrev Nd:=Int×Sp×Sp×List Int×List Sp
structure PSt where
 rest:List Tk
 last:Int
 nodes:List Nd
abbrev PR(α:Type):=α ⊕ (Int×Int)
def PSt.kind(st:PSt):Int:=match st.rest with | []=>0|t::_=>t.1
def PSt.here(st:PSt)(n:Nat):Int:=match st.rest with | []=>(n:Int)|t::_=>t.2.1
def PSt.skip(st:PSt):PSt:=match st.rest with | []=>st|t::r=>⟨r,t.2.2,st.nodes⟩
def zw(k:Int):Int:=if k=12 then 1 else if k=10\/k=11 then 2 else if k=9 then 3 else if k=8 then 4 else if k=4 then 5 else if k=2 then 6 else 0
def z1l(k:Int)(p:Sp)(x:Nd):Nd:=(x.1,x.2.1,x.2.2.1,x.2.2.2.1++[k],x.2.2.2.2++[p])
def qbj(t:Int)(x:Nd):Nd:=(x.1,(x.2.1.1,t),x.2.2)
def PSt.addKid(st:PSt)(n:Nat)(k:Int)(p:Sp):PSt:=⟨st.rest,st.last,st.nodes.modify n (z1l k p)⟩
def PSt.setTo(st:PSt)(n:Nat):PSt:=⟨st.rest,st.last,st.nodes.modify n (qbj st.last)⟩
def PSt.err{α:Type}(st:PSt)(s:Bs)(e:Int):PR α:=.inr (st.here s.length,e)
abbrev zle:=List Bs->PSt->PR (List Bs×PSt)
def Jo(s:Bs)(n:Nat)(closing:Int)(kid:zle):Nat->List Bs->PSt->PR PSt
 |0,_,st=>st.err s 2
 |f+1,had,st=>match kid had st with
  |.inr e=>.inr e
  |.inl (had',st')=>
   if st'.kind=closing then .inl (st'.addKid n st.nodes.length (st.last,st'.here s.length)).skip
   else if st'.kind=6 then Jo s n closing kid f had' (st'.addKid n st.nodes.length (st.last,st'.here s.length)).skip
   else st'.err s 2
def Xd(s:Bs)(n:Nat)(closing:Int)(kid:zle)(st:PSt):PR PSt:=
 if st.kind=closing then .inl st.skip else Jo s n closing kid (st.rest.length+1) [] st
abbrev zrh:=Sp->PSt->PR PSt
def zdx(val:zrh):zle:=λhad st=>match val (0,0) st with
 |.inl st'=>.inl (had,st')
 |.inr e=>.inr e
def Jv(s:Bs)(p:Sp):Bs:=(s.drop p.1.toNat).take (p.2.toNat-p.1.toNat)
def zqd(s:Bs)(val:zrh):zle:=λhad st=>match st.rest with
 |[]=>st.err s 2
 |t::_=>
  if t.1=8 then
   if(W8 (Jv s t.2)).1∈had then st.err s 7
   else if st.skip.kind=7 then match val t.2 st.skip.skip with
    |.inl st'=>.inl (had++[(W8 (Jv s t.2)).1],st')
    |.inr e=>.inr e
   else st.skip.err s 2
  else st.err s 2
def PSt.open(st:PSt)(key:Sp):PSt:=match st.rest with
 |[]=>st
 |t::r=>⟨r,t.2.2,st.nodes++[(zw t.1,t.2,key,[],[])]⟩
def zri(s:Bs)(val:zrh)(n:Nat)(k:Int)(st:PSt):PR PSt:=
 if k=5 then Xd s n 5 (zdx val) st else if k=6 then Xd s n 3 (zqd s val) st else .inl st
def Jw(s:Bs):Nat->zrh
 |0,key,st=>if zw st.kind=0 then st.err s 2 else st.err s 5
 |d+1,key,st=>if zw st.kind=0 then st.err s 2 else if st.nodes.length=4096 then st.err s 6 else
  match zri s (Jw s d) st.nodes.length (zw st.kind) (st.open key)with
  |.inl st'=>.inl (st'.setTo st.nodes.length)
  |.inr e=>.inr e
def zy(l:List Tk):List Tk:=l.filter λt=>decide (t.1≠1)
def Z8(s:Bs):(Bs×List Nd)×Int×Int:=
 if(y5 s).2.2=0 then
  match Jw s 32 (0,0) ⟨zy (y5 s).1,0,[]⟩with
  |.inl st=>if st.rest=[]then((s,st.nodes),(s.length:Int),0)else(([],[]),st.here s.length,2)
  |.inr e=>(([],[]),e.1,e.2)
 else(([],[]),((y5 s).2.1:Int),(y5 s).2.2)
def TkW(s:Bs)(t:Tk):Prop:=0<=t.2.1/\t.2.1<t.2.2/\t.2.2<=(s.length:Int)/\(2<=t.1/\t.1<=7->t.2.2=t.2.1+1)
theorem z1m{a:Nat}(ha:a<s.length)(h:2<=(Z7 s a).1/\(Z7 s a).1<=7):(Z7 s a).2.1=a+1:=by
 have hd:s.drop a=s[a]::s.drop (a+1):=Ba ha
 unfold Z7 at h ⊢
 rw[hd]at h ⊢
 dsimp only at h ⊢
 have hw:∀l:Bs,Qq l=0\/Qq l=10\/Qq l=11\/Qq l=12:=λl=>by
  unfold Qq
  split
  ·exact .inr (.inl rfl)
  ·split
   ·exact .inr (.inr (.inl rfl))
   ·split
    ·exact .inr (.inr (.inr rfl))
    ·exact .inl rfl
 split
 ·rfl
 ·rename_i h1
  rw[if_neg h1]at h
  split at h
  ·omega
  ·rename_i h2
   split at h
   ·split at h <;> (dsimp only at h;omega)
   ·split at h
    ·split at h <;> (dsimp only at h;omega)
    ·split at h
     ·dsimp only at h;omega
     ·dsimp only at h
      rcases hw ((s[a]::s.drop (a+1)).take (Yg (xg j5) (s[a]::s.drop (a+1))))with e|e|e|e <;> rw[e]at h <;> omega
theorem zu3:∀(f:Nat) (s:Bs) (a:Nat) (o:List Tk),(∀t∈o,TkW s t)->∀t∈(Yb f s a o).1,TkW s t
 |0,s,a,o,h=>h
 |f+1,s,a,o,h=>by
  rw[Yb]
  split
  ·rename_i ha
   split
   ·rename_i h0
    refine zu3 f s _ _ λt ht=>?_
    rcases Aw.1 ht with ht|ht
    ·exact h t ht
    ·rw[A6.1 ht]
     have hp:=Jn ha h0
     refine⟨by dsimp only;omega,by dsimp only;omega,by dsimp only;omega,λhk=>?_⟩
     have:=z1m ha hk
     dsimp only;omega
   ·intro t ht;cases ht
  ·exact h
theorem z6d(s:Bs):∀t∈(y5 s).1,TkW s t:=by
 unfold y5
 split
 ·intro t ht;cases ht
 ·exact zu3 _ _ _ _ λt ht=>by cases ht
theorem zxo{l:List Tk}(h:∀t∈l,TkW s t):∀t∈zy l,TkW s t:=λt ht=>h t (D5.1 ht).1
end
end Go.X
end
