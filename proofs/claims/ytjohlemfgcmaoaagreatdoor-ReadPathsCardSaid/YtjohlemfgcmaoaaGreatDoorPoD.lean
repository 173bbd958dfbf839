/- A part of the proof: nothing is stated here for its own sake. -/
import Derived.Test.YtjohlemfgcmaoaaGreatDoorPoC
import Derived.Test.YtjohlemfgcmaoaaGreatDoorTie
import Derived.Test.YtjohlemfgcmaoaaGreatDoorCards
import Derived.PinnedBridge
import Derived.Lay
import Derived.HandedShaped
import Derived.Lib.MapLaws
open _root_.Go.Addr renaming add->Al
open _root_.Array renaming getElem?_eq_getElem->AI,getElem?_eq_some_iff->Ac,getElem?_setIfInBounds_ne->AN,getElem?_setIfInBounds_self_of_lt->Cj,getElem?_toList->Bw,replicate->Ba,size_push->Ak
open _root_.BitVec renaming ofInt->Ar,ofInt_natCast->DN,toNat_ofNat->D5
open _root_.Bool renaming and_eq_false_iff->CJ,and_eq_true->AY,and_true->C7,cond_true_left->Ce,eq_iff_iff->AH,false_and->DL,false_eq_true->A3,false_or->Dx,not_eq_true'->CZ,or_eq_false_iff->BZ,or_eq_true->BN,true_and->Cd
open _root_.Go.Builtin renaming append_->AB
open _root_.Go.Instr renaming lookup->Em,mapUpdate->Dt,storeAt->An
open _root_.Int renaming toNat_natCast->Ah
open _root_.Go.IntKind renaming bits->Ao,signed->Di,wrap->Ab
open _root_.List renaming all_append->D4,all_cons->C6,all_eq_true->AX,any_eq_true->DT,append_assoc->AQ,append_nil->AW,cons_append->AO,drop_drop->BR,drop_eq_getElem_cons->AF,drop_eq_nil_of_le->Bj,drop_take->C9,drop_zero->BQ,eq_nil_of_length_eq_zero->AJ,exists_cons_of_ne_nil->A6,ext_getElem?->Bm,getD_eq_getElem?_getD->Cz,getElem?_append_left->Bq,getElem?_append_right->A5,getElem?_drop->AE,getElem?_eq_getElem->Ai,getElem?_eq_none->BH,getElem?_eq_some_iff->Av,getElem?_map->BS,getElem?_modify->BM,getElem?_take->Az,getElem_mem->AL,getElem_of_mem->BD,length->Dd,length_append->Ap,length_cons->Aw,length_drop->AC,length_eq_zero_iff->A8,length_map->A0,length_nil->BE,length_pos_iff->Bn,length_take->A1,map_append->Cr,map_cons->A4,map_nil->CU,mem_append->As,mem_cons->Af,mem_cons_of_mem->Ae,mem_filter->Dv,mem_flatMap->Bi,mem_of_getElem?->Bh,mem_range->BL,mem_singleton->Bf,nil_append->Bc,nodup_append->Bl,nodup_nil->DI,range->Bv,replicate->D7,singleton_append->Dz,take_append_drop->Cf,take_length->Bb,take_of_length_le->Co,take_succ_cons->Be,take_succ_eq_append_getElem->AD,take_take->CX,take_zero->Dg
open _root_.Nat renaming add_mul->BU,add_zero->Cu,le_refl->Ad,le_trans->D6,lt_or_ge->AR,min_eq_left->CF,mod_eq_of_lt->DW,mul_comm->Cw,mul_le_mul_right->AK,mul_one->Dc,or_lt_two_pow->DF,pow_succ->DV,strongRecOn->Du,sub_self->Ed,sub_zero->Dn,zero_add->Ay,zero_le->CV,zero_mul->Db
open _root_.Option renaming map_eq_some_iff->Cy,map_some->Dw
open _root_.Option.some renaming inj->Aq,injEq->Aa
open _root_.Prod.mk renaming injEq->A9
open _root_.Go.Proofs.Tryz renaming func212->Eb,isAgg0->CY,isAgg181->Ei,isAgg21->Dp,isAgg3->Cm,isAgg4->Cp,isAgg5->Cq,isAgg9->Cn,prog->AZ,sizeOf0->CB,sizeOf181->Ec,sizeOf21->De,sizeOf3->B6,sizeOf4->Cg,sizeOf5->Ci,sizeOf9->Ca,underlying0->BW,underlying181->Dq,underlying21->CC,underlying3->BB,underlying4->BC,underlying5->BF,underlying9->Br,zeroValue0->Cc,zeroValue21->CN,zeroValue3->BJ,zeroValue4->BO,zeroValue5->BP,zeroValue9->BK
open _root_.UInt8 renaming ofNat->BX,toNat_inj->D3
open _root_.Go.Utf8 renaming encode->Ej
open _root_.Go.Value renaming int->Ep,string->Cv
open _root_.Go.Value.slice renaming injEq->AP
set_option linter.unusedVariables false
set_option maxRecDepth 100000
namespace Go.X
end Go.X
namespace Go.Proofs
end Go.Proofs
open Go Go.X Go.Proofs
section
namespace Go.X
section
variable {gl:Fr} {l s:Bs}
theorem z97(c:UInt8):(((c.toNat:Int)).toNat).toUInt8=c:=by simp
theorem z3m{l sep:Bs}{p:UInt8->Bool}(hp:∀c,p c=true↔c∈sep)(hl:l.length<=4611686018427387904){R:Bt×Bt×Bool->Prop}(h:R (bl (cutAt p l).1,bl (cutAt p l).2.1,(cutAt p l).2.2)):
  PC Tp gl 139 [Arg.mk .str (bl l),Arg.mk .str (bl sep)] [.str,.str,.bool] R:=by
 apply zkv
 simp only[zj,jk,xu]
 refine⟨λi=>∃k:Nat,i=k/\k<=l.length/\∀j (hj:j<l.length),j<k->p l[j]=false,λi=>l.length-i.toNat,⟨0,rfl,by omega,λj _ h=>by omega⟩,?_⟩
 rintro i ⟨k,rfl,hk,h2⟩
 refine⟨λhc=>?_,λhc=>?_⟩
 ·have Z:k<l.length:=by simpa using hc
  simp only[Ah,zr5 Z]
  refine⟨by omega,W4 ?_⟩
  rw[z97,y9]
  have hm:=(wy l[k] sep).2
  rw[Xy Z hl]
  refine⟨λhx=>⟨by omega,by omega,?_⟩,λhx=>⟨⟨k+1,rfl,by omega,λj hj ae=>?_⟩,by simp;omega⟩⟩
  ·have aa:p l[k]=true:=(hp _).2 (hm.1 (by simpa using hx))
   rw[zk8 Z (λj hj=>h2 j (by omega) hj) aa]at h
   simp only[Ah,Int.toNat_zero,BQ,Dn]
   rw[Co (l:=l.drop (k+1)) (by simp)]
   exact h
  ·by_cases e:j=k
   ·subst e
    cases hpj:p l[j]with
    |false=>rfl
    |true=>exact absurd (hm.2 ((hp _).1 hpj)) (by simpa using hx)
   ·exact h2 j hj (by omega)
 ·have Z:¬k<l.length:=by simpa using hc
  rw[Xr (λc ab=>by
   obtain⟨j,hj,rfl⟩:=BD ab
   exact h2 j hj (by omega))]at h
  exact h
theorem zjj{c:UInt8}{R:Bt×Bool->Prop}(h:R (bl (if l.head?==some c then l.tail else l),l.head?==some c)):PC Tp gl 138 [Arg.mk .str (bl l),Arg.mk .str (bl [c])] [.str,.bool] R:=by
 refine znk ?_
 rw[y9,y9,X8,zcd];exact h
theorem zp5{c:UInt8}{R:Bt->Prop}(h:R (bl (if l.head?==some c then l.tail else l))):PC Tp gl 140 [Arg.mk .str (bl l),Arg.mk .str (bl [c])] [.str] R:=by
 refine zk6 ?_
 rw[y9,y9,X8];exact h
theorem zg0{R:Bt->Prop}(h:R (bl (l.dropWhile (· == 48)))):PC Tp gl 76 [Arg.mk .str (bl l),Arg.mk .str (bl [48])] [.str] R:=by
 refine zp2 (c:=48) (by decide) ?_
 rw[y9];exact h
theorem zuf(hl:l.length<=4611686018427387904){R:Bt->Prop}(h:R (bl (l.reverse.dropWhile (· == 48)).reverse)):PC Tp gl 77 [Arg.mk .str (bl l),Arg.mk .str (bl [48])] [.str] R:=by
 refine znl (c:=48) (by decide) (by rw[zj];omega) ?_
 rw[y9];exact h
theorem z6l(hs:s.length<=4611686018427387904){R:(Bool×Bool×Bt×Bt×Bt)×Bool->Prop}
  (h1:zgv s=true->R (((zew s).neg,(zew s).low,bl (zew s).whole,bl (zew s).rest,bl (zew s).exp),true)) (h2:zgv s=false->∀a b c d e,R ((a,b,bl c,bl d,bl e),false)):
  PC Tp gl 75 [Arg.mk .str (bl s)] [.pair .bool (.pair .bool (.pair .str (.pair .str .str))),.bool] R:=by
 apply zhr
 refine zjj (c:=45) ?_
 dsimp only
 have hS:(zxe s).length<=s.length:=by unfold zxe;split <;> simp
 have hM:=zdm isE (zxe s)
 refine z3m (l:=zxe s) (sep:=[101,69]) (p:=isE) (λc=>by simp[isE]) (by omega) ?_
 dsimp only
 have au:(Yv s).1.length+(Yv s).2.1.length<=(zxe s).length:=hM
 have tail:∀(e:Bs) (low:Bool),((Yv s).2.2=true->J8 (zjg s)=true/\low=Q2 s/\e=zjg s)->((Yv s).2.2=false->low=false/\e=[]) ->
   PC Tp gl 139 [Arg.mk .str (bl (Yv s).1),Arg.mk .str (bl [46])] [.str,.str,.bool] (λZ:Bt×Bt×Bool=>PC Tp gl 141 [Arg.mk .str Z.1] [.bool] (λab:Bool=>∃ai:Bool->Prop,(((!(!ab))&&Z.2.2)=true->PC Tp gl 141 [Arg.mk .str Z.2.1] [.bool] ai) /\
      ∀ah:Bool,(((!(!ab))&&Z.2.2)=true->ai ah)->((bif (!ab)then true else(bif Z.2.2 then(!ah)else false))=true->R ((s.head?==some 45,(low,(Z.1,(Z.2.1,bl e)))),false)) /\
      ((bif (!ab)then true else(bif Z.2.2 then(!ah)else false))=false->((!((Z.1:Bt).toList==((⟨#[48]⟩:Bt):Bt).toList))=true->(0<=(0:Int)/\(0:Int)<((Z.1).size:Int))) /\
       R ((s.head?==some 45,(low,(Z.1,(Z.2.1,bl e)))),bif ((Z.1:Bt).toList==((⟨#[48]⟩:Bt):Bt).toList)then true else((zb Z.1 (0:Int).toNat:Int) != 48))))):=by
  intro e low k1 k2
  have ak:(!(Yv s).2.2||J8 (zjg s))=true/\Q2 s=low/\(if(Yv s).2.2 then zjg s else [])=e:=by
   cases hm:(Yv s).2.2 with
   |true=>obtain⟨a,b,c⟩:=k1 hm;exact⟨by simp[a],b.symm,by simp[c]⟩
   |false=>obtain⟨a,b⟩:=k2 hm;exact⟨rfl,by unfold Q2;rw[hm,a];rfl,by simp[b]⟩
  refine z3m (l:=(Yv s).1) (sep:=[46]) (p:=zp4) (λc=>by simp[zp4]) (by omega) ?_
  refine zcc ⟨λx=>J8 (Zw s).2.1=x,λ_=>zcc rfl,λy hy=>?_⟩
  dsimp only
  simp only[show(⟨#[48]⟩:Bt)=bl [48]from rfl,zev,zj,jk]
  change (_->J8 (Zw s).2.1=y)at hy
  show((bif (!J8 (Zw s).1)then true else(bif (Zw s).2.2 then(!y)else false))=true->R ((s.head?==some 45,(low,(bl (Zw s).1,(bl (Zw s).2.1,bl e)))),false)) /\
      ((bif (!J8 (Zw s).1)then true else(bif (Zw s).2.2 then(!y)else false))=false->((!decide ((Zw s).1=[48]))=true->(0<=(0:Int)/\(0:Int)<((Zw s).1.length:Int))) /\
       R ((s.head?==some 45,(low,(bl (Zw s).1,(bl (Zw s).2.1,bl e)))),bif decide ((Zw s).1=[48])then true else(((((Zw s).1[(0:Int).toNat]?).getD 0).toNat:Int) != 48)))
  have an:J8 (Zw s).1=true->(Zw s).2.2=true->J8 (Zw s).2.1=y:=λa b=>hy (by
   show((!(!J8 (Zw s).1))&&(Zw s).2.2)=true
   rw[a,b];rfl)
  refine⟨λhx=>h2 ?_ _ _ _ _ _,λhx=>⟨λ_=>?_,?_⟩⟩
  ·unfold zgv
   cases hd:J8 (Zw s).1 with
   |false=>simp
   |true=>
    rw[hd]at hx
    cases hw:(Zw s).2.2 with
    |false=>rw[hw]at hx;simp at hx
    |true=>
     rw[hw]at hx
     have:=an hd hw
     rw[this]
     simp at hx;simp[hx]
  all_goals
   have hd:J8 (Zw s).1=true:=by
    cases hd:J8 (Zw s).1 with
    |true=>rfl
    |false=>rw[hd]at hx;simp at hx
   have hp:=zr7 hd
  ·omega
  ·have h3:(!(Zw s).2.2||J8 (Zw s).2.1)=true:=by
    cases hw:(Zw s).2.2 with
    |false=>rfl
    |true=>
     rw[hd,hw]at hx
     have:=an hd hw
     rw[this];simpa using hx
   have h4:(bif decide ((Zw s).1=[48])then true else(((((Zw s).1[(0:Int).toNat]?).getD 0).toNat:Int) != 48))=((Zw s).1==[48]||(Zw s).1.head? != some 48):=by
    rw[show(0:Int).toNat=0 from rfl,zr6 hp,Ce,AH];simp
   have aj:zgv s=((Zw s).1==[48]||(Zw s).1.head? != some 48):=by
    unfold zgv;rw[ak.1,hd,h3];simp
   rw[h4]
   cases ho:((Zw s).1==[48]||(Zw s).1.head? != some 48)with
   |true=>
    have:=h1 (aj.trans ho)
    unfold zew at this
    rw[ak.2.1,ak.2.2]at this
    exact this
   |false=>exact h2 (aj.trans ho) _ _ _ _ _
 intro K hK
 refine⟨λhm=>?_,λhm=>?_⟩
 ·have af:(Yv s).2.2=true:=hm
  refine zjj (c:=45) (l:=(Yv s).2.1) ?_
  dsimp only
  intro K2 ar
  have step:∀low e,low=Q2 s->e=zjg s->K2 (bl e) (s.head?==some 45) low (bl []) (bl []) (bl []):=by
   intro low e ap am
   refine ar _ _ _ _ _ _ (zcc ⟨λhx=>?_,λhx=>?_⟩)
   ·refine h2 ?_ _ _ [] [] []
    unfold zgv;rw[af,<-am]
    have:J8 e=false:=by simpa using hx
    rw[this];rfl
   ·refine hK _ _ _ _ _ _ (tail e low (λ_=>⟨by rw[<-am];simpa using hx,ap,am⟩) λh=>by rw[af]at h;cases h)
  have ae:Q2 s=((Yv s).2.1.head?==some 45):=by unfold Q2;rw[af];rfl
  refine⟨λhx=>?_,λhx=>?_⟩
  ·have aa:((Yv s).2.1.head?==some 45)=false:=by simpa using hx
   rw[aa]
   refine zp5 (c:=43) ?_
   simp only[A3,if_false]
   refine step false _ (by rw[ae,aa]) ?_
   unfold zjg;rw[ae,aa];simp
  ·have aa:((Yv s).2.1.head?==some 45)=true:=by simpa using hx
   rw[aa]
   simp only[if_true]
   refine step true _ (by rw[ae,aa]) ?_
   unfold zjg;rw[ae,aa];simp
 ·have af:(Yv s).2.2=false:=hm
  have he:(Yv s).2.1=[]:=(zdl af).2
  have:=tail [] false (λh=>by rw[af]at h;cases h) λ_=>⟨rfl,rfl⟩
  show K (bl (Yv s).2.1) _ _ _ _ _
  rw[he]
  exact hK _ _ _ _ _ _ this
theorem z98{α β γ δ:Type}{B:α->β->γ->δ->Prop}{c:Bool}{a b:α}{x:β}{y:γ}{z:δ}(h:∀e,e=(bif c then a else b)->B e x y z):∀K:α->β->γ->δ->Prop,(∀e x y z,B e x y z->K e x y z)->(c=true->K a x y z)/\(c=false->K b x y z):=
 λK hK=>⟨λhc=>hK _ _ _ _ (h _ (by subst hc;rfl)),λhc=>hK _ _ _ _ (h _ (by subst hc;rfl))⟩
theorem w64{n:Int}(h:-4611686018427387904<=n/\n<=4611686018427387904):Ab .i64 n=n:=wrap64 (by omega) (by omega)
set_option maxHeartbeats 1000000 in
theorem zfb(hs:s.length<=1152921504606846976){R:(Bool×Bt×Int)×Int->Prop}(h:R (nmB (zn s).1,(zn s).2)):PC Tp gl 25 [Arg.mk .str (bl s)] [tN,.int .i64] R:=by
 apply zgn
 refine z6l (by omega) (λaf=>?_) (λaf a b c d e=>?_)
 rotate_left
 ·refine zg0 ⟨λ_=>?_,λhx=>by cases hx⟩
  have:W6 s=none:=by unfold W6;simp[af]
  unfold zn at h
  rw[this]at h;exact h
 ·have aa:W6 s=some (zew s):=by unfold W6;simp[af]
  have az:=zji aa
  obtain⟨d1,d2,d3⟩:=zgz aa
  unfold zn at h
  rw[aa]at h
  simp only at h
  generalize zew s=x at *
  refine zg0 ⟨λhx=>(by cases hx),λ_=>?_⟩
  simp only[zj]
  rw[w64 (by omega)]
  refine⟨λhx=>?_,λhx=>?_⟩
  ·rw[if_pos (by simp at hx;omega)]at h;exact h
  ·rw[if_neg (by simp at hx;omega)]at h
   refine⟨λab=>?_,λab=>?_⟩
   ·rw[if_pos (by simp at ab;omega)]at h;exact h
   ·rw[if_neg (by simp at ab;omega)]at h
    have am:x.whole.length+x.rest.length<=1000:=by simp at hx;omega
    have aA:x.exp.all qs=true:=d3
    generalize hE:x.exp.dropWhile (· == 48)=E at *
    have ai:E.all qs=true:=by rw[<-hE];exact Ju d3
    have ay:E.length<=9:=by simp at ab;omega
    have aE:zk E<10 ^ 9:=W7 ay ai
    refine⟨λe _ _ _ p=>p.1=bl E/\p.2<=E.length/\e=(zk (E.take p.2):Int),λ_ _ _ _ p=>E.length-p.2,⟨rfl,by omega,by simp[zk]⟩,?_⟩
    rintro e b1 b2 b3 ⟨_,p⟩ ⟨rfl,hp,rfl⟩
    simp only at hp ⊢
    rw[znn,zr4]
    refine⟨λhc=>⟨hc,?_⟩,λhc=>?_⟩
    ·have Z:p<E.length:=by simpa using hc
     have hd:=z3l ai Z
     have ax:E.drop p=E[p]::E.drop (p+1):=AF Z
     rw[zjf E p Z,ax,Yq (by omega)]
     have aC:=W7 (n:=9) (l:=E.take p) (by simp;omega) (zr8 ai p)
     rw[Wy (by omega) (by omega),w64 (n:=10*_) (by omega),w64 (n:=(_:Int)-48) (by omega),w64 (by omega)]
     simp only
     refine⟨⟨trivial,by omega,?_⟩,by omega⟩
     rw[zgy Z];omega
    ·have Z:¬p<E.length:=by simpa using hc
     have ar:p=E.length:=by omega
     subst ar
     rw[Bb]
     apply z98
     intro e7 an
     refine⟨by unfold Wl;omega,?_⟩
     rw[Yt]
     refine zg0 ?_
     rw[show(⟨#[]⟩:Bt)=bl []from rfl]
     simp only[zev]
     have hD:(x.whole++x.rest).all qs=true:=by rw[D4,Xs d1,d2];rfl
     refine⟨λae=>?_,λae=>?_⟩
     ·rw[if_pos (by simpa using ae)]at h;exact h
     ·have aj:(x.whole++x.rest).dropWhile (· == 48)≠[]:=by simpa using ae
      rw[if_neg aj]at h
      have ap:=wz (x.whole++x.rest) (· == 48)
      rw[Ap]at ap
      refine zuf (by omega) ?_
      have aB:=(zce hD aj).2.1
      have au:=zjh hD aj (by rw[Ap];exact am)
      simp only[zj,show((List.dropWhile (λx=>x==48) (x.whole++x.rest)).reverse.dropWhile (λx=>x==48)).reverse=yu (x.whole++x.rest)from rfl]
      have ak:e7=if x.low then-(zk E:Int)else(zk E:Int):=by rw[an];cases x.low <;> simp;exact w64 (by omega)
      have hb:-1000000000<=e7/\e7<=1000000000:=by rw[ak];split <;> omega
      rw[w64 (n:=e7-_) (by omega),w64 (n:=e7-_+_) (by omega),w64 (by omega)]
      refine zk9 (n:=(x.neg,yu (x.whole++x.rest),e7-(x.rest.length:Int)+(((x.whole++x.rest).dropWhile (· == 48)).length:Int)-((yu (x.whole++x.rest)).length:Int))) (by simp only;omega) ?_
      rw[au]
      change R (nmB (if -1000000<=(if x.low=true then-(zk E:Int)else(zk E:Int))-(x.rest.length:Int)+(((x.whole++x.rest).dropWhile (· == 48)).length:Int)-((yu (x.whole++x.rest)).length:Int)/\(if x.low=true then-(zk E:Int)else(zk E:Int))-(x.rest.length:Int)+(((x.whole++x.rest).dropWhile (· == 48)).length:Int)-((yu (x.whole++x.rest)).length:Int)<=1000000 then((x.neg,yu (x.whole++x.rest),(if x.low=true then-(zk E:Int)else(zk E:Int))-(x.rest.length:Int)+(((x.whole++x.rest).dropWhile (· == 48)).length:Int)-((yu (x.whole++x.rest)).length:Int)),0)else((false,[],0),4)).1,_)at h
      rw[<-ak]at h
      refine⟨λah=>?_,λah=>?_⟩
      ·rw[if_neg (by simp at ah;omega)]at h;exact h
      ·rw[if_pos (by simp at ah;omega)]at h;exact h
end
section
variable {gl:Fr}
theorem zxf{a b:Bs}(h:a.length+b.length<=4611686018427387904):Wl ((bl a).size+(bl b).size):=by
 unfold Wl;rw[zj,zj];omega
theorem zp6(hg:Pow gl){n:Nm}(hn:n.2.1.length<=4611686018427387904){R:Bt->Prop}(h:R (bl (ye n))):PC Tp gl 26 [Arg.mk tN (nmB n)] [.str] R:=by
 apply zhm
 refine zk9 hn ⟨λhx=>?_,λhx=>?_⟩
 ·have:yr n=false:=by simpa using hx
  have e:ye n=[]:=by unfold ye;simp[this]
  rw[e]at h;exact h
 ·have hr:yr n=true:=by simpa using hx
  obtain⟨hl,af,ah⟩:=za0 hr
  unfold ye at h
  rw[if_pos hr]at h
  simp only[show(⟨#[]⟩:Bt)=bl []from rfl,zev]
  refine⟨λaa=>?_,λaa=>?_⟩
  ·rw[if_pos (by simpa using aa)]at h;exact h
  ·rw[if_neg (by simpa using aa)]at h
   intro K hK
   have key:∀t:Bs,t=(if n.1 then [45]else [])++n.2.1->K (bl t):=by
    intro t ht
    have ae:t.length<=1001:=by rw[ht];split <;> simp <;> omega
    rw[<-ht]at h
    refine hK _ ⟨λZ=>?_,λZ=>?_⟩
    ·rw[if_neg (by simpa using Z)]at h
     have ab:=Go.X.itoa_len n.2.2
     refine zxd hg (by omega) (by omega) ?_
     refine⟨zxf (a:=[101]) (by simp;omega),?_⟩
     rw[show(⟨#[101]⟩:Bt)=bl [101]from rfl,Yt,Yt]
     exact⟨zxf (by simp;omega),h⟩
    ·rw[if_pos (by simpa using Z),AW]at h;exact h
   refine⟨λZ=>⟨zxf (a:=[45]) (by simp;omega),?_⟩,λZ=>?_⟩
   ·rw[show(⟨#[45]⟩:Bt)=bl [45]from rfl,Yt]
    exact key _ (by rw[if_pos (by simpa using Z)])
   ·exact key _ (by rw[if_neg (by simpa using Z)];rfl)
theorem qc0(hg:Pow gl){n:Int}(h1:-9223372036854775808<=n)(h2:n<=9223372036854775807){R:Bool×Bt×Int->Prop}(h:R (nmB (zn (Lib.itoa n)).1)):PC Tp gl 110 [Arg.mk (.int .i64) n] [tN] R:=by
 apply zng
 refine zxd hg h1 h2 (zfb ?_ h)
 have:=Go.X.itoa_len n
 have Z:∀u:Nat,u<10 ^ 20->(Lib.decDigits u).length<=20:=by
  have:∀(k u:Nat),u<10 ^ (k+1)->(Lib.decDigits u).length<=k+1:=by
   intro k
   induction k with
   |zero=>intro u hu;rw[Lib.decDigits,dif_pos (by simpa using hu)];simp
   |succ k ih=>
    intro u hu
    rw[Lib.decDigits]
    split
    ·simp
    ·have:=ih (u / 10) (by rw[DV]at hu;omega)
     simp;omega
  exact this 19
 have:(Lib.itoa n).length<=21:=by
  unfold Lib.itoa
  split
  ·have:=Z n.natAbs (by omega);simp;omega
  ·have:=Z n.toNat (by omega);omega
 omega
end
section
theorem zr9{c:UInt8}{n:Int}(d:UInt8)(hn:n=(d.toNat:Int)):((c.toNat:Int) != n)=!(c==d):=by
 subst hn
 rw[AH]
 simp only[bne_iff_ne,ne_eq,Int.natCast_inj,CZ,beq_eq_false_iff_ne]
 exact⟨λh e=>h (by rw[e]),λh e=>h (D3.1 e)⟩
end
section
theorem z99{n:Int}(h1:0<=n)(h2:n<256):Ab .u8 n=n:=by
 unfold Ab
 have e:(2:Int) ^ Ao .u8=256:=by decide
 simp only[e]
 have hs:Di .u8=false:=rfl
 simp only[hs,DL,A3,if_false]
 omega
end
end Go.X
end
section
namespace Go.X
open Go Go.Lib
section
variable {a b b0 b1 b2 b3 b4 b5 b6 b7:Nat}
theorem zxg(l:Bs)(a:Nat):l.foldl (λn c=>10*n+(c.toNat-48)) a=a*10 ^ l.length+zk l:=by
 induction l generalizing a with
 |nil=>simp[zk]
 |cons c t ih=>
  simp only[List.foldl_cons,Aw,zk]
  rw[ih,ih (10*0+(c.toNat-48)),DV]
  have:(10*a+(c.toNat-48))*10 ^ t.length=a*(10 ^ t.length*10)+(c.toNat-48)*10 ^ t.length:=by
   rw[BU,Cw 10 a,Nat.mul_assoc,Cw 10 (10 ^ t.length)]
  rw[this];simp;omega
theorem Jv(a b:Bs):zk (a++b)=zk a*10 ^ b.length+zk b:=by
 rw[zk,List.foldl_append,zxg];rfl
theorem znp(n:Nat):zk (D7 n 48)=0:=by
 induction n with
 |zero=>rfl
 |succ n ih=>rw[List.replicate_succ];exact ih
theorem znq:∀(l:Bs) (acc:Nat),l.all qs=true->acc*10 ^ l.length+zk l<10 ^ 19->parseUintM (2 ^ 64-1) acc l=.ok (acc*10 ^ l.length+zk l)
 |[],acc,_,_=>by simp[parseUintM,zk]
 |c::t,acc,hd,hl=>by
  rw[C6,AY]at hd
  have hc:48<=c.toNat/\c.toNat<=57:=by simpa[qs]using hd.1
  have e:zk (c::t)=(c.toNat-48)*10 ^ t.length+zk t:=by
   have:=Jv [c] t
   rw[Dz]at this
   rw[this];simp[zk]
  have e2:(acc*10+(c.toNat-48))*10 ^ t.length+zk t=acc*10 ^ (c::t).length+zk (c::t):=by
   rw[e,Aw,DV,BU,Nat.mul_assoc,Cw 10 (10 ^ t.length)];omega
  have hp:1<=10 ^ t.length:=Nat.one_le_pow _ _ (by decide)
  have hb:acc*10+(c.toNat-48)<=acc*10 ^ (c::t).length+zk (c::t):=by
   rw[<-e2]
   calc acc*10+(c.toNat-48)=(acc*10+(c.toNat-48))*1:=by omega
    _<=(acc*10+(c.toNat-48))*10 ^ t.length:=Nat.mul_le_mul_left _ hp
    _<=_:=by omega
  rw[parseUintM,if_pos hc,if_neg (by omega),if_neg (by omega),znq t _ hd.2 (by rw[e2];exact hl),e2]
def Yw(n:Nm):Bs:=n.2.1++D7 n.2.2.toNat 48
theorem zug(n:Nm):zk (Yw n)=zk n.2.1*10 ^ n.2.2.toNat:=by
 rw[Yw,Jv,znp,List.length_replicate,Cu]
theorem zp7{n:Nm}(h:yr n=true):n.2.1.all qs=true:=by
 unfold yr W5 at h
 rcases BN _ _ ▸ h with h|h
 ·simp at h;rw[h.2.1];rfl
 ·simp only[AY]at h;exact Xs h.1.1.1.1.1
theorem zuh{n:Nm}(h:yr n=true):(Yw n).all qs=true:=by
 rw[Yw,D4,zp7 h,Cd,AX]
 intro x hx
 rw[List.mem_replicate]at hx
 rw[hx.2];rfl
theorem zxh{l:Bs}(neg:Bool)(hd:l.all qs=true)(hl:l.length<=19)(Z:l≠[]):
  parseIntB 64 ((if neg then [45]else [])++l)=if neg then(if zk l<=9223372036854775808 then .ok (-(zk l:Int))else .range)else(if zk l<=9223372036854775807 then .ok (zk l:Int)else .range):=by
 have hv:zk l<10 ^ 19:=W7 hl hd
 have hp:=znq l 0 hd (by rw[Db];omega)
 rw[Db,Ay]at hp
 cases neg with
 |true=>
  simp only[if_true,Dz]
  unfold parseIntB
  simp only[show(45:UInt8).toNat=45 from rfl,or_true,if_true]
  unfold parseUintB
  rw[if_neg Z,hp]
  simp only[not_true_eq_false,false_and,if_false,true_and]
  split
  ·rename_i h;rw[if_neg (by omega)]
  ·rename_i h;rw[if_pos (by omega)]
 |false=>
  simp only[A3,if_false,Bc]
  obtain⟨c,t,rfl⟩:=A6 Z
  have hc:48<=c.toNat/\c.toNat<=57:=by
   rw[C6,AY]at hd
   simpa[qs]using hd.1
  unfold parseIntB
  simp only
  rw[if_neg (by omega)]
  unfold parseUintB
  rw[if_neg (by simp),hp]
  have aa:¬c.toNat=45:=by omega
  simp only[aa,not_false_eq_true,true_and,false_and,if_false]
  split
  ·rename_i h;rw[if_neg (by omega)]
  ·rename_i h;rw[if_pos (by omega)]
theorem zxi(ha:a<18446744073709551616)(hb:b<18446744073709551616):Ab .u64 (((Ar (Ao .u64) (a:Int)) ||| (Ar (Ao .u64) (b:Int))).toNat:Int)=((a ||| b:Nat):Int):=by
 have Z:Ao .u64=64:=rfl
 have e:((Ar (Ao .u64) (a:Int)) ||| (Ar (Ao .u64) (b:Int))).toNat=a ||| b:=by
  rw[BitVec.toNat_or,DN,DN,D5,D5,Z,DW (by omega),DW (by omega)]
 rw[e]
 have aa:a ||| b<2 ^ 64:=DF (by omega) (by omega)
 unfold Ab
 have e1:(2:Int) ^ Ao .u64=18446744073709551616:=by decide
 simp only[e1]
 have hs:Di .u64=false:=rfl
 simp only[hs,DL,A3,if_false]
 omega
theorem z6m(ha:a<18446744073709551616)(hb:b<18446744073709551616):Ab .u64 (((Ar (Ao .u64) (a:Int)) &&& (Ar (Ao .u64) (b:Int))).toNat:Int)=((a &&& b:Nat):Int):=by
 have Z:Ao .u64=64:=rfl
 have e:((Ar (Ao .u64) (a:Int)) &&& (Ar (Ao .u64) (b:Int))).toNat=a &&& b:=by
  rw[BitVec.toNat_and,DN,DN,D5,D5,Z,DW (by omega),DW (by omega)]
 rw[e]
 have aa:a &&& b<2 ^ 64:=Nat.and_lt_two_pow _ (by omega)
 unfold Ab
 have e1:(2:Int) ^ Ao .u64=18446744073709551616:=by decide
 simp only[e1]
 have hs:Di .u64=false:=rfl
 simp only[hs,DL,A3,if_false]
 omega
theorem z6n{n:Int}(h1:0<=n)(h2:n<18446744073709551616):Ab .u64 n=n:=by
 unfold Ab
 have e1:(2:Int) ^ Ao .u64=18446744073709551616:=by decide
 simp only[e1]
 have hs:Di .u64=false:=rfl
 simp only[hs,DL,A3,if_false]
 omega
theorem W8{n:Nat}(h:n<256):n.testBit 7=false↔n<128:=by
 rw[Nat.testBit_eq_decide_div_mod_eq]
 simp;omega
def MASK:Nat:=9259542123273814144
theorem z05:∀i,i<8->MASK.testBit (8*i+7)=true:=by decide
theorem z06{w:Nat}(h:w &&& MASK=0):∀i,i<8->w.testBit (8*i+7)=false:=by
 intro i hi
 have:=congrArg (λx=>x.testBit (8*i+7)) h
 simp only[Nat.testBit_and,z05 i hi,C7,Nat.zero_testBit]at this
 exact this
def zxj(b0 b1 b2 b3 b4 b5 b6 b7:Nat):Nat:=((((((b0 ||| b1*2 ^ 8) ||| b2*2 ^ 16) ||| b3*2 ^ 24) ||| b4*2 ^ 32) ||| b5*2 ^ 40) ||| b6*2 ^ 48) ||| b7*2 ^ 56
theorem qaa(b k j:Nat):(b*2 ^ k).testBit j=(decide (k<=j)&&b.testBit (j-k)):=by
 rw[Nat.testBit_mul_two_pow]
theorem zui{j:Nat}:(zxj b0 b1 b2 b3 b4 b5 b6 b7).testBit j=(b0.testBit j||(decide (8<=j)&&b1.testBit (j-8))||(decide (16<=j)&&b2.testBit (j-16))||(decide (24<=j)&&b3.testBit (j-24))||(decide (32<=j)&&b4.testBit (j-32))||(decide (40<=j)&&b5.testBit (j-40))||(decide (48<=j)&&b6.testBit (j-48))||(decide (56<=j)&&b7.testBit (j-56))):=by
 unfold zxj
 simp only[Nat.testBit_or,qaa]
theorem zp8(h:∀i,i<8->(zxj b0 b1 b2 b3 b4 b5 b6 b7).testBit (8*i+7)=false)(r0:b0<256)(r1:b1<256)(r2:b2<256)(r3:b3<256)(r4:b4<256)(r5:b5<256)(r6:b6<256)(r7:b7<256):
  b0<128/\b1<128/\b2<128/\b3<128/\b4<128/\b5<128/\b6<128/\b7<128:=by
 have h0:=h 0 (by decide);have h1:=h 1 (by decide);have h2:=h 2 (by decide);have h3:=h 3 (by decide)
 have h4:=h 4 (by decide);have h5:=h 5 (by decide);have h6:=h 6 (by decide);have h7:=h 7 (by decide)
 rw[zui]at h0 h1 h2 h3 h4 h5 h6 h7
 simp only[BZ,CJ]at h0 h1 h2 h3 h4 h5 h6 h7
 refine⟨(W8 r0).1 ?_,(W8 r1).1 ?_,(W8 r2).1 ?_,(W8 r3).1 ?_,(W8 r4).1 ?_,(W8 r5).1 ?_,(W8 r6).1 ?_,(W8 r7).1 ?_⟩
 ·exact h0.1.1.1.1.1.1.1
 ·rcases h1.1.1.1.1.1.1.2 with h|h
  ·simp at h
  ·simpa using h
 ·rcases h2.1.1.1.1.1.2 with h|h
  ·simp at h
  ·simpa using h
 ·rcases h3.1.1.1.1.2 with h|h
  ·simp at h
  ·simpa using h
 ·rcases h4.1.1.1.2 with h|h
  ·simp at h
  ·simpa using h
 ·rcases h5.1.1.2 with h|h
  ·simp at h
  ·simpa using h
 ·rcases h6.1.2 with h|h
  ·simp at h
  ·simpa using h
 ·rcases h7.2 with h|h
  ·simp at h
  ·simpa using h
theorem zek{l:Bs}:∀{n:Nat},n<=l.length->(∀i (hi:i<l.length),i<n->l[i].toNat<128)->wo l=wo (l.drop n)
 |0,_,_=>by simp
 |n+1,hn,h=>by
  rw[zek (n:=n) (by omega) (λi hi Z=>h i hi (by omega))]
  rw[AF (show n<l.length by omega),zje (h n (by omega) (by omega))]
end
end Go.X
end
section
namespace Go.X
section
variable {gl:Fr} {l:Bs}
def bN(l:Bs)(i:Nat):Nat:=(l[i]?.getD 0).toNat
theorem Yx(l:Bs)(i:Nat):bN l i<256:=(l[i]?.getD 0).toNat_lt
theorem zsa(l:Bs)(i:Nat):zb (bl l) i=((bN l i:Nat):Int):=jk l i
def Zn(l:Bs):Nat:=zxj (bN l 0) (bN l 1) (bN l 2) (bN l 3) (bN l 4) (bN l 5) (bN l 6) (bN l 7)
theorem yp(l:Bs):Zn l<18446744073709551616:=by
 have h:=Yx l
 have o:∀a b:Nat,a<2 ^ 64->b<2 ^ 64->a ||| b<2 ^ 64:=λa b ha hb=>DF ha hb
 show _<2 ^ 64
 unfold Zn zxj
 refine o _ _ (o _ _ (o _ _ (o _ _ (o _ _ (o _ _ (o _ _ ?_ ?_) ?_) ?_) ?_) ?_) ?_) ?_
 ·have:=h 0;omega
 ·have:=h 1;omega
 ·have:=h 2;omega
 ·have:=h 3;omega
 ·have:=h 4;omega
 ·have:=h 5;omega
 ·have:=h 6;omega
 ·have:=h 7;omega
theorem za1(a k:Nat)(c:Int)(hc:c=((2 ^ k:Nat):Int)):(a:Int)*c=((a*2 ^ k:Nat):Int):=by rw[hc];omega
theorem za2(hl:8<=l.length){R:Int->Prop}(h:R (Zn l:Int)):PC Tp gl 217 [Arg.mk .str (bl l)] [.int .u64] R:=by
 apply Qg
 refine⟨λhx=>(by cases hx),λ_=>?_⟩
 simp only[zj,zsa,show(0:Int).toNat=0 from rfl,show(1:Int).toNat=1 from rfl,show(2:Int).toNat=2 from rfl,show(3:Int).toNat=3 from rfl,show(4:Int).toNat=4 from rfl,show(5:Int).toNat=5 from rfl,show(6:Int).toNat=6 from rfl,show(7:Int).toNat=7 from rfl]
 refine⟨by omega,by omega,by omega,by omega,by omega,by omega,by omega,by omega,?_⟩
 have r:=Yx l
 have r0:=r 0;have r1:=r 1;have r2:=r 2;have r3:=r 3;have r4:=r 4;have r5:=r 5;have r6:=r 6;have r7:=r 7
 have m1:=za1 (bN l 1) 8 (2 ^ 8) (by decide);have m2:=za1 (bN l 2) 16 (2 ^ 16) (by decide);have m3:=za1 (bN l 3) 24 (2 ^ 24) (by decide);have m4:=za1 (bN l 4) 32 (2 ^ 32) (by decide)
 have m5:=za1 (bN l 5) 40 (2 ^ 40) (by decide);have m6:=za1 (bN l 6) 48 (2 ^ 48) (by decide);have m7:=za1 (bN l 7) 56 (2 ^ 56) (by decide)
 have o:∀a b:Nat,a<18446744073709551616->b<18446744073709551616->a ||| b<18446744073709551616:=λa b ha hb=>DF (n:=64) ha hb
 have w:∀n:Nat,n<18446744073709551616->Ab .u64 (n:Int)=(n:Int):=λn hn=>z6n (by omega) (by omega)
 rw[w (bN l 0) (by omega),w (bN l 1) (by omega),w (bN l 2) (by omega),w (bN l 3) (by omega),w (bN l 4) (by omega),w (bN l 5) (by omega),w (bN l 6) (by omega),w (bN l 7) (by omega),m1,m2,m3,m4,m5,m6,m7]
 rw[w (bN l 1*2 ^ 8) (by omega),w (bN l 2*2 ^ 16) (by omega),w (bN l 3*2 ^ 24) (by omega),w (bN l 4*2 ^ 32) (by omega),w (bN l 5*2 ^ 40) (by omega),w (bN l 6*2 ^ 48) (by omega),w (bN l 7*2 ^ 56) (by omega)]
 have q1:bN l 0 ||| bN l 1*2 ^ 8<18446744073709551616:=o _ _ (by omega) (by omega)
 have q2:=o _ (bN l 2*2 ^ 16) q1 (by omega)
 have q3:=o _ (bN l 3*2 ^ 24) q2 (by omega)
 have q4:=o _ (bN l 4*2 ^ 32) q3 (by omega)
 have q5:=o _ (bN l 5*2 ^ 40) q4 (by omega)
 have q6:=o _ (bN l 6*2 ^ 48) q5 (by omega)
 rw[zxi (by omega) (by omega),zxi q1 (by omega),zxi q2 (by omega),zxi q3 (by omega),zxi q4 (by omega),zxi q5 (by omega),zxi q6 (by omega)]
 exact h
theorem xw(hl:8<=l.length)(h:Zn l &&& MASK=0):wo l=wo (l.drop 8):=by
 have hs:=zp8 (z06 h) (Yx l 0) (Yx l 1) (Yx l 2) (Yx l 3) (Yx l 4) (Yx l 5) (Yx l 6) (Yx l 7)
 refine zek hl λi hi aa=>?_
 have e:∀j (hj:j<l.length),bN l j=l[j].toNat:=λj hj=>by unfold bN;rw[zr5 hj]
 obtain⟨s0,s1,s2,s3,s4,s5,s6,s7⟩:=hs
 have Z:i=0\/i=1\/i=2\/i=3\/i=4\/i=5\/i=6\/i=7:=by omega
 rw[<-e i hi]
 rcases Z with rfl|rfl|rfl|rfl|rfl|rfl|rfl|rfl <;> assumption
theorem zla{a b:Nat}(h:(a ||| b) &&& MASK=0):a &&& MASK=0/\b &&& MASK=0:=by
 have key:∀x y:Nat,x ||| y=0->x=0:=by
  intro x y Z
  apply Nat.eq_of_testBit_eq
  intro i
  have:=congrArg (λz=>z.testBit i) Z
  simp only[Nat.testBit_or,Nat.zero_testBit,BZ]at this
  rw[this.1,Nat.zero_testBit]
 have e:(a ||| b) &&& MASK=(a &&& MASK) ||| (b &&& MASK):=by
  apply Nat.eq_of_testBit_eq
  intro i
  simp only[Nat.testBit_and,Nat.testBit_or,Bool.and_or_distrib_right]
 rw[e]at h
 exact⟨key _ _ h,key _ _ (by rw[Nat.or_comm];exact h)⟩
theorem znr{n:Int}{k:Nat}(hn:n=(k:Int)):(bl l).extract n.toNat ((l.length:Int)).toNat=bl (l.drop k):=by
 subst hn
 rw[Ah,Ah,xu,Co (by simp)]
theorem Tabs.first(h:Tabs gl){c:Nat}(hc:c<256):zf5 gl 0 (0+c*1) (.int .u8 (Lib.firstT c)):=by
 obtain⟨⟨cs,a,b⟩,_⟩:=h
 exact⟨cs,a,by rw[Ay,Dc];exact b c hc⟩
theorem Tabs.acc(h:Tabs gl){i:Nat}(hi:i<16):zf5 gl 1 (0+i*2) (.int .u8 (Lib.accLo i))/\zf5 gl 1 (0+i*2+1) (.int .u8 (Lib.accHi i)):=by
 obtain⟨_,cs,a,b⟩:=h
 exact⟨⟨cs,a,by rw[Ay,Cw];exact(b i hi).1⟩,⟨cs,a,by rw[Ay,Cw];exact(b i hi).2⟩⟩
end
section
variable {m:Bs} {n b0 b1 b2 b3 lo hi:Nat}
theorem zsb(h:m≠[]):dec m=Lib.decodeN m.length (bN m 0) (bN m 1) (bN m 2) (bN m 3):=by
 simp only[dec,bN,Cz]
theorem ok0(h:m≠[])(hb:128<=bN m 0/\bN m 0<194\/245<=bN m 0/\bN m 0<256):wo m=false:=by
 rw[Zd h,zsb h,qd7 hb];rfl
theorem ok2(h:m≠[])(hb:194<=bN m 0/\bN m 0<224):wo m=(decide (2<=m.length/\128<=bN m 1/\bN m 1<=191)&&wo (m.drop 2)):=by
 rw[Zd h,zsb h,qd8 hb (Yx m 1)]
 by_cases hc:2<=m.length/\128<=bN m 1/\bN m 1<=191
 ·rw[if_pos hc];simp[zej,hc]
 ·rw[if_neg hc];simp[zej,hc]
theorem z3n{α:Type}{p q:Prop}[Decidable p][Decidable q]{a b:α}(h:p↔q):(if p then a else b)=if q then a else b:=by
 by_cases hp:p
 ·rw[if_pos hp,if_pos (h.1 hp)]
 ·rw[if_neg hp,if_neg (λhq=>hp (h.2 hq))]
theorem qc1(h:224<=b0/\b0<240)(h1:b1<256)(h2:b2<256)(Z:lo=if b0=224 then 160 else 128)(aa:hi=if b0=237 then 159 else 191):Lib.decodeN n b0 b1 b2 b3=
  if 3<=n/\(lo<=b1/\b1<=hi)/\128<=b2/\b2<=191 then(((b0-224)*64+(b1-128))*64+(b2-128),3)else(65533,1):=by
 rw[qd9 h h1 h2]
 refine z3n ?_
 split at Z <;> split at aa <;> omega
theorem qc2(h:240<=b0/\b0<245)(h1:b1<256)(h2:b2<256)(h3:b3<256)(Z:lo=if b0=240 then 144 else 128)(aa:hi=if b0=244 then 143 else 191):Lib.decodeN n b0 b1 b2 b3=
  if 4<=n/\(lo<=b1/\b1<=hi)/\(128<=b2/\b2<=191)/\128<=b3/\b3<=191 then((((b0-240)*64+(b1-128))*64+(b2-128))*64+(b3-128),4)else(65533,1):=by
 rw[qea h h1 h2 h3]
 refine z3n ?_
 split at Z <;> split at aa <;> omega
theorem ok3(h:m≠[])(hb:224<=bN m 0/\bN m 0<240)(Z:lo=if bN m 0=224 then 160 else 128)(aa:hi=if bN m 0=237 then 159 else 191):
  wo m=(decide (3<=m.length/\(lo<=bN m 1/\bN m 1<=hi)/\128<=bN m 2/\bN m 2<=191)&&wo (m.drop 3)):=by
 rw[Zd h,zsb h,qc1 hb (Yx m 1) (Yx m 2) Z aa]
 by_cases hc:3<=m.length/\(lo<=bN m 1/\bN m 1<=hi)/\128<=bN m 2/\bN m 2<=191
 ·rw[if_pos hc];simp[zej,hc]
 ·rw[if_neg hc];simp[zej,hc]
theorem ok4(h:m≠[])(hb:240<=bN m 0/\bN m 0<245)(Z:lo=if bN m 0=240 then 144 else 128)(aa:hi=if bN m 0=244 then 143 else 191):
  wo m=(decide (4<=m.length/\(lo<=bN m 1/\bN m 1<=hi)/\(128<=bN m 2/\bN m 2<=191)/\128<=bN m 3/\bN m 3<=191)&&wo (m.drop 4)):=by
 rw[Zd h,zsb h,qc2 hb (Yx m 1) (Yx m 2) (Yx m 3) Z aa]
 by_cases hc:4<=m.length/\(lo<=bN m 1/\bN m 1<=hi)/\(128<=bN m 2/\bN m 2<=191)/\128<=bN m 3/\bN m 3<=191
 ·rw[if_pos hc];simp[zej,hc]
 ·rw[if_neg hc];simp[zej,hc]
set_option maxHeartbeats 2000000 in
theorem zh0{gl:Fr}(hg:Tabs gl){l:Bs}(hl:l.length<=4611686018427387904){R:Bool->Prop}(h:R (wo l)):PC Tp gl 150 [Arg.mk .str (bl l)] [.bool] R:=by
 apply Qf
 refine⟨λs=>∃m:Bs,s=bl m/\wo m=wo l/\m.length<=l.length,λs=>s.size,⟨l,rfl,rfl,Ad _⟩,?_⟩
 rintro s ⟨m,rfl,hm,aL⟩
 simp only[zj,zsa,show(0:Int).toNat=0 from rfl,znr (l:=m) (n:=1) (k:=1) rfl,znr (l:=m) (n:=2) (k:=2) rfl,znr (l:=m) (n:=3) (k:=3) rfl,znr (l:=m) (n:=4) (k:=4) rfl]
 refine⟨λhc=>?_,λhc=>?_⟩
 rotate_left
 ·have:m=[]:=by
   have:¬(m.length:Int)>0:=by simpa using hc
   exact AJ (by omega)
  subst this
  rw[Q1]at hm
  rw[<-hm]at h;exact h
 have hp:0<m.length:=by simp at hc;omega
 have Z:m≠[]:=Bn.1 hp
 refine⟨by omega,λha=>⟨by omega,?_⟩,λha=>?_⟩
 ·have hb:bN m 0<128:=by simp at ha;omega
  obtain⟨c,t,rfl⟩:=A6 Z
  simp only[List.drop_one,List.tail_cons]
  have ay:wo t=wo l:=by rw[<-hm];exact(zje hb).symm
  simp only[Aw]at aL ⊢
  simp only[znr (l:=t) (n:=8) (k:=8) rfl,zj]
  refine⟨λr=>r=(Zn t:Int),λhq=>za2 (by simp at hq;omega) rfl,λr hr=>⟨λhx=>?_,λhx=>⟨⟨t,rfl,ay,by omega⟩,by omega⟩⟩⟩
  have h8:8<t.length:=by
   cases hd:decide ((t.length:Int)>8)with
   |true=>simp at hd;omega
   |false=>rw[hd]at hx;cases hx
  have ak:decide ((t.length:Int)>8)=true:=by simp;omega
  have aJ:=hr ak
  rw[ak,cond_true,aJ,show(9259542123273814144:Int)=((MASK:Nat):Int)from rfl,z6m (yp t) (by decide)]at hx
  have hz:Zn t &&& MASK=0:=by
   have:((Zn t &&& MASK:Nat):Int)=0:=by simpa using hx
   omega
  have au:wo (t.drop 8)=wo l:=by rw[<-ay,xw (by omega) hz]
  have aT:(t.drop 8).length+8=t.length:=by simp;omega
  generalize t.drop 8=u at *
  simp only[znr (l:=u) (n:=8) (k:=8) rfl,znr (l:=u) (n:=16) (k:=16) rfl]
  refine⟨by omega,λhq=>by simp at hq;omega,λr=>r=(Zn u:Int),λhq=>za2 (by simp at hq;omega) rfl,λaY am=>⟨λr=>r=(Zn (u.drop 8):Int),λhq=>za2 (by simp at hq ⊢;omega) rfl,λaO ar=>⟨λaf=>?_,λaf=>⟨⟨u,rfl,au,by omega⟩,by omega⟩⟩⟩⟩
  have aS:16<u.length:=by
   cases hd:decide ((u.length:Int)>16)with
   |true=>simp at hd;omega
   |false=>rw[hd]at af;cases af
  have ae:decide ((u.length:Int)>16)=true:=by simp;omega
  rw[ae,cond_true,am ae,ar ae,zxi (yp _) (yp _),show(9259542123273814144:Int)=((MASK:Nat):Int)from rfl,z6m (DF (n:=64) (yp _) (yp _)) (by decide)]at af
  have aC:(Zn u ||| Zn (u.drop 8)) &&& MASK=0:=by
   have:(((Zn u ||| Zn (u.drop 8)) &&& MASK:Nat):Int)=0:=by simpa using af
   omega
  obtain⟨z1,z2⟩:=zla aC
  have aF:wo (u.drop 16)=wo l:=by
   rw[<-au,xw (by omega) z1,xw (l:=u.drop 8) (by simp;omega) z2,BR]
  refine⟨by omega,λs=>∃m':Bs,s=bl m'/\wo m'=wo l/\m'.length<(c::t).length,λs=>s.size,⟨u.drop 16,rfl,aF,by simp;omega⟩,?_⟩
  rintro s ⟨v,rfl,hv,aI⟩
  simp only[Aw]at aI
  simp only[zj,znr (l:=v) (n:=8) (k:=8) rfl,znr (l:=v) (n:=16) (k:=16) rfl,znr (l:=v) (n:=24) (k:=24) rfl,znr (l:=v) (n:=32) (k:=32) rfl]
  refine⟨λhq=>by simp at hq;omega,λhq=>by simp at hq;omega,λhq=>by simp at hq;omega,λr=>r=(Zn v:Int),λhq=>za2 (by simp at hq;omega) rfl,λaU ax=>⟨λr=>r=(Zn (v.drop 8):Int),λhq=>za2 (by simp at hq ⊢;omega) rfl,λaQ aj=>
   ⟨λr=>r=(Zn (v.drop 16):Int),λhq=>za2 (by simp at hq ⊢;omega) rfl,λaP ap=>⟨λr=>r=(Zn (v.drop 24):Int),λhq=>za2 (by simp at hq ⊢;omega) rfl,λaZ an=>⟨λaa=>?_,λaa=>⟨⟨v,rfl,hv,by omega⟩,by omega⟩⟩⟩⟩⟩⟩
  have aV:32<v.length:=by
   cases hd:decide ((v.length:Int)>32)with
   |true=>simp at hd;omega
   |false=>rw[hd]at aa;cases aa
  have ab:decide ((v.length:Int)>32)=true:=by simp;omega
  have o2:∀a b:Nat,a<18446744073709551616->b<18446744073709551616->a ||| b<18446744073709551616:=λa b ha hb=>DF (n:=64) ha hb
  rw[ab,cond_true,ax ab,aj ab,ap ab,an ab,zxi (yp _) (yp _),zxi (yp _) (yp _),zxi (o2 _ _ (yp _) (yp _)) (o2 _ _ (yp _) (yp _)),show(9259542123273814144:Int)=((MASK:Nat):Int)from rfl,
   z6m (o2 _ _ (o2 _ _ (yp _) (yp _)) (o2 _ _ (yp _) (yp _))) (by decide)]at aa
  have aB:((Zn v ||| Zn (v.drop 8)) ||| (Zn (v.drop 16) ||| Zn (v.drop 24))) &&& MASK=0:=by
   have:((((Zn v ||| Zn (v.drop 8)) ||| (Zn (v.drop 16) ||| Zn (v.drop 24))) &&& MASK:Nat):Int)=0:=by simpa using aa
   omega
  obtain⟨y1,y2⟩:=zla aB
  obtain⟨x1,x2⟩:=zla y1
  obtain⟨x3,x4⟩:=zla y2
  refine⟨by omega,⟨v.drop 32,rfl,?_,by simp;omega⟩,by simp;omega⟩
  rw[<-hv,xw (by omega) x1,xw (l:=v.drop 8) (by simp;omega) x2,BR,xw (l:=v.drop (8+8)) (by simp;omega) x3,BR,xw (l:=v.drop (8+8+8)) (by simp;omega) x4,BR]
 ·have hb:128<=bN m 0:=by simp at ha;omega
  have az:=Yx m 0
  have hX:=Lib.firstT_cases (bN m 0)
  have aN:=Yx m 1;have a1:=Yx m 2;have aM:=Yx m 3
  refine⟨by omega,(Lib.firstT (bN m 0):Int),by simpa using hg.first az,?_⟩
  obtain⟨i,lo,hi,k,e2,e3,e4,e5,e6,k1,k2,k3,k4,hk⟩:∃i lo hi k:Nat,((Lib.firstT (bN m 0):Int).fdiv (2 ^ 4))=(i:Int)/\i<16/\Lib.accLo i=lo/\Lib.accHi i=hi /\
    (Ab .i64 (Ab .u8 (((Ar (Ao .u8) (Lib.firstT (bN m 0):Int)) &&& (Ar (Ao .u8) 7)).toNat:Int)):Int)=(k:Int) /\
    (k=1->wo m=false)/\(k=2->wo m=(decide (2<=m.length/\lo<=bN m 1/\bN m 1<=hi)&&wo (m.drop 2))) /\
    (k=3->wo m=(decide (3<=m.length/\(lo<=bN m 1/\bN m 1<=hi)/\128<=bN m 2/\bN m 2<=191)&&wo (m.drop 3))) /\
    (k=4->wo m=(decide (4<=m.length/\(lo<=bN m 1/\bN m 1<=hi)/\(128<=bN m 2/\bN m 2<=191)/\128<=bN m 3/\bN m 3<=191)&&wo (m.drop 4)))/\(k=1\/k=2\/k=3\/k=4):=by
   have aH:∀v,Lib.firstT (bN m 0)=v->(v=241->(128<=bN m 0/\bN m 0<194)\/(245<=bN m 0/\bN m 0<256))/\(v=2->194<=bN m 0/\bN m 0<224)/\(v=19->bN m 0=224)/\(v=3->(225<=bN m 0/\bN m 0<240/\bN m 0≠237))/\(v=35->bN m 0=237)/\(v=52->bN m 0=240)/\(v=4->241<=bN m 0/\bN m 0<244)/\(v=68->bN m 0=244)/\v≠240:=by
    intro v hv
    unfold Lib.firstT at hv
    repeat' split at hv
    all_goals omega
   have cl:=aH _ rfl
   rcases hX with hX|hX|hX|hX|hX|hX|hX|hX|hX
   ·exact absurd hX cl.2.2.2.2.2.2.2.2
   ·exact⟨15,0,0,1,by rw[hX];decide,(by decide),rfl,rfl,by rw[hX];decide,(λ_=>ok0 Z (cl.1 hX)),(λe=>by omega),(λe=>by omega),(λe=>by omega),(by omega)⟩
   ·exact⟨0,128,191,2,by rw[hX];decide,(by decide),rfl,rfl,by rw[hX];decide,(λe=>by omega),(λ_=>ok2 Z (cl.2.1 hX)),(λe=>by omega),(λe=>by omega),(by omega)⟩
   ·have c:=cl.2.2.1 hX
    exact⟨1,160,191,3,by rw[hX];decide,(by decide),rfl,rfl,by rw[hX];decide,(λe=>by omega),(λe=>by omega),(λ_=>ok3 Z (by omega) (by rw[if_pos c]) (by rw[if_neg (by omega)])),(λe=>by omega),(by omega)⟩
   ·have c:=cl.2.2.2.1 hX
    exact⟨0,128,191,3,by rw[hX];decide,(by decide),rfl,rfl,by rw[hX];decide,(λe=>by omega),(λe=>by omega),(λ_=>ok3 Z (by omega) (by rw[if_neg (by omega)]) (by rw[if_neg (by omega)])),(λe=>by omega),(by omega)⟩
   ·have c:=cl.2.2.2.2.1 hX
    exact⟨2,128,159,3,by rw[hX];decide,(by decide),rfl,rfl,by rw[hX];decide,(λe=>by omega),(λe=>by omega),(λ_=>ok3 Z (by omega) (by rw[if_neg (by omega)]) (by rw[if_pos c])),(λe=>by omega),(by omega)⟩
   ·have c:=cl.2.2.2.2.2.1 hX
    exact⟨3,144,191,4,by rw[hX];decide,(by decide),rfl,rfl,by rw[hX];decide,(λe=>by omega),(λe=>by omega),(λe=>by omega),(λ_=>ok4 Z (by omega) (by rw[if_pos c]) (by rw[if_neg (by omega)])),(by omega)⟩
   ·have c:=cl.2.2.2.2.2.2.1 hX
    exact⟨0,128,191,4,by rw[hX];decide,(by decide),rfl,rfl,by rw[hX];decide,(λe=>by omega),(λe=>by omega),(λe=>by omega),(λ_=>ok4 Z (by omega) (by rw[if_neg (by omega)]) (by rw[if_neg (by omega)])),(by omega)⟩
   ·have c:=cl.2.2.2.2.2.2.2.1 hX
    exact⟨4,128,143,4,by rw[hX];decide,(by decide),rfl,rfl,by rw[hX];decide,(λe=>by omega),(λe=>by omega),(λe=>by omega),(λ_=>ok4 Z (by omega) (by rw[if_neg (by omega)]) (by rw[if_pos c])),(by omega)⟩
  generalize Lib.firstT (bN m 0)=x at *
  rw[e2,e6]
  have ac:=hg.acc e3
  rw[e4,e5]at ac
  simp only[show(1:Int).toNat=1 from rfl,show(2:Int).toNat=2 from rfl,show(3:Int).toNat=3 from rfl]
  have ah:wo m=false->R false:=λe=>by rw[<-hm,e]at h;exact h
  refine⟨by omega,(lo:Int),by simpa using ac.1,(hi:Int),by simpa using ac.2,?_,?_⟩
  ·intro hx
   have aG:k=2:=by simp at hx;omega
   have q:=k2 aG
   refine⟨λhy=>by simp at hy;omega,λhy=>by simp at hy;omega,λhy=>ah ?_,λhy=>?_⟩
   ·simp only[Ce,BN,decide_eq_true_eq]at hy
    rw[q,decide_eq_false (by omega)];rfl
   ·simp only[Ce,BZ,decide_eq_false_iff_not]at hy
    refine⟨by omega,⟨m.drop 2,rfl,?_,by simp;omega⟩,by simp;omega⟩
    rw[<-hm,q,decide_eq_true (by omega)];simp
  ·intro hx
   refine⟨λaa=>?_,λaa=>⟨λai=>?_,λai=>?_⟩⟩
   ·have aA:k=3:=by simp at aa;omega
    have q:=k3 aA
    refine⟨λhy=>by simp at hy;omega,λhy=>by simp at hy;omega,λhy=>by simp at hy;omega,λhy=>by simp at hy;omega,λhy=>ah ?_,λhy=>?_⟩
    ·simp only[Ce,BN,decide_eq_true_eq]at hy
     rw[q,decide_eq_false (by omega)];rfl
    ·simp only[Ce,BZ,decide_eq_false_iff_not]at hy
     refine⟨by omega,⟨m.drop 3,rfl,?_,by simp;omega⟩,by simp;omega⟩
     rw[<-hm,q,decide_eq_true (by omega)];simp
   ·have aE:k=4:=by simp at ai;omega
    have q:=k4 aE
    refine⟨λhy=>by simp at hy;omega,λhy=>by simp at hy;omega,λhy=>by simp at hy;omega,λhy=>by simp at hy;omega,λhy=>by simp at hy;omega,λhy=>by simp at hy;omega,λhy=>ah ?_,λhy=>?_⟩
    ·simp only[Ce,BN,decide_eq_true_eq]at hy
     rw[q,decide_eq_false (by omega)];rfl
    ·simp only[Ce,BZ,decide_eq_false_iff_not]at hy
     refine⟨by omega,⟨m.drop 4,rfl,?_,by simp;omega⟩,by simp;omega⟩
     rw[<-hm,q,decide_eq_true (by omega)];simp
   ·refine ah (k1 ?_)
    simp at hx aa ai;omega
end
end Go.X
end
section
namespace Go.X
open Go Go.Lib
section
variable {v x:Tr} {l:List Tr} {k:Nat}
mutual
def tsz:Tr->Nat | .mk _ _ _ xs=>1+zcf xs
def zcf:List Tr->Nat | []=>0|x::l=>tsz x+zcf l
end
mutual
def tdp:Tr->Nat | .mk _ _ _ xs=>zdn xs+1
def zdn:List Tr->Nat | []=>0|x::l=>max (tdp x) (zdn l)
end
mutual
def zh1(p:Tr->Bool):Tr->Bool | .mk k s ks xs=>p (.mk k s ks xs)&&zdo p xs
def zdo(p:Tr->Bool):List Tr->Bool | []=>true|x::l=>zh1 p x&&zdo p l
end
mutual
def txB(m:Nat):Tr->Prop | .mk _ s ks xs=>(s.size<=m/\ks.length<=m/\∀k∈ks,k.size<=m)/\zu4 m xs
def zu4(m:Nat):List Tr->Prop | []=>True|x::l=>txB m x/\zu4 m l
end
theorem zjk(v:Tr):tsz v=1+zcf v.items:=by cases v;rw[tsz]
theorem z3o(v:Tr):tdp v=zdn v.items+1:=by cases v;rw[tdp]
theorem zdp(p:Tr->Bool)(v:Tr):zh1 p v=(p v&&zdo p v.items):=by cases v;rw[zh1]
theorem zns(m:Nat)(v:Tr):txB m v↔(v.text.size<=m/\v.keys.length<=m/\∀k∈v.keys,k.size<=m)/\zu4 m v.items:=by cases v;rw[txB]
theorem zsc{m:Nat}:∀{l:List Tr},zu4 m l↔∀x∈l,txB m x
 |[]=>by simp[zu4]
 |x::l=>by rw[zu4,zsc];simp
theorem z07{m:Nat}(h:txB m v)(hx:x∈v.items):txB m x:=zsc.1 ((zns m v).1 h).2 x hx
theorem zg1(p:Tr->Bool):∀l:List Tr,zdo p l=l.all (zh1 p)
 |[]=>rfl
 |x::l=>by rw[zdo,zg1 p l];rfl
theorem za3:∀a b:List Tr,zcf (a++b)=zcf a+zcf b
 |[],b=>by simp[zcf]
 |x::l,b=>by rw[AO,zcf,zcf,za3 l b];omega
theorem zg2:∀a b:List Tr,zdn (a++b)=max (zdn a) (zdn b)
 |[],b=>by simp[zdn]
 |x::l,b=>by rw[AO,zdn,zdn,zg2 l b];omega
theorem zsd{x:Tr}:∀{l:List Tr},x∈l->tsz x<=zcf l
 |y::l,h=>by
  rw[zcf]
  rcases Af.1 h with rfl|h
  ·omega
  ·have:=zsd h;omega
theorem Jw(h:x∈v.items):tsz x<tsz v:=by
 have:=zsd h
 rw[zjk v];omega
theorem zcg:∀l:List Tr,l.length<=zcf l
 |[]=>by simp[zcf]
 |x::l=>by
  have:=zcg l
  rw[zcf,Aw,zjk];omega
theorem zxk(v:Tr):0<tsz v:=by rw[zjk];omega
theorem zxl(hk:k<l.length):zcf (l.take (k+1))=zcf (l.take k)+tsz l[k]:=by
 rw[AD hk,za3];simp[zcf]
theorem zxm(hk:k<l.length):zdn (l.take (k+1))=max (zdn (l.take k)) (tdp l[k]):=by
 rw[AD hk,zg2];simp[zdn]
mutual
theorem qab:∀v:Tr,tdp v<=tsz v
 |.mk _ _ _ xs=>by rw[tdp,tsz];have:=zp9 xs;omega
theorem zp9:∀l:List Tr,zdn l<=zcf l
 |[]=>by simp[zdn]
 |x::l=>by rw[zdn,zcf];have:=qab x;have:=zp9 l;omega
end
def W9(ks:List Bt):Bool:=ks.all (λk=>wo (lb k))&&decide ks.Nodup
def zxn(s:Bs):Nm×Bool:=((zn s).1,(zn s).2==0&&decide (ye (zn s).1=s))
def zxo(s:Bs):Bool:=(zxn s).2&&(z03 (zxn s).1).2&&decide (0<=(z03 (zxn s).1).1)
def Zr(v:Tr):Bool:=
 if v.kind=1 then lb v.text==[]&&v.keys.isEmpty&&v.items.isEmpty
 else if v.kind=2 then(lb v.text==[116,114,117,101]||lb v.text==[102,97,108,115,101])&&v.keys.isEmpty&&v.items.isEmpty
 else if v.kind=3 then(zxn (lb v.text)).2&&v.keys.isEmpty&&v.items.isEmpty
 else if v.kind=4 then wo (lb v.text)&&v.keys.isEmpty&&v.items.isEmpty
 else if v.kind=5 then lb v.text==[]&&v.keys.isEmpty
 else if v.kind=6 then W9 v.keys&&decide (v.keys.length=v.items.length)&&lb v.text==[]
 else if v.kind=7 then zxo (lb v.text)&&v.keys.isEmpty&&v.items.isEmpty
 else false
def Xa(v:Tr):Bool:=decide (tsz v<=4096)&&decide (tdp v<=32)
def Xz(v:Tr):Bool:=Xa v&&zh1 Zr v
def z3p(v:Tr):Bool:=Xa v&&zh1 (λx=>decide (x.kind≠7)&&Zr x) v
structure Sm (v:Tr):Prop where
 sz:tsz v<=1000000000000
 tx:txB 1048576 v
theorem Sm.item(h:Sm v)(hx:x∈v.items):Sm x:=⟨by have:=Jw hx;have:=h.sz;omega,z07 h.tx hx⟩
theorem Sm.text(h:Sm v):(lb v.text).length<=1048576:=by rw[zgp];exact((zns _ v).1 h.tx).1.1
theorem Sm.key(h:Sm v){k:Bt}(hk:k∈v.keys):(lb k).length<=1048576:=by rw[zgp];exact((zns _ v).1 h.tx).1.2.2 k hk
theorem Sm.keys(h:Sm v):v.keys.length<=1048576:=((zns _ v).1 h.tx).1.2.1
theorem Sm.items(h:Sm v):v.items.length<=1000000000000:=by have:=zcg v.items;have:=h.sz;rw[zjk]at this;omega
end
end Go.X
end
section
namespace Go.X
section
variable {gl:Fr} {l:Bs} {R:Bool -> Prop}
theorem zse(hg:Tabs gl)(hl:l.length<=4611686018427387904){R:Int×Bool->Prop}(h:∀k,R (k,wo l)):PC Tp gl 80 [Arg.mk .str (bl l)] [.int .i64,.bool] R:=by
 apply zhn
 refine zh0 hg hl ⟨λhx=>?_,λhx=>?_⟩
 ·have:=h ((bl l).size:Int);rw[hx]at this;exact this
 ·refine⟨λp=>p.1=bl l/\p.2<=l.length/\wo (l.drop p.2)=false,λp=>l.length-p.2,⟨rfl,by omega,by simpa using hx⟩,?_⟩
  rintro⟨_,p⟩ ⟨rfl,hp,h2⟩
  simp only at hp h2 ⊢
  rw[znn,zr4]
  refine⟨λhc=>⟨hc,hc,λhq=>?_,λhq=>⟨?_,?_⟩⟩,λhc=>?_⟩
  ·have aa:p<l.length:=by simpa using hc
   have Z:l.drop p≠[]:=λe=>by have:=congrArg Dd e;simp at this;omega
   have hb:zej (dec (l.drop p))=false:=by
    unfold zej
    have:¬(dec (l.drop p)).1=65533:=λe=>by rw[e]at hq;simp at hq
    simp[this]
   rw[Zd Z,hb]at h2
   simp only[A3,if_false,BR]at h2
   rw[zjf l p aa]
   have hw:=Qh (l.drop p);have ab:=zw1 Z
   simp only[AC]at ab
   exact⟨⟨trivial,by omega,h2⟩,by omega⟩
  ·have aa:p<l.length:=by simpa using hc
   rw[zj];omega
  ·have aa:p<l.length:=by simpa using hc
   have Z:l.drop p≠[]:=λe=>by have:=congrArg Dd e;simp at this;omega
   rw[zj,znr (k:=p) rfl]
   refine znm hg ?_
   have af:(bl (l.drop p)).size≠0:=by rw[zj];simp;omega
   have hd:Lib.decodeGo (bl (l.drop p))=dec (l.drop p):=by
    unfold Lib.decodeGo
    rw[if_neg af,zr3,y9,BQ]
   rw[hd]
   refine⟨λae=>?_,λae=>?_⟩
   ·have:=h (p:Int)
    have hu:wo l=false:=hx
    rw[hu]at this;exact this
   ·have hb:zej (dec (l.drop p))=false:=by
     unfold zej
     have:¬(dec (l.drop p)).2=1:=λe=>by rw[e]at ae;simp at ae
     simp[this]
    rw[Zd Z,hb]at h2
    simp only[A3,if_false,BR]at h2
    rw[zjf l p aa]
    have hw:=Qh (l.drop p);have ab:=zw1 Z
    simp only[AC]at ab
    exact⟨⟨trivial,by omega,h2⟩,by omega⟩
  ·have:l.drop p=[]:=Bj (by(have:¬p<l.length:=by simpa using hc);omega)
   rw[this,Q1]at h2;cases h2
theorem z08(hg:Tabs gl)(hl:l.length<=4611686018427387904)(h:R (wo l)):PC Tp gl 134 [Arg.mk .str (bl l)] [.bool] R:=by
 apply zer
 exact zse hg hl λk=>h
theorem znt(hg:Tabs gl)(hl:l.length<=4611686018427387904)(h:R (wo l)):PC Tp gl 166 [Arg.mk .str (bl l)] [.bool] R:=by
 apply zhq
 exact zse hg hl λk=>h
structure GL (gl:Fr):Prop where
 tabs:Tabs gl
 pow:Pow gl
 max:z3j gl
 err:zk7 gl
theorem Q3(s:Bs)(hs:s.length<=1152921504606846976):(zn s).1.2.1.length<=4611686018427387904:=by
 unfold zn
 split
 ·simp
 ·rename_i x hx
  have h1:=zji hx
  split
  ·simp
  ·split
   ·simp
   ·simp only
    generalize (if x.low=true then-(zk (x.exp.dropWhile (· == 48)):Int)else zk (x.exp.dropWhile (· == 48)))=e
    split
    ·simp
    ·rename_i Z
     have h2:(yu (x.whole++x.rest)).length<=(x.whole++x.rest).length:=by
      unfold yu
      rw[List.length_reverse]
      refine D6 (wz _ _) ?_
      rw[List.length_reverse]
      exact wz _ _
     rw[Ap]at h2
     split
     ·show(yu (x.whole++x.rest)).length<=_;omega
     ·simp
theorem za4(hg:GL gl){s:Bs}(hs:s.length<=1152921504606846976){R:(Bool×Bt×Int)×Bool->Prop}(h:R (nmB (zxn s).1,(zxn s).2)):PC Tp gl 165 [Arg.mk .str (bl s)] [tN,.bool] R:=by
 apply zes
 refine zfb hs ?_
 refine⟨λt=>t=bl (ye (zn s).1),λ_=>zp6 hg.pow (Q3 s hs) rfl,λr hr=>?_⟩
 have e:(bif ((zn s).2==0)then(r.toList==(bl s).toList)else false)=(zxn s).2:=by
  unfold zxn
  cases hc:((zn s).2==0)with
  |false=>rfl
  |true=>
   rw[hr hc,cond_true,zev];rfl
 simp only at e ⊢
 rw[e];exact h
theorem z6o(n:Nat):Lib.repeatL [48] n=D7 n 48:=by
 induction n with
 |zero=>rfl
 |succ n ih=>rw[Lib.repeatL,ih];rfl
theorem qac(hg:GL gl){n:Nm}(hn:n.2.1.length<=4611686018427387904){R:Int×Bool->Prop}(h:R (z03 n)):PC Tp gl 234 [Arg.mk tN (nmB n)] [.int .i64,.bool] R:=by
 apply zku
 refine zk9 hn ?_
 unfold z03 at h
 cases hr:yr n with
 |false=>
  rw[hr]at h
  exact⟨λ_=>by simpa using h,λhx=>by simp at hx⟩
 |true=>
  obtain⟨hl,ak,an⟩:=za0 hr
  rw[hr]at h
  simp only[Cd]at h
  simp only[zj]
  rw[w64 (by omega)]
  refine⟨λhx=>?_,λhx=>?_⟩
  ·rw[if_neg]at h
   ·exact h
   ·simp at hx ⊢;omega
  ·have am:0<=n.2.2/\(n.2.1.length:Int)+n.2.2<=19:=by simp at hx;omega
   rw[if_pos (by simp;omega)]at h
   rw[<-zug]at h
   obtain⟨e,hE⟩:∃e:Nat,n.2.2=(e:Int):=⟨n.2.2.toNat,by omega⟩
   show PC Tp gl 86 [Arg.mk .str (bl [48]),Arg.mk (.int .i64) n.2.2] [.str] _
   rw[hE]
   refine zxc (by omega) (by rw[zj];simp;omega) ?_
   rw[y9,z6o,Yt]
   have af:n.2.1++D7 e 48=Yw n:=by rw[Yw,hE,Ah]
   have ab:(Yw n).length<=19:=by rw[<-af];simp;omega
   have ai:=zuh hr
   rw[af]
   refine⟨zxf (a:=n.2.1) (by rw[List.length_replicate];omega),?_⟩
   rw[show(⟨#[]⟩:Bt)=bl []from rfl,show(⟨#[45]⟩:Bt)=bl [45]from rfl]
   simp only[Yt]
   intro K hK
   have key:∀t:Bs,t=(if n.1 then [45]else [])++Yw n->K (bl t):=by
    intro t ht
    refine hK _ ⟨λhz=>?_,λhz=>?_⟩
    ·have aj:t=[]:=by
      have:=zev t []
      rw[this]at hz;simpa using hz
     rw[aj]at ht
     have ae:n.1=false:=by cases hb:n.1 <;> simp[hb]at ht;rfl
     have aa:Yw n=[]:=by simp[ae]at ht;exact ht
     rw[ae,aa]at h
     exact h
    ·have ah:t≠[]:=by
      intro e;rw[e,zev]at hz;simp at hz
     refine zp3 hg.err (by rw[zj,ht];split <;> simp <;> omega) ?_
     rw[y9,ht]
     have aa:Yw n≠[]:=by
      intro e0
      cases hb:n.1 with
      |false=>rw[ht,hb,e0]at ah;exact ah rfl
      |true=>
       have hd:n.2.1=[]:=by rw[Yw]at e0;exact(List.append_eq_nil_iff.1 e0).1
       have:=zgu hr hd
       unfold W5 at this;rw[hb]at this;simp at this
     unfold zgt
     rw[zxh n.1 ai ab aa]
     cases hb:n.1 with
     |true=>
      rw[hb]at h
      simp only[if_true]at h ⊢
      by_cases hv:zk (Yw n)<=9223372036854775808
      ·rw[if_pos (by omega)]at h
       rw[if_pos hv]
       exact⟨λhq=>(by cases hq),λ_=>h⟩
      ·rw[if_neg (by omega)]at h
       rw[if_neg hv]
       exact⟨λ_=>h,λhq=>(by cases hq)⟩
     |false=>
      rw[hb]at h
      simp only[A3,if_false]at h ⊢
      by_cases hv:zk (Yw n)<=9223372036854775807
      ·rw[if_pos (by omega)]at h
       rw[if_pos hv]
       exact⟨λhq=>(by cases hq),λ_=>h⟩
      ·rw[if_neg (by omega)]at h
       rw[if_neg hv]
       exact⟨λ_=>h,λhq=>(by cases hq)⟩
   refine⟨λZ=>⟨zxf (a:=[45]) (by simp;omega),?_⟩,λZ=>?_⟩
   ·exact key _ (by rw[if_pos (by simpa using Z)])
   ·exact key _ (by rw[if_neg (by simpa using Z)];rfl)
end
end Go.X
end
section
namespace Go.Proofs.YtjohlemfgcmaoaaGreatDoor
open Go Go.X Go.ChangeShapes Go.WideShapes Go.ChangeAt Go.RowKit Go.Lib
open Go.ChangeMaps (open_string shut_string)
set_option linter.unusedVariables false
section
variable {H:Type} {g:Nat} {t:TypeId}
theorem Tryz.own:ownKnob AZ.godebug=none:=by kernel_rfl
theorem Tryz.laidOut:laidOutB AZ=true:=by kernel_rfl
theorem zlb{enc:TypeId×Value->H}{a:Assume}{C:Checked}{os:Os}{f:FuncId}{fn:Func}{s:ChangeSpec}{ah:List PathCond}{apart af ab ai:Bool}{X:World->Array Value->Prop}
  (hX:∀(w w':World) (args:Array Value),w.heap=w'.heap->X w args->X w' args)
  (own:ownKnob C.prog.godebug=none) (aj:os.Started) (am:C.prog.inits.idxOf? f=none) (aA:C.prog.funcs[f]?=some fn)
  (ak:∃(w:World) (Z:Tape) (i:Input),w.os=os/\(w.forCall Z i).Shaped C.prog/\i.vars=[]/\Input.okWide C.prog (w.forCall Z i) .any w.heap.size f i /\
   ((s.pre enc C.prog fn ah apart (w.forCall Z i).memory i.args/\X (w.forCall Z i).memory i.args)/\sizedMet enc C.prog fn (OpenSpec.ofChange s) apart (w.forCall Z i).memory i.args)/\a.holds C.prog (lone (Frame.enter C.prog f i.args .normal) [] (w.forCall Z i)))
  (ae:∀(W:World) (base:Nat) (args:Array Value) (ds gs:List (DataW H)) (aa:List MemPlace),
   (∀(j:Nat) t v,fn.params[j]?=some t->args[j]?=some v->Value.okWide C.prog W .any base t v) ->
   DataW.Whole enc C.prog fn.params.toList s.vars apart W args.toList ds gs aa ->
   (DataW.weightsEach C.prog (fn.params.toList++s.plain.varTypes C.prog) (ds++gs)).all (·<=reachBytes)=true ->
   X W args->W.ShapedOpen C.prog ->
   Calls C.prog f args W λe W'=>∃v,e=.returned v/\s.post enc C.prog fn apart af ab ai W args v W'):
  ReturnsInHanded a C os f .any (λw args=>(s.pre enc C.prog fn ah apart w args/\X w args)/\sizedMet enc C.prog fn (OpenSpec.ofChange s) apart w args) (s.post enc C.prog fn apart af ab ai):=by
 refine returnsInHanded_of_calls own aj am ak ?_
 intro w Z i _ ax _ ay ar au
 obtain⟨_,_,_,aB,an,_,_,_,_,ap⟩:=ay
 have e:aB=fn:=Aq (an.symm.trans aA)
 subst e
 obtain⟨⟨⟨ds,gs,aa,hw,hc⟩,hx⟩,hz⟩:=ar
 have az:=DataW.Whole.of_heap (w':=w.forCall Z i) (by rfl) hw
 refine(ae (w.forCall Z i) w.heap.size i.args ds gs aa ap az (hz.weights hw) (hX _ _ _ (by rfl) hx) ax).mono λe W' ⟨v,he,hp⟩=>?_
 subst he
 exact ChangeSpec.post_blind hp
theorem z3q{P:Program}{W:World}{n:String}{k:IntKind}{zs:List Int}{t e:TypeId}{m:Nat}(hg:P.globalNamed n=some g)(ht:(P.globals[g]?).map (·.type)=some t)(hu:P.underlying t=some (.array m e))(he:P.underlying e=some (.int k))
  (af:P.cellsOf e=1) (ae:P.cellsOf t=m) (h:VarReads P W n (tabData k zs)):∃cs:Array Value,Fz W g=some cs/\cs.toList=zs.map λz=>Ep k z:=by
 obtain⟨g',t',cs,fuel,p,aa,ab,Z,hd⟩:=h
 obtain rfl:=Aq (hg.symm.trans aa)
 obtain rfl:=Aq (ht.symm.trans ab)
 exact⟨cs,Fz.var hg Z,cells_of_tab hu he af ae hd⟩
theorem z09{W : World}(h : VarReads Tryz.prog W "unicode/utf8.first" Pinned.utf8First): ∃ cs : Array Value, Fz W 0 = some cs ∧ ∀ c, c < 256 → cs[c]? = some (.int .u8 (Lib.firstT c)) := by
 rw[Pinned.utf8First_eq]at h
 obtain⟨cs,h1,h2⟩:=z3q (g:=0) (t:=230) (e:=5) (m:=256) (by kernel_rfl) (by kernel_rfl) (by kernel_rfl) (by kernel_rfl) (by kernel_rfl) (by kernel_rfl) h
 refine⟨cs,h1,λc hc=>?_⟩
 rw[<-Bw,h2]
 simp[firstTab,hc]
theorem zxp{W : World}(h : VarReads Tryz.prog W "unicode/utf8.acceptRanges" acceptData): ∃ cs : Array Value, Fz W 1 = some cs ∧ ∀ i, i < 16 → cs[2 * i]? = some (.int .u8 (Lib.accLo i)) ∧ cs[2 * i + 1]? = some (.int .u8 (Lib.accHi i)) := by
 obtain⟨g,t,cs,fuel,p,hg,hty,hvar,hd⟩:=h
 obtain rfl := Option.some.inj ((show Tryz.prog.globalNamed "unicode/utf8.acceptRanges" = some 1 by kernel_rfl).symm.trans hg)
 obtain rfl:=Aq ((show(AZ.globals[1]?).map (·.type)=some 233 by kernel_rfl).symm.trans hty)
 refine⟨cs,Fz.var hg hvar,λi hi=>?_⟩
 obtain⟨fuel',d,q,hdi,he⟩:=array_elem (show AZ.underlying 233=some (.array 16 232)by kernel_rfl) hd i hi
 simp only[BS,List.getElem?_range hi,Dw,Aa]at hdi
 subst hdi
 have hc:AZ.cellsOf 232=2:=by kernel_rfl
 have c5:AZ.cellsOf 5=1:=by kernel_rfl
 have u5:AZ.underlying 5=some (.int .u8):=by kernel_rfl
 rw[hc]at he
 have hcs:=ints_of_struct Tryz.underlying232 (λj f hj=>by
  match j,hj with
  |0,hj=>simp at hj;subst hj;exact⟨u5,rfl,c5⟩
  |1,hj=>simp at hj;subst hj;exact⟨u5,rfl,c5⟩
  |j+2,hj=>simp at hj) (by rw[hc];rfl) he
 have e0:=congrArg (·[0]?) hcs
 have e1:=congrArg (·[1]?) hcs
 simp only[Az,AE]at e0 e1
 constructor
 ·rw[<-Bw]
  simpa[Cw]using e0
 ·rw[<-Bw]
  simpa[Cw]using e1
theorem qad{W : World}{d : DataW Unit}(hd : d = tabData .u64 Lib.pow10Tab)(h : VarReads Tryz.prog W "internal/strconv.uint64pow10" d): Pow (Fz W) := by
 subst hd
 obtain⟨cs,h1,h2⟩:=z3q (g:=2) (t:=273) (e:=238) (m:=20) (by kernel_rfl) (by kernel_rfl) (by kernel_rfl) (by kernel_rfl) (by kernel_rfl) (by kernel_rfl) h
 exact⟨_,cs,by kernel_rfl,h1,by rw[<-h2]⟩
theorem z3r{W:World}{n:String}{ms:Array (String×TypeId)}{nm:String}{d:DataW Unit}(hg:AZ.globalNamed n=some g)(ht:(AZ.globals[g]?).map (·.type)=some t)(hu:AZ.underlying t=some (.interface ms))(h:VarReads AZ W n (.iface nm d)):
  ∃(cs:Array Value) (e:Value),Fz W g=some cs/\cs[0]?=some e/\(e=.nilIface\/∃te pe,e=.iface te pe):=by
 obtain⟨g',t',cs,fuel,p,ab,ae,Z,hd⟩:=h
 obtain rfl:=Aq (hg.symm.trans ab)
 obtain rfl:=Aq (ht.symm.trans ae)
 obtain⟨f1,u,v,aa,_,_⟩:=iface_of_trod hu hd
 exact⟨cs,.iface u v,Fz.var hg Z,by rw[<-Bw,aa];rfl,.inr ⟨u,v,rfl⟩⟩
theorem qae{W:World}(h:W.ShapedOpen AZ):z3j (Fz W):=by
 obtain⟨m,hm⟩:=cell_of_shapedOpen_int (P:=AZ) (g:=3) (t:=3) (zero:=#[.int .i64 0]) (k:=.i64) h (by decide +kernel) (by kernel_rfl) rfl (by kernel_rfl) (by kernel_rfl) (by kernel_rfl)
 obtain⟨b,o,c,e,h1,h2⟩:=Fz.cell hm
 cases e
 exact⟨c,m,h1,h2⟩
def znu:List (String×DataW Unit):=Rows.readReadsRow.laid
theorem qc3{W:World}(h:laidMetH AZ znu W)(hs:W.ShapedOpen AZ):GL (Fz W):=by
 have hl:laidMet AZ znu W:=by
  rw[MakeChecks.laidMetH_plain _ _ _ (by kernel_rfl)]at h;exact h
 have hr:∀(i:Nat) (n:String) (d:DataW Unit),znu[i]?=some (n,d)->VarReads AZ W n d:=λi n d e=>Go.Lib.laidMet.reads hl (Bh e)
 exact {
  tabs:=⟨z09 (hr 6 _ _ rfl),zxp (by
   have e:(Rows.laid_unicode_utf8_acceptRanges:DataW Unit)=acceptData:=by kernel_rfl
   rw[<-e];exact hr 3 _ _ rfl)⟩
  pow:=qad (by kernel_rfl) (hr 2 _ _ rfl)
  max:=qae hs
  err:=⟨z3r (g:=4) (t:=114) (by kernel_rfl) (by kernel_rfl) Tryz.underlying114 (hr 5 _ _ rfl),z3r (g:=5) (t:=114) (by kernel_rfl) (by kernel_rfl) Tryz.underlying114 (hr 4 _ _ rfl)⟩ }
noncomputable def qc4(os:Os):World:=World.laidAll AZ os znu
theorem zqa(os:Os)(args:Array Value):((qc4 os).forCall (λ_ _=>0) ⟨#[],args,[]⟩).Shaped AZ:=World.shaped_of_ZipB (by kernel_rfl) (by kernel_rfl)
theorem z1a(os:Os)(args:Array Value):laidMetH AZ znu ((qc4 os).forCall (λ_ _=>0) ⟨#[],args,[]⟩).memory:=by
 rw[MakeChecks.laidMetH_plain _ _ _ (by kernel_rfl)];exact laidMet_laidAll _ (by kernel_rfl) (by kernel_rfl)
theorem z6p{enc:TypeId×Value->H}{W:World}{sp:Nat->Bool}{held:Bool}{fuel:Nat}{cs:List Value}{x:DataW H×List MemPlace}(h:DataW.trod enc AZ W 0 sp held fuel 23 cs=some x)(hw:zwy AZ 23 x.1):∃xs:List ByteArray,Rd (Fz W) (.row .str) xs cs:=
 z6e Tryz.underlying23 Br (by kernel_rfl) (by decide +kernel) h hw
theorem z1b{ts:List TypeId}{ds:List (DataW H)}(h:(DataW.weightsEach AZ ts ds).all (·<=reachBytes)=true){j:Nat}{d:DataW H}(ht:ts[j]?=some t)(hd:ds[j]?=some d):zwy AZ t d:=λn hn=>by
 have:=AX.1 h n (DataW.weights_mem_each ht hd n hn)
 simpa using this
end
end Go.Proofs.YtjohlemfgcmaoaaGreatDoor
end
section
namespace Go.X
open Go Go.Lib
section
variable {n r:Nat} {l:Bs}
def zhg(c:UInt8):Option Nat:=
 if 48<=c.toNat/\c.toNat<=57 then some (c.toNat-48)
 else if 97<=c.toNat/\c.toNat<=102 then some (c.toNat-87)
 else if 65<=c.toNat/\c.toNat<=70 then some (c.toNat-55)
 else none
theorem z6q{c:UInt8}(h:zhg c=some n):n<16:=by
 unfold zhg at h
 split at h
 ·cases h;omega
 ·split at h
  ·cases h;omega
  ·split at h
   ·cases h;omega
   ·cases h
def zh2:Nat->Bs->Option Nat
 |n,[]=>some n
 |n,c::l=>match zhg c with
  |some d=>zh2 (16*n+d) l
  |none=>none
def zex(l:Bs):Option Nat:=if 4<=l.length then zh2 0 (l.take 4)else none
theorem zqb:∀{l:Bs} {n m:Nat},zh2 n l=some m->m<(n+1)*16 ^ l.length
 |[],n,m,h=>by cases h;simp
 |c::l,n,m,h=>by
  unfold zh2 at h
  cases e:zhg c with
  |none=>rw[e]at h;cases h
  |some d=>
   rw[e]at h
   have h1:=zqb h
   have h2:=z6q e
   have h3:(16*n+d+1)*16 ^ l.length<=(16*(n+1))*16 ^ l.length:=AK _ (by omega)
   have h4:(16*(n+1))*16 ^ l.length=(n+1)*16 ^ (l.length+1):=by rw[DV,Cw 16,Nat.mul_assoc,Cw 16]
   simp only[Aw]
   omega
theorem zdq(h:zex l=some n):n<65536:=by
 unfold zex at h
 split at h
 ·have:=zqb h
  simp only[A1]at this
  rename_i h4
  rw[CF h4]at this
  omega
 ·cases h
def z1c(c:UInt8):Option Nat:=
 if c=34\/c=92\/c=47 then some c.toNat else if c=98 then some 8 else if c=102 then some 12 else if c=110 then some 10 else if c=114 then some 13 else if c=116 then some 9 else none
def z1d(t:Bs):Option (Nat×Nat):=match zex t with
 |none=>none
 |some n=>if 56320<=n/\n<57344 then none else if n<55296\/57344<=n then some (n,6)else
  if(t.drop 4).take 2=[92,117]then match zex (t.drop 6)with
   |some m=>if 56320<=m/\m<57344 then some (65536+(n-55296)*1024+(m-56320),12)else none
   |none=>none
  else none
def z6r(l:Bs):Option (Nat×Nat):=match l with
 |_::c::t=>match z1c c with
  |some r=>some (r,2)
  |none=>if c=117 then z1d t else none
 |_=>none
def J9(l:Bs):Option (Nat×Nat):=if l.head?=some 92 then z6r l else if(dec l).1<32\/zej (dec l)=true then none else some (dec l)
def znv:Nat->Bs->Bs×Nat×Bool
 |0,_=>([],0,false)
 |f+1,l=>if l=[]then([],0,false)else if l.head?=some 34 then([],1,true)else match J9 l with
  |none=>([],0,false)
  |some (r,n)=>let q:=znv f (l.drop n);(encodeRune (r:Int)++q.1,n+q.2.1,q.2.2)
def Yy(l:Bs):Bs×Nat×Bool:=znv l.length l
theorem zjl{t:Bs}(h:z1d t=some (r,n)):(n=6\/n=12)/\n<=t.length+2/\r<=1114111:=by
 unfold z1d at h
 cases e:zex t with
 |none=>rw[e]at h;cases h
 |some m=>
  have hm:=zdq e
  have hl:4<=t.length:=by
   unfold zex at e
   split at e
   ·assumption
   ·cases e
  rw[e]at h
  dsimp only at h
  split at h
  ·cases h
  ·split at h
   ·simp only[Aa,A9]at h
    obtain⟨rfl,rfl⟩:=h
    exact⟨.inl rfl,by omega,by omega⟩
   ·split at h
    ·cases e2:zex (t.drop 6)with
     |none=>rw[e2]at h;cases h
     |some k=>
      have Z:4<=(t.drop 6).length:=by
       unfold zex at e2
       split at e2
       ·assumption
       ·cases e2
      rw[AC]at Z
      rw[e2]at h
      dsimp only at h
      split at h
      ·simp only[Aa,A9]at h
       obtain⟨rfl,rfl⟩:=h
       exact⟨.inr rfl,by omega,by omega⟩
      ·cases h
    ·cases h
theorem zxq{c:UInt8}(h:z1c c=some r):r<=255:=by
 have:=c.toNat_lt
 unfold z1c at h
 repeat' split at h
 all_goals first|(cases h;omega)|cases h
theorem zjm(h:z6r l=some (r,n)):2<=n/\n<=12/\n<=l.length/\r<=1114111:=by
 match l,h with
 |a::c::t,h=>
  unfold z6r at h
  dsimp only at h
  cases e:z1c c with
  |some k=>
   rw[e]at h;cases h
   have:=zxq e
   exact⟨by omega,by omega,by simp,by omega⟩
  |none=>
   rw[e]at h
   dsimp only at h
   split at h
   ·obtain⟨h1,h2,h3⟩:=zjl h
    refine⟨by omega,by omega,?_,h3⟩
    simp only[Aw];omega
   ·cases h
theorem z6s(l:Bs):(dec l).1<=1114111:=by
 have h0:=(l.getD 0 0).toNat_lt
 have h1:=(l.getD 1 0).toNat_lt
 have h2:=(l.getD 2 0).toNat_lt
 have h3:=(l.getD 3 0).toNat_lt
 unfold dec decodeN
 repeat' split
 all_goals (simp only;omega)
theorem wa(hl:l≠[])(h:J9 l=some (r,n)):1<=n/\n<=12/\n<=l.length/\r<=1114111:=by
 unfold J9 at h
 split at h
 ·obtain⟨h1,h2,h3,h4⟩:=zjm h
  exact⟨by omega,h2,h3,h4⟩
 ·split at h
  ·cases h
  ·have h:=Aq h
   obtain⟨rfl,rfl⟩:r=(dec l).1/\n=(dec l).2:=by rw[h];exact⟨rfl,rfl⟩
   have h1:=Qh l
   have h2:=zw1 hl
   exact⟨h1.1,by omega,h2,z6s l⟩
theorem zjn:∀(f:Nat) (l:Bs),l.length<=f->∀g,l.length<=g->znv f l=znv g l
 |0,l,h,g,_=>by
  have:l=[]:=A8.1 (by omega)
  subst this
  cases g <;> simp[znv]
 |f+1,l,h,0,hg=>by
  have:l=[]:=A8.1 (by omega)
  subst this
  simp[znv]
 |f+1,l,h,g+1,hg=>by
  unfold znv
  by_cases h1:l=[]
  ·rw[if_pos h1,if_pos h1]
  ·rw[if_neg h1,if_neg h1]
   by_cases h2:l.head?=some 34
   ·rw[if_pos h2,if_pos h2]
   ·rw[if_neg h2,if_neg h2]
    cases e:J9 l with
    |none=>rfl
    |some x=>
     obtain⟨r,n⟩:=x
     obtain⟨n1,_,n2,_⟩:=wa h1 e
     have:=zjn f (l.drop n) (by rw[AC];omega) g (by rw[AC];omega)
     dsimp only
     rw[this]
theorem zxr:Yy []=([],0,false):=rfl
theorem Z4(h:l≠[]):Yy l=if l.head?=some 34 then([],1,true)else match J9 l with
  |none=>([],0,false)
  |some (r,n)=>(encodeRune (r:Int)++(Yy (l.drop n)).1,n+(Yy (l.drop n)).2.1,(Yy (l.drop n)).2.2):=by
 have hp:=Bn.2 h
 obtain⟨f,hf⟩:∃f,l.length=f+1:=⟨l.length-1,by omega⟩
 rw[Yy,hf,znv,if_neg h]
 by_cases h2:l.head?=some 34
 ·rw[if_pos h2,if_pos h2]
 ·rw[if_neg h2,if_neg h2]
  cases e:J9 l with
  |none=>rfl
  |some x=>
   obtain⟨r,n⟩:=x
   obtain⟨n1,_,n2,_⟩:=wa h e
   dsimp only
   rw[Yy,zjn f (l.drop n) (by rw[AC];omega) (l.drop n).length (Ad _)]
theorem znw:∀(k:Nat) (l:Bs),l.length=k->(Yy l).2.1<=l.length/\(Yy l).1.length<=4*l.length:=by
 intro k
 induction k using Du with
 |_ k ih=>
  intro l hl
  by_cases h:l=[]
  ·subst h;exact⟨Ad _,Ad _⟩
  ·have hp:=Bn.2 h
   rw[Z4 h]
   split
   ·exact⟨hp,by simp⟩
   ·cases e:J9 l with
    |none=>exact⟨by simp,by simp⟩
    |some x=>
     obtain⟨r,n⟩:=x
     obtain⟨n1,_,n2,_⟩:=wa h e
     have hd:(l.drop n).length=l.length-n:=AC
     have:=ih (l.drop n).length (by omega) _ rfl
     have h4:(encodeRune (r:Int)).length<=4:=by
      have:=(encodeRuneZ_length (r:Int)).2
      rw[encodeRune,A0];exact this
     dsimp only
     rw[Ap]
     omega
def yj(t:Bs)(a:Nat):Bs×Nat×Int:=
 if(t.drop a).head?=some 34 then(let q:=Yy (t.drop (a+1));if q.2.2 then(q.1,a+1+q.2.1,0)else([],a+1+q.2.1,2))else([],a,2)
def Wh(t:Bs):Bs×Nat×Int:=let r:=yj t 0;if r.2.2=0/\r.2.1<t.length then([],r.2.1,2)else r
end
section
variable {a:Nat}
abbrev Tk:=Int×Int×Int
def zaa:Bs:=[32,9,10,13]
def X0:Bs:=[123,125,91,93,44,58]
def zhh:Bs:=[45,43,46,48,49,50,51,52,53,54,55,56,57,101,69]
def zxs:Bs:=[45,48,49,50,51,52,53,54,55,56,57]
def js:Bs:=[97,98,99,100,101,102,103,104,105,106,107,108,109,110,111,112,113,114,115,116,117,118,119,120,121,122]
def Zh(p:UInt8->Bool)(l:Bs):Nat:=(l.takeWhile p).length
theorem zxt(p:UInt8->Bool)(l:Bs):Zh p l<=l.length:=(List.takeWhile_sublist p).length_le
theorem zsf{p:UInt8->Bool}{c:UInt8}{l:Bs}(h:p c=true):0<Zh p (c::l):=by
 unfold Zh;rw[List.takeWhile_cons,if_pos h];simp
theorem zqc{p:UInt8->Bool}:∀{l:Bs} {k:Nat} (hk:k<=l.length),(∀j (hj:j<k),p (l[j]'(by omega))=true)->(∀h:k<l.length,p l[k]=false)->Zh p l=k
 |[],k,hk,h1,h2=>by simp at hk;subst hk;rfl
 |c::l,0,hk,h1,h2=>by
  have:=h2 (by simp)
  unfold Zh;rw[List.takeWhile_cons,if_neg (by simp at this;simp[this])];rfl
 |c::l,k+1,hk,h1,h2=>by
  have hc:=h1 0 (by omega)
  simp only[List.getElem_cons_zero]at hc
  unfold Zh
  rw[List.takeWhile_cons,if_pos hc,Aw]
  have:=zqc (p:=p) (l:=l) (k:=k) (by simp at hk;omega) (λj hj=>by have:=h1 (j+1) (by omega);simpa using this) (λhh=>by have:=h2 (by simp;omega);simpa using this)
  unfold Zh at this
  omega
def Wa(s:Bs):Int:=if s=[116,114,117,101]then 10 else if s=[102,97,108,115,101]then 11 else if s=[110,117,108,108]then 12 else 0
def xe(l:Bs)(c:UInt8):Bool:=decide (c∈l)
def Zi(s:Bs)(a:Nat):Int×Nat×Int:=match s.drop a with
 |[]=>(0,a,2)
 |c::t=>
  if c∈X0 then(2+indexByte X0 c,a+1,0)
  else if c∈zaa then(1,a+Zh (xe zaa) (c::t),0)
  else if c=34 then(if(yj s a).2.2=0 then(8,(yj s a).2.1,0)else(0,(yj s a).2.1,(yj s a).2.2))
  else if c∈zxs then(if(zn ((c::t).take (Zh (xe zhh) (c::t)))).2=0 then(9,a+Zh (xe zhh) (c::t),0)else(0,a,(zn ((c::t).take (Zh (xe zhh) (c::t)))).2))
  else if Wa ((c::t).take (Zh (xe js) (c::t)))=0 then(0,a,2)else(Wa ((c::t).take (Zh (xe js) (c::t))),a+Zh (xe js) (c::t),0)
theorem zuj{t:Bs}(h:(yj t a).2.2=0):a<(yj t a).2.1/\(yj t a).2.1<=t.length:=by
 unfold yj at h ⊢
 split at h
 ·rename_i hh
  rw[if_pos hh]
  have:=(znw _ (t.drop (a+1)) rfl).1
  have Z:a<t.length:=by
   rcases AR a t.length with h1|h1
   ·exact h1
   ·rw[Bj h1]at hh;cases hh
  rw[AC]at this
  dsimp only at h ⊢
  split at h
  ·rename_i h2;rw[if_pos h2];dsimp only;omega
  ·cases h
 ·cases h
theorem Ze{s:Bs}(ha:a<s.length)(h:(Zi s a).2.2=0):a<(Zi s a).2.1/\(Zi s a).2.1<=s.length:=by
 have hd:s.drop a=s[a]::s.drop (a+1):=AF ha
 have hl:(s[a]::s.drop (a+1)).length=s.length-a:=by rw[<-hd,AC]
 have rb:=λp=>zxt p (s[a]::s.drop (a+1))
 rw[hl]at rb
 unfold Zi at h ⊢
 rw[hd]at h ⊢
 dsimp only at h ⊢
 split
 ·dsimp only;omega
 ·rename_i h1
  rw[if_neg h1]at h
  split
  ·rename_i h2
   have:=zsf (p:=xe zaa) (l:=s.drop (a+1)) (c:=s[a]) (by unfold xe;exact decide_eq_true h2)
   have:=rb (xe zaa)
   dsimp only;omega
  ·rename_i h2
   rw[if_neg h2]at h
   split
   ·rename_i h3
    rw[if_pos h3]at h
    split at h
    ·rename_i h4
     rw[if_pos h4]
     exact zuj h4
    ·rename_i h4;exact absurd h h4
   ·rename_i h3
    rw[if_neg h3]at h
    split
    ·rename_i h4
     rw[if_pos h4]at h
     split at h
     ·rename_i h5
      rw[if_pos h5]
      have hn:s[a]∈zhh:=by
       have:∀c∈zxs,c∈zhh:=by decide
       exact this _ h4
      have:=zsf (p:=xe zhh) (l:=s.drop (a+1)) (c:=s[a]) (by unfold xe;exact decide_eq_true hn)
      have:=rb (xe zhh)
      dsimp only;omega
     ·rename_i h5;exact absurd h h5
    ·rename_i h4
     rw[if_neg h4]at h
     split at h
     ·cases h
     ·rename_i h5
      rw[if_neg h5]
      have:0<Zh (xe js) (s[a]::s.drop (a+1)):=by
       refine Nat.pos_of_ne_zero λe=>h5 ?_
       rw[e];rfl
      have:=rb (xe js)
      dsimp only;omega
def Qj:Nat->Bs->Nat->List Tk->List Tk×Nat×Int
 |0,_,a,o=>(o,a,0)
 |f+1,s,a,o=>if a<s.length then(if(Zi s a).2.2=0 then Qj f s (Zi s a).2.1 (o++[((Zi s a).1,((a:Int),((Zi s a).2.1:Int)))])else([],(Zi s a).2.1,(Zi s a).2.2))else(o,a,0)
def ym(s:Bs):List Tk×Nat×Int:=if 65536<s.length then([],0,3)else Qj s.length s 0 []
end
section
variable {s:Bs}
abbrev Sp:=Int×Int
abbrev Nd:=Int×Sp×Sp×List Int×List Sp
structure PSt where
 rest:List Tk
 last:Int
 nodes:List Nd
abbrev PR(α:Type):=α ⊕ (Int×Int)
def PSt.kind(st:PSt):Int:=match st.rest with | []=>0|t::_=>t.1
def PSt.here(st:PSt)(n:Nat):Int:=match st.rest with | []=>(n:Int)|t::_=>t.2.1
def PSt.skip(st:PSt):PSt:=match st.rest with | []=>st|t::r=>⟨r,t.2.2,st.nodes⟩
def zz(k:Int):Int:=if k=12 then 1 else if k=10\/k=11 then 2 else if k=9 then 3 else if k=8 then 4 else if k=4 then 5 else if k=2 then 6 else 0
def zxu(k:Int)(p:Sp)(x:Nd):Nd:=(x.1,x.2.1,x.2.2.1,x.2.2.2.1++[k],x.2.2.2.2++[p])
def z6t(t:Int)(x:Nd):Nd:=(x.1,(x.2.1.1,t),x.2.2)
def PSt.addKid(st:PSt)(n:Nat)(k:Int)(p:Sp):PSt:=⟨st.rest,st.last,st.nodes.modify n (zxu k p)⟩
def PSt.setTo(st:PSt)(n:Nat):PSt:=⟨st.rest,st.last,st.nodes.modify n (z6t st.last)⟩
def PSt.err{α:Type}(st:PSt)(s:Bs)(e:Int):PR α:=.inr (st.here s.length,e)
abbrev zjo:=List Bs->PSt->PR (List Bs×PSt)
def Yz(s:Bs)(n:Nat)(closing:Int)(kid:zjo):Nat->List Bs->PSt->PR PSt
 |0,_,st=>st.err s 2
 |f+1,had,st=>match kid had st with
  |.inr e=>.inr e
  |.inl (had',st')=>
   if st'.kind=closing then .inl (st'.addKid n st.nodes.length (st.last,st'.here s.length)).skip
   else if st'.kind=6 then Yz s n closing kid f had' (st'.addKid n st.nodes.length (st.last,st'.here s.length)).skip
   else st'.err s 2
def Wb(s:Bs)(n:Nat)(closing:Int)(kid:zjo)(st:PSt):PR PSt:=
 if st.kind=closing then .inl st.skip else Yz s n closing kid (st.rest.length+1) [] st
abbrev znx:=Sp->PSt->PR PSt
def zch(val:znx):zjo:=λhad st=>match val (0,0) st with
 |.inl st'=>.inl (had,st')
 |.inr e=>.inr e
def Q9(s:Bs)(p:Sp):Bs:=(s.drop p.1.toNat).take (p.2.toNat-p.1.toNat)
def zny(s:Bs)(val:znx):zjo:=λhad st=>match st.rest with
 |[]=>st.err s 2
 |t::_=>
  if t.1=8 then
   if(Wh (Q9 s t.2)).1∈had then st.err s 7
   else if st.skip.kind=7 then match val t.2 st.skip.skip with
    |.inl st'=>.inl (had++[(Wh (Q9 s t.2)).1],st')
    |.inr e=>.inr e
   else st.skip.err s 2
  else st.err s 2
def PSt.open(st:PSt)(key:Sp):PSt:=match st.rest with
 |[]=>st
 |t::r=>⟨r,t.2.2,st.nodes++[(zz t.1,t.2,key,[],[])]⟩
def zo3(s:Bs)(val:znx)(n:Nat)(k:Int)(st:PSt):PR PSt:=
 if k=5 then Wb s n 5 (zch val) st else if k=6 then Wb s n 3 (zny s val) st else .inl st
def Y3(s:Bs):Nat->znx
 |0,key,st=>if zz st.kind=0 then st.err s 2 else st.err s 5
 |d+1,key,st=>if zz st.kind=0 then st.err s 2 else if st.nodes.length=4096 then st.err s 6 else
  match zo3 s (Y3 s d) st.nodes.length (zz st.kind) (st.open key)with
  |.inl st'=>.inl (st'.setTo st.nodes.length)
  |.inr e=>.inr e
def qc(l:List Tk):List Tk:=l.filter λt=>decide (t.1≠1)
def ju(s:Bs):(Bs×List Nd)×Int×Int:=
 if(ym s).2.2=0 then
  match Y3 s 32 (0,0) ⟨qc (ym s).1,0,[]⟩with
  |.inl st=>if st.rest=[]then((s,st.nodes),(s.length:Int),0)else(([],[]),st.here s.length,2)
  |.inr e=>(([],[]),e.1,e.2)
 else(([],[]),((ym s).2.1:Int),(ym s).2.2)
def TkW(s:Bs)(t:Tk):Prop:=0<=t.2.1/\t.2.1<t.2.2/\t.2.2<=(s.length:Int)/\(2<=t.1/\t.1<=7->t.2.2=t.2.1+1)
theorem zxv{a:Nat}(ha:a<s.length)(h:2<=(Zi s a).1/\(Zi s a).1<=7):(Zi s a).2.1=a+1:=by
 have hd:s.drop a=s[a]::s.drop (a+1):=AF ha
 unfold Zi at h ⊢
 rw[hd]at h ⊢
 dsimp only at h ⊢
 have hw:∀l:Bs,Wa l=0\/Wa l=10\/Wa l=11\/Wa l=12:=λl=>by
  unfold Wa
  split
  ·exact .inr (.inl rfl)
  ·split
   ·exact .inr (.inr (.inl rfl))
   ·split
    ·exact .inr (.inr (.inr rfl))
    ·exact .inl rfl
 split
 ·rfl
 ·rename_i h1
  rw[if_neg h1]at h
  split at h
  ·omega
  ·rename_i h2
   split at h
   ·split at h <;> (dsimp only at h;omega)
   ·split at h
    ·split at h <;> (dsimp only at h;omega)
    ·split at h
     ·dsimp only at h;omega
     ·dsimp only at h
      rcases hw ((s[a]::s.drop (a+1)).take (Zh (xe js) (s[a]::s.drop (a+1))))with e|e|e|e <;> rw[e]at h <;> omega
theorem zsg:∀(f:Nat) (s:Bs) (a:Nat) (o:List Tk),(∀t∈o,TkW s t)->∀t∈(Qj f s a o).1,TkW s t
 |0,s,a,o,h=>h
 |f+1,s,a,o,h=>by
  rw[Qj]
  split
  ·rename_i ha
   split
   ·rename_i h0
    refine zsg f s _ _ λt ht=>?_
    rcases As.1 ht with ht|ht
    ·exact h t ht
    ·rw[Bf.1 ht]
     have hp:=Ze ha h0
     refine⟨by dsimp only;omega,by dsimp only;omega,by dsimp only;omega,λhk=>?_⟩
     have:=zxv ha hk
     dsimp only;omega
   ·intro t ht;cases ht
  ·exact h
theorem z1e(s:Bs):∀t∈(ym s).1,TkW s t:=by
 unfold ym
 split
 ·intro t ht;cases ht
 ·exact zsg _ _ _ _ λt ht=>by cases ht
theorem zuk{l:List Tk}(h:∀t∈l,TkW s t):∀t∈qc l,TkW s t:=λt ht=>h t (Dv.1 ht).1
end
section
variable {k:Int} {s:Bs}
def ndW(x:Nd):Nat:=x.2.2.2.1.length+x.2.2.2.2.length
def PSt.T(st:PSt):Nat:=2*st.rest.length+(st.nodes.map ndW).sum
theorem zqd{f:Nd->Nd}{k:Nat}(h:∀x,ndW (f x)<=ndW x+k):∀(l:List Nd) (n:Nat),((l.modify n f).map ndW).sum<=(l.map ndW).sum+k
 |[],n=>by simp
 |x::l,0=>by
  have:=h x
  simp only[List.modify_zero_cons,A4,List.sum_cons];omega
 |x::l,n+1=>by
  have:=zqd h l n
  simp only[List.modify_succ_cons,A4,List.sum_cons];omega
theorem z6u{st:PSt}{x:Nd}(h:x∈st.nodes):ndW x<=st.T:=by
 have:∀(l:List Nd),x∈l->ndW x<=(l.map ndW).sum:=by
  intro l
  induction l with
  |nil=>intro h;cases h
  |cons y l ih=>
   intro h
   rw[A4,List.sum_cons]
   rcases Af.1 h with rfl|h
   ·omega
   ·have:=ih h;omega
 have:=this _ h
 unfold PSt.T;omega
theorem z1f(st:PSt)(n:Nat)(k:Int)(p:Sp):(st.addKid n k p).T<=st.T+2:=by
 have:=zqd (f:=zxu k p) (k:=2) (λx=>by unfold ndW zxu;simp;omega) st.nodes n
 unfold PSt.T PSt.addKid;dsimp only;omega
theorem z6v(st:PSt)(n:Nat):(st.setTo n).T<=st.T:=by
 have:=zqd (f:=z6t st.last) (k:=0) (λx=>by unfold ndW z6t;simp) st.nodes n
 unfold PSt.T PSt.setTo;dsimp only;omega
theorem qaf{st:PSt}(h:st.rest≠[]):st.skip.T+2=st.T:=by
 unfold PSt.skip PSt.T
 cases hr:st.rest with
 |nil=>exact absurd hr h
 |cons t r=>simp only[Aw];omega
theorem qag{st:PSt}{key:Sp}(h:st.rest≠[]):(st.open key).T+2=st.T:=by
 unfold PSt.open PSt.T
 cases hr:st.rest with
 |nil=>exact absurd hr h
 |cons t r=>
  simp only[Aw,Cr,List.sum_append,A4,CU,List.sum_cons,List.sum_nil,ndW,BE];omega
theorem yi(st:PSt):st.skip.nodes=st.nodes:=by unfold PSt.skip;split <;> rfl
theorem PSt.ne_kind{st:PSt}(h:st.kind=k)(hk:k≠0):st.rest≠[]:=λe=>by
 unfold PSt.kind at h;rw[e]at h;exact hk h.symm
theorem zfc{st:PSt}(h:¬zz st.kind=0):st.rest≠[]:=λe=>by
 refine h ?_
 unfold PSt.kind;rw[e];rfl
theorem Y0(st:PSt)(n:Nat)(k:Int)(p:Sp):(st.addKid n k p).nodes.length=st.nodes.length:=by unfold PSt.addKid;simp
theorem zci(st:PSt)(n:Nat):(st.setTo n).nodes.length=st.nodes.length:=by unfold PSt.setTo;simp
theorem zlc{st:PSt}{key:Sp}(h:st.rest≠[]):(st.open key).nodes.length=st.nodes.length+1:=by
 unfold PSt.open
 cases hr:st.rest with
 |nil=>exact absurd hr h
 |cons t r=>simp
structure Okk (st st':PSt) (k:Nat):Prop where
 t:st'.T+k<=st.T
 r:2*st'.rest.length+k<=2*st.rest.length
 w:∀t∈st'.rest,t∈st.rest
 n:st.nodes.length<=st'.nodes.length
 m:st.nodes.length<=4096->st'.nodes.length<=4096
theorem Okk.trans{a b c:PSt}{j k:Nat}(x:Okk a b j)(y:Okk b c k):Okk a c (j+k):=⟨by have:=x.t;have:=y.t;omega,by have:=x.r;have:=y.r;omega,λt h=>x.w t (y.w t h),by have:=x.n;have:=y.n;omega,λh=>y.m (x.m h)⟩
theorem Okk.le{a b:PSt}{j k:Nat}(x:Okk a b j)(h:k<=j):Okk a b k:=⟨by have:=x.t;omega,by have:=x.r;omega,x.w,x.n,x.m⟩
theorem Okk.refl(a:PSt):Okk a a 0:=⟨Ad _,Ad _,λt h=>h,Ad _,id⟩
theorem qah{st:PSt}(h:st.rest≠[]):st.skip.rest.length+1=st.rest.length:=by
 unfold PSt.skip
 cases hr:st.rest with
 |nil=>exact absurd hr h
 |cons t r=>simp
theorem qai{st:PSt}{key:Sp}(h:st.rest≠[]):(st.open key).rest.length+1=st.rest.length:=by
 unfold PSt.open
 cases hr:st.rest with
 |nil=>exact absurd hr h
 |cons t r=>simp
theorem qaj(st:PSt):∀t∈st.skip.rest,t∈st.rest:=by
 unfold PSt.skip
 cases hr:st.rest with
 |nil=>simp[hr]
 |cons t r=>intro x hx;exact Ae _ hx
theorem qak(st:PSt)(key:Sp):∀t∈(st.open key).rest,t∈st.rest:=by
 unfold PSt.open
 cases hr:st.rest with
 |nil=>simp[hr]
 |cons t r=>intro x hx;exact Ae _ hx
theorem Xb{st:PSt}(h:st.rest≠[]):Okk st st.skip 2:=⟨by have:=qaf h;omega,by have:=qah h;omega,qaj st,by rw[yi];omega,by rw[yi];exact id⟩
def zul(kid:zjo):Prop:=∀had st had' st',kid had st=.inl (had',st')->Okk st st' 2
theorem zdr{kid:zjo}(hk:zul kid){had had':List Bs}{st st':PSt}{n:Nat}{p:Sp}(e:kid had st=.inl (had',st'))(h:st'.rest≠[]):Okk st (st'.addKid n k p).skip 2:=by
 have a:=hk _ _ _ _ e
 have h2:(st'.addKid n k p).rest≠[]:=h
 have b:=Xb h2
 have c:=z1f st' n k p
 have d:=Y0 st' n k p
 have hr:(st'.addKid n k p).rest=st'.rest:=rfl
 exact⟨by have:=a.t;have:=b.t;omega,by have:=a.r;have:=b.r;rw[hr]at this;omega,λt h=>a.w t (b.w t h),by have:=a.n;have:=b.n;omega,λh=>b.m (by have:=a.m h;omega)⟩
theorem zsh{s:Bs}{n:Nat}{closing:Int}(hc:closing≠0){kid:zjo}(hk:zul kid):∀(f:Nat) (had:List Bs) (st st':PSt),Yz s n closing kid f had st=.inl st'->Okk st st' 2
 |0,had,st,st',h=>by unfold Yz PSt.err at h;cases h
 |f+1,had,st,st',h=>by
  rw[Yz]at h
  split at h
  ·cases h
  ·rename_i Z ab e
   split at h
   ·rename_i aa
    cases h
    exact zdr hk e (PSt.ne_kind aa hc)
   ·split at h
    ·rename_i h6
     have a:=zdr hk e (n:=n) (k:=(st.nodes.length:Int)) (p:=(st.last,ab.here s.length)) (PSt.ne_kind h6 (by omega))
     exact(a.trans (zsh hc hk f Z _ st' h)).le (by omega)
    ·unfold PSt.err at h;cases h
theorem zsi{n:Nat}{closing:Int}(hc:closing≠0){kid:zjo}(hk:zul kid){st st':PSt}(h:Wb s n closing kid st=.inl st'):Okk st st' 0:=by
 unfold Wb at h
 split at h
 ·rename_i hx;cases h;exact(Xb (PSt.ne_kind hx hc)).le (by omega)
 ·exact(zsh hc hk _ _ _ _ h).le (by omega)
def z6w(val:znx):Prop:=∀key st st',val key st=.inl st'->Okk st st' 2
theorem zxw{val:znx}(h:z6w val):zul (zch val):=by
 intro had st had' st' e
 unfold zch at e
 split at e
 ·rename_i Z e1;cases e;exact h _ _ _ e1
 ·cases e
theorem z3s{val:znx}(h:z6w val):zul (zny s val):=by
 intro had st had' st' e
 unfold zny at e
 split at e
 ·unfold PSt.err at e;cases e
 ·rename_i t r hr
  split at e
  ·split at e
   ·unfold PSt.err at e;cases e
   ·split at e
    ·rename_i h7
     split at e
     ·rename_i Z e1
      cases e
      have a:=Xb (st:=st) (by rw[hr];simp)
      have b:=Xb (PSt.ne_kind h7 (by omega))
      exact((a.trans b).trans (h _ _ _ e1)).le (by omega)
     ·cases e
    ·unfold PSt.err at e;cases e
  ·unfold PSt.err at e;cases e
theorem zxx{st:PSt}{key:Sp}(h:st.rest≠[])(h4:¬st.nodes.length=4096):Okk st (st.open key) 2:=⟨by have:=qag (key:=key) h;omega,by have:=qai (key:=key) h;omega,qak st key,by rw[zlc h];omega,λh2=>by rw[zlc h];omega⟩
theorem znz(s:Bs):∀d:Nat,z6w (Y3 s d)
 |0=>by
  intro key st st' e
  unfold Y3 at e
  split at e <;> (unfold PSt.err at e;cases e)
 |d+1=>by
  intro key st st' e
  unfold Y3 at e
  split at e
  ·unfold PSt.err at e;cases e
  ·rename_i hk
   split at e
   ·unfold PSt.err at e;cases e
   ·rename_i h4
    split at e
    ·rename_i Z e1
     cases e
     have a:=zxx (key:=key) (zfc hk) h4
     have b:Okk (st.open key) Z 0:=by
      unfold zo3 at e1
      split at e1
      ·exact zsi (by omega) (zxw (znz s d)) e1
      ·split at e1
       ·exact zsi (by omega) (z3s (znz s d)) e1
       ·cases e1;exact Okk.refl _
     have c:Okk Z (Z.setTo st.nodes.length) 0:=⟨z6v _ _,Ad _,λt h=>h,by rw[zci];omega,by rw[zci];exact id⟩
     exact(a.trans b).trans c
    ·cases e
def qb7(s:Bs)(had:List Bs)(st:PSt):PR (Bs×Sp×PSt):=match st.rest with
 |[]=>st.err s 2
 |t::_=>
  if t.1=8 then
   if(Wh (Q9 s t.2)).1∈had then st.err s 7
   else if st.skip.kind=7 then .inl ((Wh (Q9 s t.2)).1,t.2,st.skip.skip)
   else st.skip.err s 2
  else st.err s 2
theorem z1g(s:Bs)(val:znx)(had:List Bs)(st:PSt):zny s val had st=match qb7 s had st with
  |.inl x=>(match val x.2.1 x.2.2 with
   |.inl st'=>.inl (had++[x.1],st')
   |.inr e=>.inr e)
  |.inr e=>.inr e:=by
 unfold zny qb7 PSt.err
 cases st.rest with
 |nil=>rfl
 |cons t r=>
  dsimp only
  by_cases h1:t.1=8
  ·rw[if_pos h1,if_pos h1]
   by_cases h2:(Wh (Q9 s t.2)).1∈had
   ·rw[if_pos h2,if_pos h2]
   ·rw[if_neg h2,if_neg h2]
    by_cases h3:st.skip.kind=7
    ·rw[if_pos h3,if_pos h3] <;> rfl
    ·rw[if_neg h3,if_neg h3]
  ·rw[if_neg h1,if_neg h1]
theorem qal{had:List Bs}{st:PSt}{x:Bs×Sp×PSt}(h:qb7 s had st=.inl x):Okk st x.2.2 4/\x.2.2.nodes=st.nodes:=by
 unfold qb7 PSt.err at h
 split at h
 ·cases h
 ·rename_i t r hr
  split at h
  ·split at h
   ·cases h
   ·split at h
    ·rename_i h7
     cases h
     have a:=Xb (st:=st) (by rw[hr];simp)
     have b:=Xb (PSt.ne_kind h7 (by omega))
     exact⟨a.trans b,by dsimp only;rw[yi,yi]⟩
    ·cases h
  ·cases h
end
section
variable {lvs:List Nat} {l n lk:Nat} {s:Bs} {closing:Int}
structure GoodN (lvs:List Nat) (nodes:List Nd):Prop where
 len:lvs.length=nodes.length
 lv:∀(k l:Nat),lvs[k]?=some l->1<=l/\l<=32
 kid:∀(k l:Nat) (x:Nd),nodes[k]?=some x->lvs[k]?=some l->∀c∈x.2.2.2.1,∃j:Nat,c=(j:Int)/\k<j/\lvs[j]?=some (l+1)
theorem GoodN.nil:GoodN [] []:=⟨rfl,λk l h=>(by cases h),λk l x h=>(by cases h)⟩
theorem GoodN.push{nodes:List Nd}(G:GoodN lvs nodes)(h1:1<=l)(h2:l<=32){x:Nd}(hx:x.2.2.2.1=[]):GoodN (lvs++[l]) (nodes++[x]):=by
 refine⟨by simp[G.len],λk m h=>?_,λk m y hy hm c hc=>?_⟩
 ·rw[List.getElem?_append]at h
  split at h
  ·exact G.lv k m h
  ·have:=Bh h
   rw[Bf]at this;omega
 ·rw[List.getElem?_append]at hy hm
  have hl:=G.len
  by_cases hk:k<nodes.length
  ·rw[if_pos hk]at hy
   rw[if_pos (by omega)]at hm
   obtain⟨j,e1,e2,e3⟩:=G.kid k m y hy hm c hc
   refine⟨j,e1,e2,?_⟩
   rw[Bq (Av.1 e3).1];exact e3
  ·rw[if_neg hk]at hy
   have:=Bh hy
   rw[Bf]at this
   subst this
   rw[hx]at hc;cases hc
theorem GoodN.mod{nodes:List Nd}(G:GoodN lvs nodes){f:Nd->Nd}(h:∀x l c,lvs[n]?=some l->c∈(f x).2.2.2.1->c∈x.2.2.2.1\/∃j:Nat,c=(j:Int)/\n<j/\lvs[j]?=some (l+1)):GoodN lvs (nodes.modify n f):=by
 refine⟨by rw[List.length_modify];exact G.len,G.lv,λk l x hx hl c hc=>?_⟩
 rw[BM]at hx
 cases hy:nodes[k]? with
 |none=>rw[hy]at hx;cases hx
 |some y=>
  rw[hy]at hx
  by_cases e:n=k
  ·subst e
   have hx:f y=x:=by simpa using hx
   subst hx
   rcases h y l c hl hc with h|h
   ·exact G.kid n l y hy hl c h
   ·exact h
  ·have hx:y=x:=by simpa[e]using hx
   subst hx
   exact G.kid k l y hy hl c hc
def qb8(kid:zjo)(lk:Nat):Prop:=∀had st had' st' lvs,kid had st=.inl (had',st')->GoodN lvs st.nodes->∃new,GoodN (lvs++lk::new) st'.nodes
theorem zjp{s:Bs}{n l:Nat}{closing:Int}{kid:zjo}(hk:qb8 kid (l+1)):∀(f:Nat) (had:List Bs) (st st':PSt) (lvs:List Nat),Yz s n closing kid f had st=.inl st'->GoodN lvs st.nodes->lvs[n]?=some l->∃new,GoodN (lvs++new) st'.nodes
 |0,had,st,st',lvs,h,G,hn=>by unfold Yz PSt.err at h;cases h
 |f+1,had,st,st',lvs,h,G,hn=>by
  rw[Yz]at h
  split at h
  ·cases h
  ·rename_i aa ab e
   obtain⟨new,G1⟩:=hk _ _ _ _ lvs e G
   have ai:=(Av.1 hn).1
   have af:=G.len
   have ah:(lvs++(l+1)::new)[n]?=some l:=by rw[Bq ai];exact hn
   have Z:(lvs++(l+1)::new)[st.nodes.length]?=some (l+1):=by
    rw[A5 (by omega),<-af,Ed];rfl
   have G2:GoodN (lvs++(l+1)::new) (ab.addKid n st.nodes.length (st.last,ab.here s.length)).skip.nodes:=by
    rw[yi]
    refine G1.mod λx m c hm hc=>?_
    unfold zxu at hc
    rw[ah]at hm
    cases hm
    rcases As.1 hc with h|h
    ·exact .inl h
    ·rw[Bf]at h
     exact .inr ⟨_,h,by omega,Z⟩
   split at h
   ·cases h;exact⟨_,G2⟩
   ·split at h
    ·obtain⟨ae,G3⟩:=zjp hk f aa _ st' _ h G2 ah
     exact⟨(l+1)::new++ae,by rw[<-AQ];exact G3⟩
    ·unfold PSt.err at h;cases h
theorem zjq{kid:zjo}(hk:qb8 kid (l+1)){st st':PSt}(h:Wb s n closing kid st=.inl st')(G:GoodN lvs st.nodes)(hn:lvs[n]?=some l):∃new,GoodN (lvs++new) st'.nodes:=by
 unfold Wb at h
 split at h
 ·cases h;exact⟨[],by rw[AW,yi];exact G⟩
 ·exact zjp hk _ _ _ _ _ h G hn
def qc5(val:znx)(lk:Nat):Prop:=∀key st st' lvs,val key st=.inl st'->GoodN lvs st.nodes->∃new,GoodN (lvs++lk::new) st'.nodes
theorem zxy{val:znx}(h:qc5 val lk):qb8 (zch val) lk:=by
 intro had st had' st' lvs e G
 unfold zch at e
 split at e
 ·rename_i Z e1;cases e;exact h _ _ _ _ e1 G
 ·cases e
theorem z1h{val:znx}(h:qc5 val lk):qb8 (zny s val) lk:=by
 intro had st had' st' lvs e G
 rw[z1g]at e
 split at e
 ·rename_i x hx
  have Z:=(qal hx).2
  split at e
  ·rename_i aa e1
   cases e
   exact h _ _ _ _ e1 (by rw[Z];exact G)
  ·cases e
 ·cases e
theorem zum{st:PSt}{key:Sp}(h:st.rest≠[]):∃x:Nd,x.2.2.2.1=[]/\(st.open key).nodes=st.nodes++[x]:=by
 unfold PSt.open
 cases hr:st.rest with
 |nil=>exact absurd hr h
 |cons t r=>exact⟨_,rfl,rfl⟩
theorem zsj(s:Bs):∀d:Nat,d<=32->qc5 (Y3 s d) (33-d)
 |0,_=>by
  intro key st st' lvs e G
  unfold Y3 at e
  split at e <;> (unfold PSt.err at e;cases e)
 |d+1,hd=>by
  intro key st st' lvs e G
  have ih:=zsj s d (by omega)
  rw[show 33-d=33-(d+1)+1 by omega]at ih
  unfold Y3 at e
  split at e
  ·unfold PSt.err at e;cases e
  ·rename_i hk
   split at e
   ·unfold PSt.err at e;cases e
   ·split at e
    ·rename_i ab e1
     cases e
     obtain⟨x,aa,Z⟩:=zum (key:=key) (zfc hk)
     have G1:GoodN (lvs++[33-(d+1)]) (st.open key).nodes:=by rw[Z];exact G.push (by omega) (by omega) aa
     have hn:(lvs++[33-(d+1)])[st.nodes.length]?=some (33-(d+1)):=by
      rw[<-G.len,A5 (Ad _),Ed];rfl
     obtain⟨new,G2⟩:∃new,GoodN (lvs++[33-(d+1)]++new) ab.nodes:=by
      unfold zo3 at e1
      split at e1
      ·exact zjq (zxy ih) e1 G1 hn
      ·split at e1
       ·exact zjq (z1h ih) e1 G1 hn
       ·cases e1;exact⟨[],by rw[AW];exact G1⟩
     refine⟨new,?_⟩
     rw[AQ]at G2
     exact G2.mod λx l c hl hc=>.inl hc
    ·cases e
def qb9(kid:zjo):Prop:=∀had st x,kid had st=.inr x->x.2≠0
def qc6(val:znx):Prop:=∀key st x,val key st=.inr x->x.2≠0
theorem zcj{α:Type}{st:PSt}{e:Int}(he:e≠0){x:Int×Int}(h:(st.err s e:PR α)=.inr x):x.2≠0:=by
 unfold PSt.err at h;cases h;exact he
theorem zxz{s:Bs}{n:Nat}{closing:Int}{kid:zjo}(hk:qb9 kid):∀(f:Nat) (had:List Bs) (st:PSt) (x:Int×Int),Yz s n closing kid f had st=.inr x->x.2≠0
 |0,had,st,x,h=>by unfold Yz at h;exact zcj (by omega) h
 |f+1,had,st,x,h=>by
  rw[Yz]at h
  split at h
  ·rename_i y e;cases h;exact hk _ _ _ e
  ·split at h
   ·cases h
   ·split at h
    ·exact zxz hk f _ _ x h
    ·exact zcj (by omega) h
theorem zx0{kid:zjo}(hk:qb9 kid){st:PSt}{x:Int×Int}(h:Wb s n closing kid st=.inr x):x.2≠0:=by
 unfold Wb at h
 split at h
 ·cases h
 ·exact zxz hk _ _ _ _ h
theorem qam{val:znx}(h:qc6 val):qb9 (zch val):=by
 intro had st x e
 unfold zch at e
 split at e
 ·cases e
 ·rename_i y e1;cases e;exact h _ _ _ e1
theorem qc7{val:znx}(h:qc6 val):qb9 (zny s val):=by
 intro had st x e
 unfold zny at e
 split at e
 ·exact zcj (by omega) e
 ·split at e
  ·split at e
   ·exact zcj (by omega) e
   ·split at e
    ·split at e
     ·cases e
     ·rename_i y e1;cases e;exact h _ _ _ e1
    ·exact zcj (by omega) e
  ·exact zcj (by omega) e
theorem z1i(s:Bs):∀d:Nat,qc6 (Y3 s d)
 |0=>by
  intro key st x e
  unfold Y3 at e
  split at e <;> exact zcj (by omega) e
 |d+1=>by
  intro key st x e
  unfold Y3 at e
  split at e
  ·exact zcj (by omega) e
  ·split at e
   ·exact zcj (by omega) e
   ·split at e
    ·cases e
    ·rename_i y e1
     cases e
     unfold zo3 at e1
     split at e1
     ·exact zx0 (qam (z1i s d)) e1
     ·split at e1
      ·exact zx0 (qc7 (z1i s d)) e1
      ·cases e1
theorem zck(h:(ju s).2.2=0):∃lvs,GoodN (1::lvs) (ju s).1.2/\(ju s).1.1=s/\(ju s).2.1=(s.length:Int)/\(ju s).1.2.length<=4096/\∀x∈(ju s).1.2,ndW x<=2*(ym s).1.length:=by
 have Z:∀{x:Int×Int},Y3 s 32 (0,0) ⟨qc (ym s).1,0,[]⟩=.inr x->x.2≠0:=λh=>z1i s 32 _ _ _ h
 unfold ju at h ⊢
 split at h
 ·rename_i h0
  rw[if_pos h0]
  split at h
  ·rename_i st e
   split at h
   ·rename_i hr
    rw[if_pos hr]
    have a:=znz s 32 _ _ _ e
    obtain⟨new,G⟩:=zsj s 32 (by omega) _ _ _ [] e GoodN.nil
    refine⟨new,G,rfl,rfl,a.m (by simp),λx hx=>?_⟩
    have h1:=z6u hx
    have h2:=a.t
    have h3:(⟨qc (ym s).1,0,[]⟩:PSt).T=2*(qc (ym s).1).length:=by unfold PSt.T;simp
    have h4:(qc (ym s).1).length<=(ym s).1.length:=List.length_filter_le _ _
    omega
   ·simp at h
  ·rename_i e he
   exact absurd h (Z he)
 ·rename_i h0
  exact absurd h h0
end
section
def qq(t:Bs)(p:Sp):Bs:=if p.1<0\/p.2<p.1\/(t.length:Int)<p.2 then []else Q9 t p
theorem zds(t:Bs)(p:Sp):(qq t p).length<=t.length:=by
 unfold qq Q9
 split
 ·exact CV _
 ·rw[A1,AC];omega
def Jx(kind:Int)(t:Bs):Bs:=if kind=2 then t else if kind=3 then ye (zn t).1 else if kind=4 then(Wh t).1 else []
def zu5(t:Bs)(x:Nd):Bs:=(Wh (qq t x.2.2.1)).1
def zg3(t:Bs)(nodes:List Nd)(c:Int):Bs:=match nodes[c.toNat]? with
 |some x=>zu5 t x
 |none=>[]
def qw(t:Bs)(nodes:List Nd):Nat->Nat->Tr
 |0,_=>.mk 0 (bl []) [] []
 |f+1,k=>match nodes[k]? with
  |none=>.mk 0 (bl []) [] []
  |some x=>.mk x.1 (bl (Jx x.1 (qq t x.2.1))) (if x.1=6 then x.2.2.2.1.map λc=>bl (zg3 t nodes c)else []) (x.2.2.2.1.map λc=>qw t nodes f c.toNat)
theorem zjr{t:Bs}{nodes:List Nd}{lvs:List Nat}(G:GoodN lvs nodes):∀(f g k l:Nat),lvs[k]?=some l->33-l<=f->33-l<=g->qw t nodes f k=qw t nodes g k
 |0,g,k,l,hl,h1,h2=>by have:=G.lv k l hl;omega
 |f+1,0,k,l,hl,h1,h2=>by have:=G.lv k l hl;omega
 |f+1,g+1,k,l,hl,h1,h2=>by
  unfold qw
  cases hx:nodes[k]? with
  |none=>rfl
  |some x=>
   dsimp only
   congr 1
   refine List.map_congr_left λc hc=>?_
   obtain⟨j,rfl,hj,Z⟩:=G.kid k l x hx hl c hc
   rw[Ah]
   exact zjr G f g j (l+1) Z (by omega) (by omega)
def Qq(s:Bs):Tr×Int×Int:=if(ju s).2.2=0 then(qw s (ju s).1.2 33 0,(s.length:Int),0)else(.mk 0 (bl []) [] [],(ju s).2.1,(ju s).2.2)
end
end Go.X
end
section
namespace Go.X
section
variable {gl:Fr} {R:Bool -> Prop}
theorem z6x(hg:GL gl){s:Bs}(hs:s.length<=1152921504606846976)(h:R (zxo s)):PC Tp gl 167 [Arg.mk .str (bl s)] [.bool] R:=by
 apply zkt
 refine za4 hg hs (qac hg (n:=(zxn s).1) (Q3 s hs) ?_)
 simp only[Bool.cond_false_right]
 exact h
theorem J5(v:Tr):Tr.mk v.kind v.text v.keys v.items=v:=by cases v;rfl
theorem zld{l:List Tr}{k:Nat}(h:k<l.length):l[((k:Int)).toNat]?=some l[k]:=by rw[Ah,Ai h]
theorem zx1{gl:Fr}(v:Tr)(hv:tsz v<=1000000000000){R:Int->Prop}(h:R (tsz v:Int)):PC Tp gl 56 [Arg.mk .tree v] [.int .i64] R:=by
 apply zks
 have ab:=zcg v.items
 have aa:=zjk v
 refine⟨λn i=>∃k:Nat,i=k/\k<=v.items.length/\n=((1+zcf (v.items.take k):Nat):Int),λ_ i=>v.items.length-i.toNat,⟨0,rfl,by omega,by simp[zcf]⟩,?_⟩
 rintro n i ⟨k,rfl,hk,rfl⟩
 refine⟨λhc=>?_,λhc=>?_⟩
 ·have Z:k<v.items.length:=by simp at hc;omega
  refine⟨v.items[k],⟨by omega,zld Z⟩,?_⟩
  rw[J5]
  have hm:v.items[k]∈v.items:=AL Z
  have ae:=Jw hm
  have af:zcf (v.items.take (k+1))<=zcf v.items:=by
   have:=za3 (v.items.take (k+1)) (v.items.drop (k+1))
   rw[Cf]at this;omega
  have ht:=zxl Z
  refine zx1 (v.items[k]) (by omega) ?_
  rw[Xy Z (by omega),w64 (by omega)]
  exact⟨⟨k+1,rfl,by omega,by omega⟩,by simp only[Ah];omega⟩
 ·have Z:k=v.items.length:=by simp at hc;omega
  subst Z
  rw[Bb,<-aa];exact h
termination_by tsz v
theorem zsk{gl:Fr}(v:Tr)(hv:tsz v<=1000000000000){R:Int->Prop}(h:R (tdp v:Int)):PC Tp gl 161 [Arg.mk .tree v] [.int .i64] R:=by
 apply zhp
 have aa:=zcg v.items
 have ah:=zjk v
 have ab:=zp9 v.items
 have ae:=z3o v
 refine⟨λn i=>∃k:Nat,i=k/\k<=v.items.length/\n=((zdn (v.items.take k):Nat):Int),λ_ i=>v.items.length-i.toNat,⟨0,rfl,by omega,by simp[zdn]⟩,?_⟩
 rintro n i ⟨k,rfl,hk,rfl⟩
 refine⟨λhc=>?_,λhc=>?_⟩
 ·have Z:k<v.items.length:=by simp at hc;omega
  refine⟨v.items[k],⟨by omega,zld Z⟩,?_⟩
  rw[J5]
  have hm:v.items[k]∈v.items:=AL Z
  have af:=Jw hm
  have ht:=zxm Z
  refine zsk (v.items[k]) (by omega) ?_
  rw[Xy Z (by omega)]
  refine⟨⟨k+1,rfl,by omega,?_⟩,by simp only[Ah];omega⟩
  rw[ht];split <;> omega
 ·have Z:k=v.items.length:=by simp at hc;omega
  subst Z
  rw[Bb,w64 (by omega)]
  have:((zdn v.items:Nat):Int)+1=(tdp v:Int):=by omega
  rw[this];exact h
termination_by tsz v
theorem z1j{v:Tr}(hv:Sm v)(h:R (Xa v)):PC Tp gl 93 [Arg.mk .tree v] [.bool] R:=by
 apply zho
 rw[J5]
 refine zx1 v hv.sz ⟨λr=>r=(tdp v:Int),λ_=>zsk v hv.sz rfl,λr hr=>?_⟩
 have e:(bif decide ((tsz v:Int)<=4096)then decide (r<=32)else false)=Xa v:=by
  unfold Xa
  cases hc:decide ((tsz v:Int)<=4096)with
  |false=>(have:decide (tsz v<=4096)=false:=by simp at hc ⊢;omega);rw[this];rfl
  |true=>
   have:decide (tsz v<=4096)=true:=by simp at hc ⊢;omega
   rw[this,hr hc,cond_true,Cd,AH];simp;omega
 rw[e];exact h
end
section
theorem XF{vs:List Value}{f:FuncId}{fn:Func}{h:za}{R:Value->za->Prop}{F:Prop}(pl:Plan)(rs:List ResultVar)(n:Nat)(hf:AZ.funcs[f]?=some fn)(H:F)(hb:Z9 fn=true:=by kernel_rfl)(hr:fn.results.toList=rs:=by kernel_rfl)(hn:fn.ntmps=n:=by kernel_rfl)(hz:Nat.ble vs.length n=true:=by kernel_rfl)(e:F=W Tp n pl (codeOf fn) (qbx Tp rs R) (ztf 0 vs) h:=by kernel_rfl):XC Tp f vs.toArray h R:=zth Tryz.mixed pl vs hf hb hr hn hz (Eq.mp e H)
theorem zh3(Z:Sl)(n1:Int)(h:za)(R:Value->za->Prop)
  (H:let b:=h.push (.map #[] 0);∃(c:Int->za->Prop) (d:Int->za->Nat),c 0 b/\∀e:Int,∀f:za,c e f->((decide (e<Z.len)=true->∃g,(Z.a=some g/\0<=e/\e<Z.len)/\∃i,zd f (g.add (e.toNat*1))=some (.string i)/\∃j,QExec Tp (Em 154 (.map (some h.size)) (.string i) false) f (.bool j)/\∃k:Value->za->Prop,((!j)=true->XC Tp 166 #[.string i] f (λl m=>∃n,l=.bool n/\k (.bool n) m))/\((!j)=false->∃o,k (.bool o) f)/\((!j)=true->∀p q,k p q->∃r,p=.bool r)/\∀s:Bool,∀t,k (.bool s) t->((bif j then true else(!s))=true->R (.bool false) t)/\((bif j then true else(!s))=false->XRunU Tp (Dt 154 (.map (some h.size)) (.string i) (.bool true)) t (λu=>(c (Ab .i64 (e+1)) u/\d (Ab .i64 (e+1)) u<d e f))))/\(decide (e<Z.len)=false->R (.bool ((Z.len:Int)==n1)) f))):
  XC Tp 164 #[.slice Z.a Z.len Z.cap,.int .i64 n1] h R:=
 XF ⟨[],[(3,[(13,.one (.int .i64))])],[]⟩ [.tmp 4] 32 Tryz.func164 H
theorem jd(s0:Sl)(Z:FuncId)(ab:Array Value)(aa:Array Value)(h:za)(R:Value->za->Prop)
  (H:XC Tp 233 #[slV s0,.func (.func Z) ab aa] h (λb c=>∃d,b=.int .i64 d/\R (.bool (decide (d>=0))) c)):
  XC Tp 162 #[.slice s0.a s0.len s0.cap,.func (.func Z) ab aa] h R:=
 XF ⟨[],[],[]⟩ [.tmp 4] 9 Tryz.func162 H
theorem jl(s0:Sl)(Z:FuncId)(ab:Array Value)(aa:Array Value)(h:za)(R:Value->za->Prop)
  (H:∃(b:Int->za->Prop) (c:Int->za->Nat),b 0 h/\∀d:Int,∀e:za,b d e->((decide (d<s0.len)=true->∃f,(s0.a=some f/\0<=d/\d<s0.len)/\∃g i j k,ze e (f.add (d.toNat*4)) 0 [.int .i64 g,.string i,slV j,slV k]/\zp Tp Z=true/\XC Tp Z (ab++#[.agg #[.int .i64 g,.string i,slV j,slV k]]++aa) e (λl m=>∃n,l=.bool n/\(n=true->R (.int .i64 d) m)/\(n=false->(b (Ab .i64 (d+1)) m/\c (Ab .i64 (d+1)) m<c d e))))/\(decide (d<s0.len)=false->R (.int .i64 (-1)) e))):
  XC Tp 233 #[.slice s0.a s0.len s0.cap,.func (.func Z) ab aa] h R:=
 XF ⟨[],[(2,[(8,.one (.int .i64))])],[]⟩ [.tmp 4] 19 Tryz.func233 H
theorem zey(b:Int)(c:Bt)(d:Sl)(e:Sl)(c1:Addr)(h:za)(R:Value->za->Prop)
  (H:let f:=h.push (.cells #[.int .i64 b,.string c,slV d,slV e] 26);∃g i j k,ze f ⟨h.size,0,none⟩ 0 [.int .i64 g,.string i,slV j,slV k]/\∃l:Value,zd f c1=some l/\XC Tp 94 #[.agg #[.int .i64 g,.string i,slV j,slV k],l] f (λm n=>∃o,m=.bool o/\R (.bool (!o)) n)):
  XC Tp 163 #[.agg #[.int .i64 b,.string c,.slice d.a d.len d.cap,.slice e.a e.len e.cap],.pointer (some c1)] h R:=
 XF ⟨[],[],[]⟩ [.tmp 3] 8 Tryz.func163 H
theorem zh4(b:Int)(c:Bt)(d:Sl)(e:Sl)(Z:FuncId)(ab:Array Value)(aa:Array Value)(h:za)(R:Value->za->Prop)
  (H:let f:=h.push (.cells #[.int .i64 b,.string c,slV d,slV e] 26);let g:=f.push (.cells #[.func (.func Z) ab aa] 65);∃i:Value,zd g ⟨f.size,0,none⟩=some i/\∃j k l m,ze g ⟨h.size,0,none⟩ 0 [.int .i64 j,.string k,slV l,slV m]/\z9a Tp i #[.agg #[.int .i64 j,.string k,slV l,slV m]] (λn o=>XC Tp n o g (λp q=>∃r,p=.bool r/\∃s,(r=true->zd q (Al ⟨h.size,0,none⟩ 3)=some (slV s))/\∃t:Value->za->Prop,(r=true->XC Tp 162 #[slV s,.func (.func 163) #[] #[.pointer (some ⟨f.size,0,none⟩)]] q (λu v=>∃w,u=.bool w/\t (.bool w) v))/\(r=false->∃x,t (.bool x) q)/\(r=true->∀y z,t y z->∃A,y=.bool A)/\∀B:Bool,∀C,t (.bool B) C->R (.bool (bif r then(!B)else false)) C))):
  XC Tp 94 #[.agg #[.int .i64 b,.string c,.slice d.a d.len d.cap,.slice e.a e.len e.cap],.func (.func Z) ab aa] h R:=
 XF ⟨[],[],[]⟩ [.tmp 4] 15 Tryz.func94 H
theorem zle(b:Int)(c:Bt)(d:Sl)(e:Sl)(h:za)(R:Value->za->Prop)
  (H:let f:=h.push (.cells #[.int .i64 b,.string c,slV d,slV e] 26);∃g i j k,ze f ⟨h.size,0,none⟩ 0 [.int .i64 g,.string i,slV j,slV k]/\XC Tp 93 #[.agg #[.int .i64 g,.string i,slV j,slV k]] f (λl m=>∃n,l=.bool n/\∃o p q r,(n=true->ze m ⟨h.size,0,none⟩ 0 [.int .i64 o,.string p,slV q,slV r])/\∃s:Value->za->Prop,(n=true->XC Tp 94 #[.agg #[.int .i64 o,.string p,slV q,slV r],.func (.func 96) #[] #[]] m (λt u=>∃v,t=.bool v/\s (.bool v) u))/\(n=false->∃w,s (.bool w) m)/\(n=true->∀x y,s x y->∃z,x=.bool z)/\∀A:Bool,∀B,s (.bool A) B->R (.bool (bif n then A else false)) B)):
  XC Tp 88 #[.agg #[.int .i64 b,.string c,.slice d.a d.len d.cap,.slice e.a e.len e.cap]] h R:=
 XF ⟨[],[],[]⟩ [.tmp 2] 9 Tryz.func88 H
theorem jy(s0:Sl)(Z:FuncId)(ab:Array Value)(aa:Array Value)(h:za)(R:Value->za->Prop)
  (H:XC Tp 208 #[slV s0,.func (.func Z) ab aa] h (λb c=>∃d,b=.int .i64 d/\R (.bool (decide (d>=0))) c)):
  XC Tp 132 #[.slice s0.a s0.len s0.cap,.func (.func Z) ab aa] h R:=
 XF ⟨[],[],[]⟩ [.tmp 4] 9 Tryz.func132 H
theorem w8(s0:Sl)(Z:FuncId)(ab:Array Value)(aa:Array Value)(h:za)(R:Value->za->Prop)
  (H:∃(b:Int->za->Prop) (c:Int->za->Nat),b 0 h/\∀d:Int,∀e:za,b d e->((decide (d<s0.len)=true->∃f,(s0.a=some f/\0<=d/\d<s0.len)/\∃g,zd e (f.add (d.toNat*1))=some (.string g)/\zp Tp Z=true/\XC Tp Z (ab++#[.string g]++aa) e (λi j=>∃k,i=.bool k/\(k=true->R (.int .i64 d) j)/\(k=false->(b (Ab .i64 (d+1)) j/\c (Ab .i64 (d+1)) j<c d e))))/\(decide (d<s0.len)=false->R (.int .i64 (-1)) e))):
  XC Tp 208 #[.slice s0.a s0.len s0.cap,.func (.func Z) ab aa] h R:=
 XF ⟨[],[(2,[(8,.one (.int .i64))])],[]⟩ [.tmp 4] 19 Tryz.func208 H
theorem zcl(s0:Bt)(h:za)(R:Value->za->Prop)
  (H:XC Tp 134 #[.string s0] h (λa b=>∃c,a=.bool c/\R (.bool (!c)) b)):
  XC Tp 133 #[.string s0] h R:=
 XF ⟨[],[],[]⟩ [.tmp 2] 6 Tryz.func133 H
theorem zez(Z:Sl)(h:za)(R:Value->za->Prop)
  (H:∃b:Value->za->Prop,(decide ((Z.len:Int)<=64)=true->XC Tp 132 #[slV Z,.func (.func 133) #[] #[]] h (λc d=>∃e,c=.bool e/\b (.bool e) d))/\(decide ((Z.len:Int)<=64)=false->∃f,b (.bool f) h)/\(decide ((Z.len:Int)<=64)=true->∀g i,b g i->∃j,g=.bool j)/\∀k:Bool,∀l,b (.bool k) l->R (.bool (bif (decide ((Z.len:Int)<=64))then(!k)else false)) l):
  XC Tp 70 #[.slice Z.a Z.len Z.cap] h R:=
 XF ⟨[],[],[]⟩ [.tmp 2] 11 Tryz.func70 H
theorem zh5(b:Int)(c:Bt)(d:Sl)(e:Sl)(h:za)(R:Value->za->Prop)
  (H:let f:=h.push (.cells #[.int .i64 b,.string c,slV d,slV e] 26);let g:=f.push (.cells #[.int .i64 0,.string (⟨#[]⟩:Bt),.slice none 0 0,.slice none 0 0] 26);∃i,zd g (Al ⟨h.size,0,none⟩ 2)=some (slV i)/\∃j,zd g (Al ⟨h.size,0,none⟩ 3)=some (slV j)/\XC Tp 231 #[slV i] g (λk l=>∃m,k=slV m/\Keep g.size g l/\XC Tp 232 #[slV j] l (λn o=>∃p,n=slV p/\XRunU Tp (An 23 (.pointer (some (Al ⟨h.size,0,none⟩ 2))) (slV m)) o (λq=>XRunU Tp (An 24 (.pointer (some (Al ⟨h.size,0,none⟩ 3))) (slV p)) q (λr=>∃s,zd r (Al ⟨h.size,0,none⟩ 3)=some (slV s)/\∃(t:Int->za->Prop) (u:Int->za->Nat),t 0 r/\∀v:Int,∀w:za,t v w->((decide (v<s.len)=true->∃x,(s.a=some x/\0<=v/\v<s.len)/\∃y z A B,ze w (x.add (v.toNat*4)) 0 [.int .i64 y,.string z,slV A,slV B]/\let C:=w.push (.cells #[.int .i64 0,.string (⟨#[]⟩:Bt),.slice none 0 0,.slice none 0 0] 26);XRunU Tp (An 26 (.pointer (some ⟨w.size,0,none⟩)) (.agg #[.int .i64 y,.string z,slV A,slV B])) C (λD=>∃E,zd D (Al ⟨h.size,0,none⟩ 3)=some (slV E)/\∃F G I J,ze D ⟨w.size,0,none⟩ 0 [.int .i64 F,.string G,slV I,slV J]/\∃L,(E.a=some L/\0<=v/\v<E.len)/\XC Tp 160 #[.agg #[.int .i64 F,.string G,slV I,slV J]] D (λM N=>∃O P Q S,M=.agg #[.int .i64 O,.string P,slV Q,slV S]/\Keep D.size D N/\XRunU Tp (An 26 (.pointer (some (L.add (v.toNat*4)))) (.agg #[.int .i64 O,.string P,slV Q,slV S])) N (λT=>(t (Ab .i64 (v+1)) T/\u (Ab .i64 (v+1)) T<u v w)))))/\(decide (v<s.len)=false->∃U V W X,ze w ⟨h.size,0,none⟩ 0 [.int .i64 U,.string V,slV W,slV X]/\XRunU Tp (An 26 (.pointer (some ⟨f.size,0,none⟩)) (.agg #[.int .i64 U,.string V,slV W,slV X])) w (λY=>∃Z aa ab ac,ze Y ⟨f.size,0,none⟩ 0 [.int .i64 Z,.string aa,slV ab,slV ac]/\R (.agg #[.int .i64 Z,.string aa,slV ab,slV ac]) Y)))))))):
  XC Tp 160 #[.agg #[.int .i64 b,.string c,.slice d.a d.len d.cap,.slice e.a e.len e.cap]] h R:=
 XF ⟨[(1,2000),(5,2000)],[(3,[(16,.one (.int .i64))])],[]⟩ [.cell 2 26] 29 Tryz.func160 H
theorem Zo(s0:Sl)(h:za)(R:Value->za->Prop)
  (H:(s0.a.isNone=true->R (.slice none 0 0) h)/\(s0.a.isNone=false->let b:=h.push (.cells #[] 9);XRun Tp (AB #[23,23] 23 #[.slice (some ⟨h.size,0,none⟩) 0 0,slV s0]) b (λc d=>∃e,c=slV e/\R (slV e) d))):
  XC Tp 231 #[.slice s0.a s0.len s0.cap] h R:=
 XF ⟨[],[],[]⟩ [.tmp 2] 8 Tryz.func231 H
theorem wb(s0:Sl)(h:za)(R:Value->za->Prop)
  (H:(s0.a.isNone=true->R (.slice none 0 0) h)/\(s0.a.isNone=false->let b:=h.push (.cells #[] 26);XRun Tp (AB #[24,24] 24 #[.slice (some ⟨h.size,0,none⟩) 0 0,slV s0]) b (λc d=>∃e,c=slV e/\R (slV e) d))):
  XC Tp 232 #[.slice s0.a s0.len s0.cap] h R:=
 XF ⟨[],[],[]⟩ [.tmp 2] 8 Tryz.func232 H
theorem zlf(b:Int)(c:Bt)(d:Sl)(e:Sl)(h:za)(R:Value->za->Prop)
  (H:let f:=h.push (.cells #[.int .i64 b,.string c,slV d,slV e] 26);let g:=f.push (.cells #[.int .i64 0,.string (⟨#[]⟩:Bt),.slice none 0 0,.slice none 0 0] 26);∃i j k l,ze g ⟨h.size,0,none⟩ 0 [.int .i64 i,.string j,slV k,slV l]/\XC Tp 88 #[.agg #[.int .i64 i,.string j,slV k,slV l]] g (λm n=>∃o,m=.bool o/\((!o)=true->XRunU Tp (An 26 (.pointer (some ⟨f.size,0,none⟩)) (.agg #[.int .i64 0,.string (⟨#[]⟩:Bt),.slice none 0 0,.slice none 0 0])) n (λp=>∃q r s t,ze p ⟨f.size,0,none⟩ 0 [.int .i64 q,.string r,slV s,slV t]/\R (.agg #[.int .i64 q,.string r,slV s,slV t]) p))/\((!o)=false->∃u v w x,ze n ⟨h.size,0,none⟩ 0 [.int .i64 u,.string v,slV w,slV x]/\XC Tp 160 #[.agg #[.int .i64 u,.string v,slV w,slV x]] n (λy z=>∃A B C D,y=.agg #[.int .i64 A,.string B,slV C,slV D]/\XRunU Tp (An 26 (.pointer (some ⟨f.size,0,none⟩)) (.agg #[.int .i64 A,.string B,slV C,slV D])) z (λE=>∃F G I J,ze E ⟨f.size,0,none⟩ 0 [.int .i64 F,.string G,slV I,slV J]/\R (.agg #[.int .i64 F,.string G,slV I,slV J]) E))))):
  XC Tp 90 #[.agg #[.int .i64 b,.string c,.slice d.a d.len d.cap,.slice e.a e.len e.cap]] h R:=
 XF ⟨[],[],[]⟩ [.cell 2 26] 9 Tryz.func90 H
theorem zg4(b:Int)(c:Bt)(d:Sl)(e:Sl)(Z:Sl)(h:za)(R:Value->za->Prop)
  (H:let f:=h.push (.cells #[.int .i64 b,.string c,slV d,slV e] 26);let g:=f.push (.cells #[slV Z] 23);R (.func (.func 229) #[] #[.pointer (some ⟨f.size,0,none⟩),.pointer (some ⟨h.size,0,none⟩)]) g):
  XC Tp 159 #[.agg #[.int .i64 b,.string c,.slice d.a d.len d.cap,.slice e.a e.len e.cap],.slice Z.a Z.len Z.cap] h R:=
 XF ⟨[],[],[]⟩ [.tmp 4] 6 Tryz.func159 H
end
section
variable {gl M:Fr} {F:FuncId} {A C:Array Value} {h:za} {s:Sl}
theorem zx2:MapT Tp 154 9 4 (.bool false):=⟨by kernel_rfl,by kernel_rfl,⟨Tryz.t4,by kernel_rfl,by kernel_rfl⟩⟩
set_option maxHeartbeats 1000000 in
theorem z1k(hg:GL gl){ks:List Bt}{n:Int}(hk:∀k∈ks,(lb k).length<=1048576){R:Bool->Prop}(h:R (W9 ks&&decide ((ks.length:Int)=n))):PC Tp gl 164 [Arg.mk (.row .str) ks,Arg.mk (.int .i64) n] [.bool] R:=by
 intro hp M vs hM ag ha
 match vs,ha with
 |[u,w],⟨h1,h2,_⟩=>
  obtain⟨s,rfl,hr⟩:=z5z h1
  have hw:=yo h2
  subst hw
  have hr:Rd M (.row .str) ks [slV s]:=hr
  obtain⟨ax,aJ,aI⟩:=rowLen hr
  apply PX.of
  apply zh3 s n
  intro g0
  have kg:Keep hp.size hp g0:=Keep.push _ _ (Ad _)
  have sg:g0.size=hp.size+1:=Ak _
  have mg:MapAt g0 hp.size []:=MapAt.new hp
  clear_value g0
  refine⟨λi h4=>∃k:Nat,i=k/\k<=ks.length/\hp.size<h4.size/\(∃M4,Later hp M h4 M4/\M4 hp.size=none)/\(∃l,MapAt h4 hp.size l/\∀x,z0e l x (.bool false)=.bool (decide (x∈ks.take k)))/\W9 (ks.take k)=true,λi _=>ks.length-i.toNat,
   ⟨0,rfl,by omega,by omega,⟨M,Later.same ag kg,ag.none (Ad _)⟩,⟨[],mg,λx=>rfl⟩,by simp[W9]⟩,?_⟩
  rintro i h4 ⟨k,rfl,aL,af,⟨M4,L4,az⟩,⟨l,ai,au⟩,ah⟩
  refine⟨λhc=>?_,λhc=>?_⟩
  ·have ab:k<ks.length:=by simp at hc;omega
   have aC:=Rd.mono L4.le hr
   refine z6a L4.ag aC ab rfl rfl ?_
   have an:=zf1 zx2 ai ks[k] false
   rw[au]at an
   refine⟨decide (ks[k]∈ks.take k),an,?_⟩
   have Z:=znt hg.tabs (l:=lb ks[k]) (R:=λb=>b=wo (lb ks[k])) (by have:=hk _ (AL ab);omega) rfl
   rw[zhs]at Z
   generalize hd:decide (ks[k]∈ks.take k)=d
   refine⟨λv h5=>∃b,v=.bool b/\(d=false->b=wo (lb ks[k]))/\hp.size<h5.size/\(∃M5,Later hp M h5 M5/\M5 hp.size=none)/\MapAt h5 hp.size l,λhn=>?_,λhn=>⟨true,true,rfl,λe=>(by rw[e]at hn;cases hn),af,⟨M4,L4,az⟩,ai⟩,λ_ v h5 ⟨b,e,_⟩=>⟨b,e⟩,?_⟩
   ·refine Z.go (vs:=[.string ks[k]]) (hM.trans L4.le) L4.ag (jc (rdStr _) xb) λv h5 M5 r L5 ap aB=>⟨r,zr2 ap,r,rfl,λ_=>aB,by have:=L5.keep.size;omega,⟨M5,L4.trans L5,by rw[L5.old _ af,az]⟩,ai.keep (L5.keep.get _ af)⟩
   ·rintro b h5 ⟨b',e,hb,aH,⟨M5,L5,am⟩,aF⟩
    cases e
    have ay:ks.take (k+1)=ks.take k++[ks[k]]:=AD ab
    have ar:W9 (ks.take (k+1))=(!d&&wo (lb ks[k])):=by
     have aa:=ah
     unfold W9 at aa ⊢
     rw[AY,decide_eq_true_eq]at aa
     rw[ay,D4,aa.1,<-hd]
     have:decide (List.take k ks++[ks[k]]).Nodup=!decide (ks[k]∈ks.take k):=by
      rw[AH]
      simp only[decide_eq_true_eq,CZ,decide_eq_false_iff_not,Bl]
      constructor
      ·rintro⟨_,_,h3⟩ ae
       exact h3 _ ae _ (by simp) rfl
      ·intro ae
       exact⟨aa.2,by simp,λa ha b hb e=>ae (by simp at hb;rw[<-hb,<-e];exact ha)⟩
     rw[this];simp[Bool.and_comm]
    refine⟨λhx=>?_,λhx=>?_⟩
    ·refine⟨M5,_,L5,zjd.2 (rdBool _),?_⟩
     have hf:W9 (ks.take (k+1))=false:=by
      rw[ar]
      cases d with
      |true=>rfl
      |false=>rw[hb rfl]at hx;simpa using hx
     have aA:W9 ks=false:=by
      cases hks:W9 ks with
      |false=>rfl
      |true=>
       unfold W9 at hks hf
       rw[AY,decide_eq_true_eq]at hks
       have h1:((ks.take (k+1)).all λk=>wo (lb k))=true:=by
        rw[AX]at hks ⊢
        exact λx hx=>hks.1 x (List.mem_of_mem_take hx)
       have h2:(ks.take (k+1)).Nodup:=hks.2.sublist (List.take_sublist _ _)
       rw[h1,decide_eq_true h2]at hf;cases hf
     rw[aA]at h;exact h
    ·have aj:d=false:=by cases d with
      |true=>simp at hx
      |false=>rfl
     have aG:wo (lb ks[k])=true:=by rw[<-hb aj];rw[aj]at hx;simpa using hx
     refine zmj zx2 aF ks[k] (.bool true) λh6 m6 s6 o6=>?_
     rw[Xy ab (by omega)]
     refine⟨⟨k+1,rfl,by omega,by omega,⟨M5,⟨⟨by have:=L5.keep.size;omega,λi hi=>by rw[o6 i (by omega)];exact L5.keep.get i hi⟩,L5.le,L5.old,?_⟩,am⟩,⟨_,m6,λx=>?_⟩,by rw[ar,aj,aG];rfl⟩,by simp only[Ah];omega⟩
     ·intro b c e
      have aE:b≠hp.size:=λe2=>by rw[e2,am]at e;cases e
      obtain⟨T,m,e'⟩:=L5.ag b c e
      exact⟨T,m,by rw[o6 b aE];exact e'⟩
     ·unfold z0e
      rw[zmh,ay]
      by_cases ak:ks[k]=x
      ·subst ak
       rw[if_pos rfl]
       simp only[As,Bf,or_true,decide_true,Option.getD_some]
      ·rw[if_neg ak]
       have:=au x
       unfold z0e at this
       rw[this]
       congr 1
       rw[AH,decide_eq_true_eq,decide_eq_true_eq,As,Bf]
       exact⟨.inl,λe=>e.elim id λe=>absurd e.symm ak⟩
  ·have ab:k=ks.length:=by simp at hc;omega
   subst ab
   rw[Bb]at ah
   refine⟨M4,_,L4,zjd.2 (rdBool _),?_⟩
   rw[ah,Cd]at h
   have:(((s.len:Nat):Int)==n)=decide ((ks.length:Int)=n):=by rw[ax,AH];simp
   rw[this];exact h
def Beh(gl:Fr)(F:FuncId)(A C:Array Value)(h:za)(M:Fr)(t:Ty)(x:El t)(b:Bool):Prop:=
 zp Tp F=true/\∀h' M' u,Later h M h' M'->RdV M' t x u->PX Tp F (A++#[u]++C) h' M' [.bool] (λr=>r=b)
theorem qan(ag:AgM M h){xs:List Tr}(hr:Rd M (.row .tree) xs [slV s]){p:Tr->Bool}(hb:∀x∈xs,Beh gl F A C h M .tree x (p x)):
  PX Tp 162 #[slV s,.func (.func F) A C] h M [.bool] (λr=>r=xs.any p):=by
 apply PX.of
 apply jd s F A C
 apply jl s F A C
 obtain⟨af,ai,ah⟩:=rowLen hr
 refine⟨λi h4=>∃k:Nat,i=k/\k<=xs.length/\(∃M4,Later h M h4 M4)/\(xs.take k).any p=false,λi _=>xs.length-i.toNat,⟨0,rfl,by omega,⟨M,Later.refl ag⟩,by simp⟩,?_⟩
 rintro i h4 ⟨k,rfl,hk,⟨M4,L4⟩,aa⟩
 refine⟨λhc=>?_,λhc=>?_⟩
 ·have Z:k<xs.length:=by simp at hc;omega
  obtain⟨a,sk,si,e1,e2,e3,e4⟩:=z3i L4.ag (Rd.mono L4.le hr) Z
  refine⟨a,⟨e1,by omega,by omega⟩,xs[k].kind,xs[k].text,sk,si,by rw[Ah];exact e2,(hb _ (AL Z)).1,?_⟩
  refine((hb _ (AL Z)).2 h4 M4 _ L4 (Wx e3 e4)).go λv h5 M5 r L5 ae ab=>⟨r,zr2 ae,λhx=>?_,λhx=>?_⟩
  ·refine⟨(k:Int),rfl,M5,_,L4.trans L5,zjd.2 (rdBool _),?_⟩
   have:xs.any p=true:=DT.2 ⟨xs[k],AL Z,by rw[<-ab];exact hx⟩
   rw[this];simp
  ·rw[Xy Z (by omega)]
   refine⟨⟨k+1,rfl,by omega,⟨M5,L4.trans L5⟩,?_⟩,by simp only[Ah];omega⟩
   rw[AD Z,List.any_append,aa]
   simp only[List.any_cons,List.any_nil,<-ab,hx];rfl
 ·have Z:k=xs.length:=by simp at hc;omega
  subst Z
  rw[Bb]at aa
  refine⟨-1,rfl,M4,_,L4,zjd.2 (rdBool _),?_⟩
  rw[aa];rfl
theorem qc8(ag:AgM M h){xs:List Bt}(hr:Rd M (.row .str) xs [slV s]){p:Bt->Bool}(hb:∀x∈xs,Beh gl F A C h M .str x (p x)):
  PX Tp 132 #[slV s,.func (.func F) A C] h M [.bool] (λr=>r=xs.any p):=by
 apply PX.of
 apply jy s F A C
 apply w8 s F A C
 obtain⟨af,ai,ah⟩:=rowLen hr
 refine⟨λi h4=>∃k:Nat,i=k/\k<=xs.length/\(∃M4,Later h M h4 M4)/\(xs.take k).any p=false,λi _=>xs.length-i.toNat,⟨0,rfl,by omega,⟨M,Later.refl ag⟩,by simp⟩,?_⟩
 rintro i h4 ⟨k,rfl,hk,⟨M4,L4⟩,aa⟩
 refine⟨λhc=>?_,λhc=>?_⟩
 ·have Z:k<xs.length:=by simp at hc;omega
  refine z6a L4.ag (Rd.mono L4.le hr) Z rfl rfl ⟨(hb _ (AL Z)).1,?_⟩
  refine((hb _ (AL Z)).2 h4 M4 _ L4 (rdStr _)).go λv h5 M5 r L5 ab ae=>⟨r,zr2 ab,λhx=>?_,λhx=>?_⟩
  ·refine⟨(k:Int),rfl,M5,_,L4.trans L5,zjd.2 (rdBool _),?_⟩
   have:xs.any p=true:=DT.2 ⟨xs[k],AL Z,by rw[<-ae];exact hx⟩
   rw[this];simp
  ·rw[Xy Z (by omega)]
   refine⟨⟨k+1,rfl,by omega,⟨M5,L4.trans L5⟩,?_⟩,by simp only[Ah];omega⟩
   rw[AD Z,List.any_append,aa]
   simp only[List.any_cons,List.any_nil,<-ae,hx];rfl
 ·have Z:k=xs.length:=by simp at hc;omega
  subst Z
  rw[Bb]at aa
  refine⟨-1,rfl,M4,_,L4,zjd.2 (rdBool _),?_⟩
  rw[aa];rfl
end
section
variable {l:List Bt} {gl:Fr} {v:Tr} {R:Bool -> Prop} {F:FuncId}
theorem qeb:decide (((l.length:Nat):Int)>0)=!l.isEmpty:=by cases l <;> simp
theorem qc9{l:List Tr}:decide (((l.length:Nat):Int)>0)=!l.isEmpty:=by cases l <;> simp
theorem z3t(s:Bt):(s.toList==(⟨#[]⟩:Bt).toList)=(lb s==[]):=by
 have:=zev (lb s) []
 rw[zhs]at this
 rw[show(⟨#[]⟩:Bt)=bl []from rfl,this,AH];simp
theorem qao(s:Bt)(l:Bs):(s.toList==(bl l).toList)=(lb s==l):=by
 have:=zev (lb s) l
 rw[zhs]at this
 rw[this,AH];simp
theorem qec{k n:Int}:(k==n)=decide (k=n):=by rw[AH];simp
set_option maxHeartbeats 1000000 in
theorem z6y(hg:GL gl)(hv:Sm v)(h:R (Zr v)):PC Tp gl 96 [Arg.mk .tree v] [.bool] R:=by
 apply zkr
 have ht:(lb v.text).length<=1152921504606846976:=by have:=hv.text;omega
 have key:∀b,b=Zr v->R b:=λb hb=>by rw[hb];exact h
 have hd:=za4 hg (s:=lb v.text) (R:=λr=>R r.2\/v.kind≠3) ht
 have ah:=znt hg.tabs (l:=lb v.text) (R:=λr=>r=wo (lb v.text)) (by omega) rfl
 have af:=z6x hg (s:=lb v.text) (R:=λr=>r=zxo (lb v.text)) ht rfl
 have ae:=za4 hg (s:=lb v.text) (R:=λr=>r.2=(zxn (lb v.text)).2) ht rfl
 rw[zhs]at ah af ae
 simp only[qec,qeb,qc9,show(⟨#[116,114,117,101]⟩:Bt)=bl [116,114,117,101]from rfl,show(⟨#[102,97,108,115,101]⟩:Bt)=bl [102,97,108,115,101]from rfl,qao]
 unfold Zr at key
 refine⟨λh5=>key _ ?_,λh5=>⟨λh6=>?_,λh6=>⟨λhx=>key _ ?_,λhx=>?_⟩⟩⟩
 ·have:v.kind=5:=by simpa using h5
  simp[this,Bool.and_comm]
 ·have Z:v.kind=6:=by simpa using h6
  refine z1k hg (λk hk=>hv.key hk) (key _ ?_)
  simp only[Z]
  rw[Bool.cond_false_right]
  have:decide ((v.keys.length:Int)=(v.items.length:Int))=decide (v.keys.length=v.items.length):=by rw[AH,decide_eq_true_eq,decide_eq_true_eq];omega
  rw[this];rfl
 ·have ab:v.kind≠5:=by simpa using h5
  have Z:v.kind≠6:=by simpa using h6
  have aa:(v.keys.isEmpty&&v.items.isEmpty)=false:=by
   cases hk:v.keys.isEmpty <;> cases hi:v.items.isEmpty <;> simp[hk,hi]at hx ⊢
  simp only[ab,Z,if_false,Bool.and_assoc,aa,Bool.and_false]
  simp
 ·have ab:v.kind≠5:=by simpa using h5
  have Z:v.kind≠6:=by simpa using h6
  have aa:v.keys.isEmpty=true/\v.items.isEmpty=true:=by
   cases hk:v.keys.isEmpty <;> cases hi:v.items.isEmpty <;> simp[hk,hi]at hx ⊢
  simp only[ab,Z,if_false,aa.1,aa.2,C7]at key
  refine⟨λh1=>key _ ?_,λh1=>⟨λh2=>key _ ?_,λh2=>⟨λh3=>?_,λh3=>⟨λh4=>?_,λh4=>⟨λh7=>?_,λh7=>key _ ?_⟩⟩⟩⟩⟩
  ·have:v.kind=1:=by simpa using h1
   simp[this]
  ·have:v.kind=2:=by simpa using h2
   simp[this]
  ·have:v.kind=3:=by simpa using h3
   exact ae.mono λr hr=>key _ (by rw[hr];simp[this])
  ·have:v.kind=4:=by simpa using h4
   exact ah.mono λr hr=>key _ (by rw[hr];simp[this])
  ·have:v.kind=7:=by simpa using h7
   exact af.mono λr hr=>key _ (by rw[hr];simp[this])
  ·have an:v.kind≠1:=by simpa using h1
   have ai:v.kind≠2:=by simpa using h2
   have am:v.kind≠3:=by simpa using h3
   have aj:v.kind≠4:=by simpa using h4
   have ak:v.kind≠7:=by simpa using h7
   simp[an,ai,am,aj,ak]
theorem z1l{k:Nat}(h:k<l.length):l[((k:Int)).toNat]?=some l[k]:=by rw[Ah,Ai h]
theorem z1m(hF:zp Tp F=true){p:Tr->Bool}(hp:∀x,Sm x->PC Tp gl F [Arg.mk .tree x] [.bool] (λr=>r=p x))(n:Nat):∀(v:Tr),tsz v<=n->Sm v->∀{h:za} {M:Fr} {u:Value},Fr.le gl M->AgM M h->RdV M .tree v u ->
  PX Tp 94 #[u,.func (.func F) #[] #[]] h M [.bool] (λr=>r=zh1 p v):=by
 induction n with
 |zero=>intro v hn;have:=zxk v;omega
 |succ n ih=>
 intro v hn hv h M u hM ag hu
 have aB:=hu
 obtain⟨sk,si,rfl,rk,ri⟩:=Yp hu
 apply PX.of
 apply zh4 v.kind v.text sk si F #[] #[]
 intro h1 h2
 have L1:Later h M h1 M:=Later.push ag _
 have Z:Later h1 M h2 (Mx M h1.size #[.func (.func F) #[] #[]]):=Later.frz L1.ag _ _
 have s1:h1.size=h.size+1:=Ak _
 have s2:h2.size=h1.size+1:=Ak _
 have ae:ze h2 ⟨h.size,0,none⟩ 0 [.int .i64 v.kind,.string v.text,slV sk,slV si]:=z6b (h':=h2) (by have:=Z.keep;rw[s1]at this;exact this)
 have ar:∀h':za,Keep h2.size h2 h'->zd h' (Al ⟨h.size,0,none⟩ 3)=some (slV si):=λh' k=>by
  refine z6c (h:=h) (T:=26) (cs:=[.int .i64 v.kind,.string v.text,slV sk,slV si]) ?_ rfl
  have:=Z.keep.trans k (by omega)
  rw[s1]at this;exact this
 have ab:zd h2 ⟨h1.size,0,none⟩=some (.func (.func F) #[] #[]):=Z.ag.cell (zwx _ _ _) rfl
 have aA:(Mx M h1.size #[.func (.func F) #[] #[]]) h1.size=some #[.func (.func F) #[] #[]]:=zwx _ _ _
 have L2:=L1.trans Z
 clear_value h1 h2
 generalize (Mx M h1.size #[.func (.func F) #[] #[]])=M2 at *
 refine⟨_,ab,v.kind,v.text,sk,si,ae,hF,?_⟩
 refine(hp v hv).go (vs:=[.agg #[.int .i64 v.kind,.string v.text,slV sk,slV si]]) (hM.trans L2.le) L2.ag (jc (RdV.mono L2.le aB) xb) λw h3 M3 r L3 aj hr=>?_
 refine⟨r,zr2 aj,si,λ_=>ar h3 L3.keep,?_⟩
 have aa:=L2.trans L3
 refine⟨λw h4=>∃b,w=.bool b/\(r=true->b=!(zdo p v.items))/\∃M4,Later h M h4 M4,λaF=>?_,λai=>⟨true,true,rfl,λe=>(by rw[e]at ai;cases ai),M3,aa⟩,λ_ w h4 ⟨b,e,_⟩=>⟨b,e⟩,?_⟩
 ·have an:Rd M3 (.row .tree) v.items [slV si]:=Rd.mono aa.le ri
  have az:M3 h1.size=some #[.func (.func F) #[] #[]]:=L3.le _ _ aA
  refine(qan (gl:=gl) L3.ag an (p:=λx=>!(zh1 p x)) λx hx=>⟨by kernel_rfl,λh' M' u' L' ak=>?_⟩).go λw h4 M4 b L4 ah ax=>⟨b,zr2 ah,b,rfl,λ_=>?_,M4,aa.trans L4⟩
  ·have aE:=Jw hx
   obtain⟨sk',si',rfl,ay,am⟩:=Yp ak
   apply PX.of
   show XC Tp 163 #[.agg #[.int .i64 x.kind,.string x.text,slV sk',slV si'],.pointer (some ⟨h1.size,0,none⟩)] h' _
   apply zey x.kind x.text sk' si'
   intro g1
   have G1:Later h' M' g1 M':=Later.push L'.ag _
   have ap:ze g1 ⟨h'.size,0,none⟩ 0 [.int .i64 x.kind,.string x.text,slV sk',slV si']:=z6b (Keep.refl _ _)
   have aC:zd g1 ⟨h1.size,0,none⟩=some (.func (.func F) #[] #[]):=G1.ag.cell (L'.le _ _ az) rfl
   clear_value g1
   refine⟨x.kind,x.text,sk',si',ap,_,aC,?_⟩
   refine(ih x (by omega) (hv.item hx) (h:=g1) (M:=M') ((hM.trans aa.le).trans L'.le) G1.ag (Wx ay am)).go λw h5 M5 b L5 af au=>⟨b,zr2 af,M5,_,G1.trans L5,zjd.2 (rdBool _),by rw[au]⟩
  ·rw[ax,zg1,AH];simp
 ·rintro b h4 ⟨b',e,hb,M4,L4⟩
  cases e
  refine⟨M4,_,L4,zjd.2 (rdBool _),?_⟩
  rw[zdp,<-hr]
  cases r with
  |false=>rfl
  |true=>rw[hb rfl];simp
theorem z1n(hF:zp Tp F=true){p:Tr->Bool}(hp:∀x,Sm x->PC Tp gl F [Arg.mk .tree x] [.bool] (λr=>r=p x))(v:Tr)(hv:Sm v){h:za}{M:Fr}{u:Value}(hM:Fr.le gl M)(ag:AgM M h)(hu:RdV M .tree v u):
  PX Tp 94 #[u,.func (.func F) #[] #[]] h M [.bool] (λr=>r=zh1 p v):=z1m hF hp (tsz v) v (Ad _) hv hM ag hu
theorem zx3(hg:GL gl)(hv:Sm v)(hR:R (Xz v)):PC Tp gl 88 [Arg.mk .tree v] [.bool] R:=by
 intro h M vs hM ag ha
 match vs,ha with
 |[u],⟨hu,_⟩=>
  have hu:RdV M .tree v u:=hu
  have af:=hu
  obtain⟨sk,si,rfl,rk,ri⟩:=Yp hu
  apply PX.of
  apply zle v.kind v.text sk si
  intro h1
  have L1:Later h M h1 M:=Later.push ag _
  have s1:h1.size=h.size+1:=Ak _
  have aa:∀h':za,Keep h1.size h1 h'->ze h' ⟨h.size,0,none⟩ 0 [.int .i64 v.kind,.string v.text,slV sk,slV si]:=λh' k=>z6b (h':=h') (by rw[s1]at k;exact k)
  clear_value h1
  refine⟨v.kind,v.text,sk,si,aa h1 (Keep.refl _ _),?_⟩
  have ai:PC Tp gl 93 [Arg.mk .tree v] [.bool] (λr=>r=Xa v):=z1j hv rfl
  refine ai.go (vs:=[.agg #[.int .i64 v.kind,.string v.text,slV sk,slV si]]) (hM.trans L1.le) L1.ag (jc (RdV.mono L1.le af) xb) λw h2 M2 r L2 ah hr=>?_
  refine⟨r,zr2 ah,v.kind,v.text,sk,si,λ_=>aa h2 L2.keep,?_⟩
  have Z:=L1.trans L2
  refine⟨λw h4=>∃b,w=.bool b/\(r=true->b=zh1 Zr v)/\∃M4,Later h M h4 M4,λak=>?_,λae=>⟨true,true,rfl,λe=>(by rw[e]at ae;cases ae),M2,Z⟩,λ_ w h4 ⟨b,e,_⟩=>⟨b,e⟩,?_⟩
  ·refine(z1n (F:=96) (by kernel_rfl) (p:=Zr) (λx hx=>z6y hg hx rfl) v hv (hM.trans Z.le) L2.ag (RdV.mono Z.le af)).go λw h3 M3 b L3 ab aj=>⟨b,zr2 ab,b,rfl,λ_=>aj,M3,Z.trans L3⟩
  ·rintro b h4 ⟨b',e,hb,M4,L4⟩
   cases e
   refine⟨M4,_,L4,zjd.2 (rdBool _),?_⟩
   unfold Xz at hR
   rw[<-hr]at hR
   cases r with
   |false=>exact hR
   |true=>rw[cond_true,hb rfl];exact hR
end
end Go.X
end
section
namespace Go.X
open Go Go.RowKit
section
variable {h h':za} {bs:List Nat} {v:Tr} {M:Fr} {b o n:Nat} {cs:Array Value} {vs:List Value}
def OKeys(h:za)(ks:List Bt)(bs:List Nat)(s:Sl):Prop:=
 s.len=ks.length/\ks.length<=140737488355328/\ks.length<=s.cap/\((ks=[]/\bs=[]/\s.cap=0)\/∃b cs,bs=[b]/\s.a=some ⟨b,0,none⟩/\Blk h b cs/\s.cap<=cs.size/\cut cs 0 ks.length=ks.map Cv)
inductive OT (h:za):Tr->List Nat->List Value->Prop where
 |mk {k:Int} {s:Bt} {ks:List Bt} {xs:List Tr} {sk si:Sl} {bk bb:List Nat} {b:Nat} {cs:Array Value} {bf:Nat->List Nat}
  (hk:OKeys h ks bk sk) (hn:si.len=xs.length/\xs.length<=140737488355328/\xs.length<=si.cap)
  (hz:(xs=[]/\bb=[]/\si.cap=0)\/(bb=[b]/\si.a=some ⟨b,0,none⟩/\Blk h b cs/\si.cap*4<=cs.size))
  (hi:∀i (hx:i<xs.length),OT h xs[i] (bf i) (cut cs (i*4) 4))
  (hd:(bk++(bb++(Bv xs.length).flatMap bf)).Nodup):
  OT h (.mk k s ks xs) (bk++(bb++(Bv xs.length).flatMap bf)) [.int .i64 k,.string s,slV sk,slV si]
theorem OKeys.frame{ks:List Bt}{s:Sl}(H:OKeys h ks bs s)(hf:∀b∈bs,h'[b]?=h[b]?):OKeys h' ks bs s:=by
 obtain⟨h1,h2,h3,h4⟩:=H
 refine⟨h1,h2,h3,h4.imp id ?_⟩
 rintro⟨b,cs,rfl,e1,e2,e3⟩
 exact⟨b,cs,rfl,e1,e2.keep (hf b (by simp)),e3⟩
theorem OT.frame{cells:List Value}(H:OT h v bs cells):(∀b∈bs,h'[b]?=h[b]?)->OT h' v bs cells:=by
 induction H with
 | @mk k s ks xs sk si bk bb b cs bf hk hn hz hi hd ih=>
  intro hf
  refine OT.mk (b:=b) (cs:=cs) (hk.frame λx hx=>hf x (by simp[hx])) hn (hz.imp id ?_) (λi hx=>ih i hx λx Z=>hf x ?_) hd
  ·rintro⟨rfl,e1,e2,e3⟩
   exact⟨rfl,e1,e2.keep (hf b (by simp)),e3⟩
  ·simp only[As,Bi,BL]
   exact .inr (.inr ⟨i,hx,Z⟩)
theorem OT.nodup{cells:List Value}(H:OT h v bs cells):bs.Nodup:=by
 cases H with|mk _ _ _ _ hd=>exact hd
theorem OT.lt{cells:List Value}(H:OT h v bs cells):∀b∈bs,b<h.size:=by
 induction H with
 | @mk k s ks xs sk si bk bb b cs bf hk hn hz hi hd ih=>
  intro x hx
  simp only[As,Bi,BL]at hx
  rcases hx with hx|hx|⟨i,h1,h2⟩
  ·obtain⟨_,_,_,h4⟩:=hk
   rcases h4 with⟨_,rfl,_⟩|⟨b',cs',rfl,_,e,_⟩
   ·cases hx
   ·simp at hx;subst hx;exact e.lt
  ·rcases hz with⟨_,rfl,_⟩|⟨rfl,_,e,_⟩
   ·cases hx
   ·simp at hx;subst hx;exact e.lt
  ·exact ih i h1 x h2
theorem OT.len{cells:List Value}(H:OT h v bs cells):cells.length=4:=by cases H;rfl
theorem OT.one{cells:List Value}(H:OT h v bs cells):∀c∈cells,c.oneCell'=true:=by
 cases H with
 |mk _ _ _ _ _=>
  intro c hc
  simp at hc
  rcases hc with rfl|rfl|rfl|rfl <;> simp[Value.oneCell',slV]
theorem OT.cells{h:za}{v:Tr}{bs:List Nat}{cells:List Value}(H:OT h v bs cells):∃sk si:Sl,cells=[.int .i64 v.kind,.string v.text,slV sk,slV si]:=by
 cases H with|mk _ _ _ _ _=>exact⟨_,_,rfl⟩
theorem OT.rd{cells:List Value}(H:OT h v bs cells)(hM:∀b∈bs,∀cs,Blk h b cs->M b=some cs):TrRd M v cells:=by
 induction H with
 | @mk k s ks xs sk si bk bb b cs bf hk hn hz hi hd ih=>
  obtain⟨k1,k2,k3,k4⟩:=hk
  have ab:RowAt M (λs cs=>cs=[.string s]) 1 ks (slV sk):=by
   refine⟨sk.a,sk.cap,by rw[slV,k1],⟨k2,k3⟩,?_⟩
   rcases k4 with⟨h0,_⟩|⟨b',cs',rfl,e1,e2,_,e3⟩
   ·exact .inl h0
   ·refine .inr ⟨b',0,cs',e1,hM b' (by simp) cs' e2,λi hx=>?_⟩
    have:(cut cs' 0 ks.length)[i]?=some (Cv ks[i]):=by rw[e3,BS,Ai hx];rfl
    unfold cut at this ⊢
    rw[Az,if_pos hx,BQ]at this
    have Z:=(Av.1 this).1
    rw[Ay,Dc,AF Z,Be,Dg]
    rw[Ai Z]at this
    rw[Aq this]
  have ae:slV si=.slice si.a xs.length si.cap:=by rw[slV,hn.1]
  rw[ae]
  refine TrRd.mk (b:=b) (o:=0) (cs:=cs) ab hn.2 (hz.imp (·.1) ?_) λi hx=>?_
  ·rintro⟨rfl,e1,e2,_⟩
   exact⟨e1,hM b (by simp) cs e2⟩
  ·rw[Ay]
   exact ih i hx λx aa cs' e=>hM x (by
    simp only[As,Bi,BL]
    exact .inr (.inr ⟨i,hx,aa⟩)) cs' e
def MxL(M:Fr)(h:za)(bs:List Nat):Fr:=λi=>if i∈bs then(match h[i]? with
 |some (.cells cs _ _)=>some cs
 |_=>none)else M i
theorem MxL.ag{M:Fr}{h:za}(ag:AgM M h)(bs:List Nat):AgM (MxL M h bs) h:=by
 intro b c e
 unfold MxL at e
 split at e
 ·split at e
  ·rename_i cs T m hb
   cases e;exact⟨T,m,hb⟩
  ·cases e
 ·exact ag b c e
theorem MxL.later{h0 h:za}(ag:AgM M h0)(k:Keep h0.size h0 h)(hb:∀b∈bs,h0.size<=b):Later h0 M h (MxL M h bs) where
 keep:=k
 le:=λb c e=>by
  have:=ag.lt e
  unfold MxL;rw[if_neg (λhm=>by have:=hb b hm;omega)];exact e
 old:=λb hlt=>by unfold MxL;rw[if_neg (λhm=>by have:=hb b hm;omega)]
 ag:=MxL.ag (ag.keep k) bs
theorem MxL.at(hb:b∈bs)(e:Blk h b cs):MxL M h bs b=some cs:=by
 obtain⟨T,e⟩:=e
 unfold MxL;rw[if_pos hb,e]
theorem OT.rdv{cells:List Value}(H:OT h v bs cells):RdV (MxL M h bs) .tree v (.agg cells.toArray):=by
 unfold RdV
 simp only[zhf,if_true]
 exact⟨cells,rfl,H.rd λb hb cs e=>MxL.at hb e⟩
def upd(cs:Array Value)(o:Nat)(vs:List Value):Array Value:=(cs.toList.take o++vs++cs.toList.drop (o+vs.length)).toArray
theorem zfd(h:o+vs.length<=cs.size):(upd cs o vs).size=cs.size:=by
 unfold upd;simp;omega
theorem zlg(h:o+vs.length<=cs.size)(q:Nat):(upd cs o vs).toList[q]?=if q<o then cs.toList[q]? else if q<o+vs.length then vs[q-o]? else cs.toList[q]?:=by
 unfold upd
 exact Z2 (by simpa using h) q
theorem qg{o n i:Nat}:(cut cs o n)[i]?=if i<n then cs.toList[o+i]? else none:=by
 unfold cut
 rw[Az]
 split
 ·rw[AE]
 ·rfl
theorem zx4(h:o+vs.length<=cs.size):cut (upd cs o vs) o vs.length=vs:=by
 apply Bm
 intro i
 rw[qg]
 split
 ·rw[zlg h,if_neg (by omega),if_pos (by omega)];congr 1;omega
 ·rw[BH (by omega)]
theorem zdt{o p n:Nat}(h:o+vs.length<=cs.size)(Z:p+n<=o\/o+vs.length<=p):cut (upd cs o vs) p n=cut cs p n:=by
 apply Bm
 intro i
 rw[qg,qg]
 split
 ·rw[zlg h]
  split
  ·rfl
  ·rw[if_neg (by omega)]
 ·rfl
theorem J6{P:Program}{t:TypeId}(hi:qd P t=true)(H:Blk h b cs){v:Value}(hc:v.cells.toList=vs)(hs:qt P t=vs.length)(hl:o+vs.length<=cs.size)(h1:∀u∈vs,u.oneCell'=true){K:za->Prop}
  (hK:∀h':za,Blk h' b (upd cs o vs)->h'.size=h.size->(∀j,j≠b->h'[j]?=h[j]?)->K h'):XRunU P (An t (.pointer (some ⟨b,o,none⟩)) v) h K:=by
 intro B d
 obtain⟨T,e⟩:=H
 have Z:v.cells.size=vs.length:=by rw[<-hc];simp
 obtain⟨h',r1,r2,r3,r4⟩:=Jf (P:=P) hi hs e Z hl (by rw[hc];exact h1) B d
 refine⟨d,h',r1,hK h' ⟨T,?_⟩ r3 r4⟩
 rw[r2]
 unfold upd
 rw[hc]
theorem Blk.ofKeep(H:Blk h b cs)(k:Keep h.size h h'):Blk h' b cs:=H.keepN k H.lt
theorem zsl(ag:AgM M h)(bs:List Nat):Fr.le M (MxL M h bs):=by
 intro b c e
 unfold MxL
 split
 ·obtain⟨T,m,e'⟩:=ag b c e
  rw[e']
 ·exact e
end
end Go.X
end
section
namespace Go.X
section
variable {h:za} {e:TypeId} {M:Fr} {s:Sl} {K:Value -> za -> Prop} {cs:Array Value} {k:Nat} {vs:List Value}
theorem zx5:ElemT Tp 23 9 (.string ⟨#[]⟩) 1 16:=⟨by kernel_rfl,⟨Tryz.t9,by kernel_rfl,by kernel_rfl,by kernel_rfl,by kernel_rfl⟩,rfl,by omega⟩
theorem zsm:ElemT Tp 24 26 (.agg #[.int .i64 0,.string ⟨#[]⟩,.slice none 0 0,.slice none 0 0]) 4 72:=⟨by kernel_rfl,⟨Tryz.t26,by kernel_rfl,by kernel_rfl,by kernel_rfl,by kernel_rfl⟩,rfl,by omega⟩
theorem zn0{h h':za}{sz:Nat}(k:Keep (h.size+1) (h.push (.cells #[] e)) h')(base:Nat)(hb:base<=h.size):Owns h' base e sz ⟨some ⟨h.size,0,none⟩,0,0⟩ []:=by
 refine⟨by simp,.inr ⟨h.size,0,#[],rfl,hb,?_,Ad _,CV _,by simp,by simp⟩⟩
 show h'[h.size]?=_
 rw[k.get _ (by omega)];exact j5 _ _
theorem z1o(ag:AgM M h){ks:List Bt}(hr:Rd M (.row .str) ks [slV s])(hx:ks.length*16<=140737488355328)
  (hK:∀(s':Sl) (h':za),Keep h.size h h'->s'.len=ks.length->Owns h' h.size 9 1 s' (ks.map Cv)->K (slV s') h'):XC Tp 231 #[slV s] h K:=by
 obtain⟨Z,af,ae⟩:=rowLen hr
 obtain⟨s2,e2,_,_,cells,hc,ha⟩:=Rd.rowC ag hr
 simp only[slV,AP]at e2
 have aa:s2.a=s.a:=e2.1.symm
 have:=zei hc
 subst this
 rw[aa]at ha
 apply Zo s
 refine⟨λhn=>?_,λhn=>?_⟩
 ·have ab:ks=[]:=by
   rcases ha with h0|⟨b,o,e1,_⟩
   ·simpa using h0
   ·rw[e1]at hn;cases hn
  subst ab
  exact hK ⟨none,0,0⟩ h (Keep.refl _ _) rfl (Owns.nil _ _ _ _)
 ·intro g
  have kg:Keep h.size h g:=Keep.push _ _ (Ad _)
  have sg:g.size=h.size+1:=Ak _
  have og:Owns g h.size 9 1 ⟨some ⟨h.size,0,none⟩,0,0⟩ []:=zn0 (Keep.refl _ _) _ (Ad _)
  clear_value g
  refine zc5 zx5 og (src:=⟨s.a,s.len,s.cap⟩) (news:=ks.map Cv) (n:=h.size) (ha.keep kg) (by simp[Z]) (by simp[Value.oneCell']) (by simp only;omega) (by simp only;omega) (by omega) λs' h' e1 e2 e3 e4 e5=>⟨s',rfl,hK s' h' ?_ (by simp at e1;omega) (by simpa using e2)⟩
  refine⟨by omega,λi hi=>(e3 i (by omega) λp hp=>?_).trans (kg.get i hi)⟩
  simp only[Aa]at hp
  subst hp;simp only;omega
theorem zx6(ag:AgM M h){xs:List Tr}(hr:Rd M (.row .tree) xs [slV s])(hx:xs.length*72<=140737488355328)
  (hK:∀(s':Sl) (h':za) (cells:List Value),Keep h.size h h'->s'.len=xs.length->Owns h' h.size 26 4 s' cells->RowC M .tree xs cells->K (slV s') h'):XC Tp 232 #[slV s] h K:=by
 obtain⟨aa,ah,af⟩:=rowLen hr
 obtain⟨s2,e2,_,_,cells,hc,ha⟩:=Rd.rowC ag hr
 simp only[slV,AP]at e2
 have ab:s2.a=s.a:=e2.1.symm
 rw[ab]at ha
 have Z:cells.length=xs.length*4:=hc.1
 apply wb s
 refine⟨λhn=>?_,λhn=>?_⟩
 ·have ae:cells=[]:=by
   rcases ha with h0|⟨b,o,e1,_⟩
   ·exact h0
   ·rw[e1]at hn;cases hn
  subst ae
  have:xs.length=0:=by simp at Z;omega
  exact hK ⟨none,0,0⟩ h [] (Keep.refl _ _) (by simp[this]) (Owns.nil _ _ _ _) hc
 ·intro g
  have kg:Keep h.size h g:=Keep.push _ _ (Ad _)
  have sg:g.size=h.size+1:=Ak _
  have og:Owns g h.size 26 4 ⟨some ⟨h.size,0,none⟩,0,0⟩ []:=zn0 (Keep.refl _ _) _ (Ad _)
  clear_value g
  refine zc5 zsm og (src:=⟨s.a,s.len,s.cap⟩) (news:=cells) (n:=h.size) (ha.keep kg) (by rw[Z,aa]) hc.one (by simp only;omega) (by simp only;omega) (by omega) λs' h' e1 e2 e3 e4 e5=>⟨s',rfl,hK s' h' cells ?_ (by simp at e1;omega) (by simpa using e2) hc⟩
  refine⟨by omega,λi hi=>(e3 i (by omega) λp hp=>?_).trans (kg.get i hi)⟩
  simp only[Aa]at hp
  subst hp;simp only;omega
theorem Owns.blk{base:Nat}{sz:Nat}{cells:List Value}(H:Owns h base e sz s cells):(s.len=0/\cells=[]/\s.cap=0)\/∃b cs,s.a=some ⟨b,0,none⟩/\base<=b/\Blk h b cs/\s.cap*sz<=cs.size/\cut cs 0 (s.len*sz)=cells/\s.len<=s.cap:=by
 rcases H.2 with⟨hv,h0⟩|⟨g,cap,Z,hv,hb,hg,aa,hm,ab,ht⟩
 ·left
  have:=H.1
  rw[h0,Db]at this
  simp only[AP]at hv
  exact⟨h0,AJ this,hv.2.2⟩
 ·right
  simp only[AP]at hv
  refine⟨g,Z,hv.1,hb,⟨e,hg⟩,?_,by unfold cut;rw[BQ];exact ht,by rw[hv.2.2];exact aa⟩
  rw[ab,hv.2.2];exact Ad _
theorem qap{n i k:Nat}(h:i+k<=n):(List.drop i (cut cs 0 n)).take k=cut cs i k:=by
 unfold cut
 rw[BQ,C9,CX,CF (by omega)]
theorem zx7{h:za}{b:Nat}{cs:Array Value}(H:Blk h b cs):∀{vs:List Value} {o i:Nat},cut cs (o+i) vs.length=vs->ze h ⟨b,o,none⟩ i vs
 |[],_,_,_=>trivial
 |v::vs,o,i,e=>by
  unfold cut at e
  have Z:o+i<cs.toList.length:=by
   rcases AR (o+i) cs.toList.length with hh|hh
   ·exact hh
   ·rw[Bj hh]at e;simp at e
  rw[AF Z,Aw,Be]at e
  injection e with e1 e2
  refine⟨?_,zx7 H (i:=i+1) e2⟩
  refine H.cellAdd ?_
  rw[AI (by simpa using Z),<-e1];simp
theorem zqe:cut vs.toArray 0 vs.length=vs:=by unfold cut;simp
theorem qaq:qd Tp 26=true:=by kernel_rfl
theorem qar:qt Tp 26=4:=by kernel_rfl
theorem qas:qd Tp 23=true:=by kernel_rfl
theorem qat:qt Tp 23=1:=by kernel_rfl
theorem qau:qd Tp 24=true:=by kernel_rfl
theorem qav:qt Tp 24=1:=by kernel_rfl
def zw(k:Int)(s:Bt)(sk si:Sl):List Value:=[.int .i64 k,.string s,slV sk,slV si]
theorem zjs(k:Int)(s:Bt)(sk si:Sl):∀u∈zw k s sk si,u.oneCell'=true:=by
 intro u hu
 simp[zw]at hu
 rcases hu with rfl|rfl|rfl|rfl <;> simp[Value.oneCell',slV]
theorem zel(k:Int)(s:Bt)(sk si:Sl):(Value.agg #[.int .i64 k,.string s,slV sk,slV si]).cells.toList=zw k s sk si:=rfl
theorem z6z(h:cs.size=vs.length):upd cs 0 vs=vs.toArray:=by
 unfold upd
 rw[Dg,Bc,Ay,<-h]
 have:cs.toList.drop cs.size=[]:=Bj (by simp)
 rw[this,AW]
theorem Qk{b:Nat}(H:Blk h b cs)(hn:cs.size=4)(k:Int)(s:Bt)(sk si:Sl){K:za->Prop}
  (hK:∀h':za,Blk h' b (zw k s sk si).toArray->h'.size=h.size->(∀j,j≠b->h'[j]?=h[j]?)->K h'):XRunU Tp (An 26 (.pointer (some ⟨b,0,none⟩)) (.agg #[.int .i64 k,.string s,.slice sk.a sk.len sk.cap,.slice si.a si.len si.cap])) h K:=
 J6 (vs:=zw k s sk si) qaq H (zel k s sk si) qar (by rw[hn];exact Ad _) (zjs k s sk si) λh' e1 e2 e3=>hK h' (by rw[z6z (by rw[hn];rfl)]at e1;exact e1) e2 e3
theorem zlh{bf:Nat->List Nat}{k x:Nat}:x∈(Bv k).flatMap bf↔∃j,j<k/\x∈bf j:=by simp[Bi]
structure CI (h2 h':za) (M:Fr) (v:Tr) (b1 b2:Nat) (s1 s2:Sl) (bk bb:List Nat) (b:Nat) (cs:Array Value) (bf:Nat->List Nat) (k:Nat):Prop where
 ag:AgM M h'
 box1:Blk h' b1 (zw v.kind v.text s1 s2).toArray
 box2:∃c2:Array Value,Blk h' b2 c2/\c2.size=4
 keys:OKeys h' v.keys bk s1
 hz:(v.items=[]/\bb=[]/\s2.cap=0)\/(bb=[b]/\s2.a=some ⟨b,0,none⟩/\Blk h' b cs/\s2.cap*4<=cs.size)
 did:∀i (hx:i<v.items.length),i<k->OT h' v.items[i] (bf i) (cut cs (i*4) 4)
 todo:∀i (hx:i<v.items.length),k<=i->RdV M .tree v.items[i] (.agg (cut cs (i*4) 4).toArray)
 nd:(bk++(bb++(Bv k).flatMap bf)).Nodup
 big:∀x∈bk++(bb++(Bv k).flatMap bf),h2.size<=x
set_option maxHeartbeats 4000000 in
theorem z1p(n:Nat):∀(v:Tr),tsz v<=n->Sm v->∀{h:za} {M:Fr} {u:Value},AgM M h->RdV M .tree v u ->
  XC Tp 160 #[u] h λw h'=>Keep h.size h h'/\∃bs sk si,w=.agg #[.int .i64 v.kind,.string v.text,slV sk,slV si]/\OT h' v bs (zw v.kind v.text sk si)/\∀b∈bs,h.size<=b:=by
 induction n with
 |zero=>intro v hn;have:=zxk v;omega
 |succ n ih=>
 intro v hn hv h M u ag hu
 obtain⟨sk,si,rfl,rk,ri⟩:=Yp hu
 have bu:=hv.items
 have bz:=hv.keys
 apply zh5 v.kind v.text sk si
 intro h1 h2
 have kh:Keep h.size h h2:=(Keep.push h (.cells (zw v.kind v.text sk si).toArray 26) (Ad _)).trans (Keep.push h1 _ (Ad _)) (by show h.size<=h1.size;simp[h1])
 have s1:h1.size=h.size+1:=Ak _
 have s2:h2.size=h1.size+1:=Ak _
 have b1:Blk h2 h.size (zw v.kind v.text sk si).toArray:=by
  have:Blk h1 h.size (zw v.kind v.text sk si).toArray:=Blk.new _ _ _
  exact this.ofKeep (Keep.push _ _ (Ad _))
 have b2:Blk h2 h1.size (zw 0 ⟨#[]⟩ ⟨none,0,0⟩ ⟨none,0,0⟩).toArray:=Blk.new _ _ _
 clear_value h1 h2
 have aN:=ag.keep kh
 refine⟨sk,b1.cellAdd (o:=0) (k:=2) rfl,si,b1.cellAdd (o:=0) (k:=3) rfl,?_⟩
 refine z1o aN rk (by omega) λc1 h3 k3 l3 o3=>⟨c1,rfl,k3,?_⟩
 have bh:=aN.keep k3
 refine zx6 bh ri (by omega) λc2 h4 cells k4 l4 o4 rc=>⟨c2,rfl,?_⟩
 have aJ:=(b1.ofKeep k3).ofKeep k4
 have aU:=(b2.ofKeep k3).ofKeep k4
 have z3:=k3.size
 have z4:=k4.size
 rw[show Al ⟨h.size,0,none⟩ 2=⟨h.size,2,none⟩from zq _ _ _,show Al ⟨h.size,0,none⟩ 3=⟨h.size,3,none⟩from zq _ _ _]
 refine J6 (vs:=[slV c1]) qas aJ rfl qat (by simp[zw]) (by simp[Value.oneCell',slV]) λh5 aL z5 f5=>?_
 refine J6 (vs:=[slV c2]) qau aL rfl qav (by simp[zw,upd]) (by simp[Value.oneCell',slV]) λh6 aj z6 f6=>?_
 have bj:upd (upd (zw v.kind v.text sk si).toArray 2 [slV c1]) 3 [slV c2]=(zw v.kind v.text c1 c2).toArray:=by simp[upd,zw]
 rw[bj]at aj
 have ab:∀j,j≠h.size->h6[j]?=h4[j]?:=λj hj=>(f6 j hj).trans (f5 j hj)
 refine⟨c2,aj.cell (o:=3) rfl,?_⟩
 have aE:Keep h.size h h6:=⟨by omega,λi hi=>by rw[ab i (by omega),k4.get i (by omega),k3.get i (by omega)];exact kh.get i hi⟩
 obtain⟨bk,ah,aH,aB,aC⟩:∃bk,OKeys h6 v.keys bk c1/\bk.Nodup/\(∀x∈bk,h2.size<=x)/\(∀x∈bk,x<h3.size):=by
  rcases Owns.blk o3 with⟨h0,hc,au⟩|⟨b,cs,e1,e2,e3,e4,e5,e6⟩
  ·exact⟨[],⟨l3,by omega,by(have:v.keys.length=0:=by omega);omega,.inl ⟨by simpa using hc,rfl,au⟩⟩,DI,by simp,by simp⟩
  ·refine⟨[b],⟨l3,by omega,by omega,.inr ⟨b,cs,rfl,e1,(e3.ofKeep k4).keep (ab b (by omega)),by omega,by rw[<-l3];simpa using e5⟩⟩,by simp,by simpa using e2,by simpa using e3.lt⟩
 obtain⟨bb,b,cs,aI,Z,ap,aQ,ae⟩:∃(bb:List Nat) (b:Nat) (cs:Array Value),v.items.length<=c2.cap/\((v.items=[]/\bb=[]/\c2.cap=0)\/(bb=[b]/\c2.a=some ⟨b,0,none⟩/\Blk h6 b cs/\c2.cap*4<=cs.size))/\(∀i,i<v.items.length->cut cs (i*4) 4=(cells.drop (i*4)).take 4)/\bb.Nodup/\∀x∈bb,h3.size<=x:=by
  rcases Owns.blk o4 with⟨h0,hc,au⟩|⟨b,cs,e1,e2,e3,e4,e5,e6⟩
  ·have:v.items.length=0:=by omega
   exact⟨[],0,#[],by omega,.inl ⟨AJ this,rfl,au⟩,λi hi=>by omega,DI,by simp⟩
  ·refine⟨[b],b,cs,by omega,.inr ⟨rfl,e1,e3.keep (ab b (by omega)),e4⟩,λi hi=>?_,by simp,by simpa using e2⟩
   rw[<-e5,qap (by rw[l4];omega)]
 have aS:CI h2 h6 M v h.size h1.size c1 c2 bk bb b cs (λ_=>[]) 0:={
  ag:=ag.keep aE,box1:=aj,box2:=⟨_,aU.keep (ab _ (by omega)),rfl⟩,keys:=ah,hz:=Z,did:=λi _ hi=>by omega
  todo:=λi hx _=>by
   rw[ap i hx]
   have:=rc.2 i hx
   unfold RdV;simp only[zhf,if_true]
   exact⟨_,rfl,this⟩
  nd:=by
   simp only[List.range_zero,List.flatMap_nil,AW]
   rw[Bl]
   exact⟨aH,aQ,λx hx y hy e=>by have:=aC x hx;have:=ae y hy;omega⟩
  big:=by
   simp only[List.range_zero,List.flatMap_nil,AW,As]
   rintro x (hx|hx)
   ·exact aB x hx
   ·have:=ae x hx;omega }
 refine⟨λi h'=>∃(k:Nat) (cs:Array Value) (bf:Nat->List Nat),i=(k:Int)/\k<=v.items.length/\Keep h.size h h'/\h2.size<=h'.size/\CI h2 h' M v h.size h1.size c1 c2 bk bb b cs bf k,λi _=>v.items.length-i.toNat,⟨0,cs,_,rfl,by omega,aE,by omega,aS⟩,?_⟩
 clear aS ap Z ah aj aL aJ aU ab f5 f6 o3 o4 rc
 rintro i h7 ⟨k,cs,bf,rfl,hk,k7,z7,I⟩
 refine⟨λhc=>?_,λhc=>?_⟩
 ·have aa:k<v.items.length:=by simp at hc;omega
  rcases I.hz with⟨h0,_⟩|⟨Z,e1,hb,az⟩
  ·rw[h0]at aa;simp at aa
  have ap:v.items.length*4<=cs.size:=by omega
  have aZ:=I.todo k aa (Ad _)
  obtain⟨tk,ti,q,be,ba⟩:=Yp aZ
  have aF:cut cs (k*4) 4=zw v.items[k].kind v.items[k].text tk ti:=by
   injection q with q
   exact congrArg Array.toList q
  refine⟨⟨b,0,none⟩,⟨e1,by omega,by omega⟩,v.items[k].kind,v.items[k].text,tk,ti,?_,?_⟩
  ·rw[zq,Ah,Ay]
   exact zx7 hb (vs:=zw v.items[k].kind v.items[k].text tk ti) (o:=k*4) (i:=0) aF
  ·intro h8
   have z8:h8.size=h7.size+1:=Ak _
   have k8:Keep h7.size h7 h8:=Keep.push _ _ (Ad _)
   have b8:Blk h8 h7.size (zw 0 ⟨#[]⟩ ⟨none,0,0⟩ ⟨none,0,0⟩).toArray:=Blk.new _ _ _
   clear_value h8
   refine Qk b8 rfl _ _ _ _ λh9 b9 z9 f9=>?_
   have k9:Keep h7.size h7 h9:=⟨by omega,λj hj=>by rw[f9 j (by omega)];exact k8.get j hj⟩
   have box1:=I.box1.ofKeep k9
   refine⟨c2,box1.cell (o:=3) rfl,v.items[k].kind,v.items[k].text,tk,ti,zx7 b9 (vs:=zw v.items[k].kind v.items[k].text tk ti) (o:=0) (i:=0) zqe,⟨b,0,none⟩,⟨e1,by omega,by omega⟩,?_⟩
   have hm:v.items[k]∈v.items:=AL aa
   have bn:=Jw hm
   refine(ih v.items[k] (by omega) (hv.item hm) (I.ag.keep k9) (Wx be ba)).mono ?_
   rintro w h10 ⟨ai,bs,dk,di,rfl,ot,ax⟩
   refine⟨v.items[k].kind,v.items[k].text,dk,di,rfl,ai,?_⟩
   have aT:=(hb.ofKeep k9).ofKeep ai
   have bo:=ai.size
   rw[zq,Ah,Ay]
   refine J6 (vs:=zw v.items[k].kind v.items[k].text dk di) qaq aT (zel _ _ _ _) qar (by show k*4+4<=cs.size;omega) (zjs _ _ _ _) λa7 a8 br aM=>?_
   have aA:Keep h7.size h7 h10:=k9.trans ai (by omega)
   have aY:=hb.lt
   have fr:∀x,x≠b->x<h7.size->a7[x]?=h7[x]?:=λx hx hl=>by rw[aM x hx];exact aA.get x hl
   have aO:∀x∈bk++(bb++(Bv k).flatMap bf),h2.size<=x:=I.big
   have ae:h2.size<=b:=aO b (by rw[Z];simp)
   have aP:=I.nd
   rw[Bl]at aP
   obtain⟨bq,ay,bi⟩:=aP
   rw[Bl]at ay
   obtain⟨bA,bm,a1⟩:=ay
   have af:∀x∈bk++(bb++(Bv k).flatMap bf),x<h7.size:=by
    intro x hx
    rw[As,As]at hx
    rcases hx with hx|hx|hx
    ·obtain⟨_,_,_,q4⟩:=I.keys
     rcases q4 with⟨_,rfl,_⟩|⟨b',cs',rfl,_,e,_⟩
     ·cases hx
     ·simp at hx;subst hx;exact e.lt
    ·rw[Z]at hx;simp at hx;subst hx;exact aY
    ·obtain⟨j,hj,hx⟩:=zlh.1 hx
     exact(I.did j (by omega) hj).lt x hx
   have ah:∀x∈bk,x≠b:=λx hx e=>bi x hx b (by rw[Z];simp) e
   have a6:∀j,j<k->∀x∈bf j,x≠b:=λj hj x hx e=>a1 b (by rw[Z];simp) x (zlh.2 ⟨j,hj,hx⟩) e.symm
   have aG:∀x∈bs,x≠b:=λx hx e=>by have:=ax x hx;omega
   have am:(Bv (k+1)).flatMap (λj=>if j=k then bs else bf j)=(Bv k).flatMap bf++bs:=by
    rw[List.range_succ,List.flatMap_append]
    congr 1
    ·have:∀(l:List Nat),(∀x∈l,x<k)->l.flatMap (λj=>if j=k then bs else bf j)=l.flatMap bf:=by
      intro l
      induction l with
      |nil=>intro _;rfl
      |cons a l bg=>
       intro hl
       rw[List.flatMap_cons,List.flatMap_cons,if_neg (by have:=hl a (by simp);omega),bg λx hx=>hl x (by simp[hx])]
     exact this _ λx hx=>by simpa using hx
    ·simp
   rw[Xy aa (by omega)]
   refine⟨⟨k+1,upd cs (k*4) (zw v.items[k].kind v.items[k].text dk di),λj=>if j=k then bs else bf j,rfl,by omega,⟨by omega,λx hx=>by rw[fr x (by omega) (by omega)];exact k7.get x hx⟩,by omega,{
    ag:=λx c e=>?_,box1:=I.box1.keep (fr _ (by omega) (by have:=I.box1.lt;omega)),box2:=?_,keys:=I.keys.frame λx hx=>fr x (ah x hx) (af x (by simp[hx])),hz:=.inr ⟨Z,e1,a8,by rw[zfd (by show k*4+4<=cs.size;omega)];exact az⟩,did:=?_,todo:=?_,nd:=?_,big:=?_ }⟩,by simp only[Ah];omega⟩
   ·have hx:=ag.lt e
    obtain⟨T,m,e'⟩:=I.ag x c e
    exact⟨T,m,by rw[fr x (by omega) (by omega)];exact e'⟩
   ·obtain⟨q,ak,ar⟩:=I.box2
    exact⟨q,ak.keep (fr _ (by omega) ak.lt),ar⟩
   ·intro j hj aV
    by_cases an:j=k
    ·subst an
     simp only[if_true]
     have:=zx4 (cs:=cs) (o:=j*4) (vs:=zw v.items[j].kind v.items[j].text dk di) (by show j*4+4<=cs.size;omega)
     rw[show(zw v.items[j].kind v.items[j].text dk di).length=4 from rfl]at this
     rw[this]
     exact ot.frame λx hx=>aM x (aG x hx)
    ·simp only[an,if_false]
     rw[zdt (by show k*4+4<=cs.size;omega) (by left;omega)]
     exact(I.did j hj (by omega)).frame λx hx=>fr x (a6 j (by omega) x hx) (af x (by
      rw[As,As]
      exact .inr (.inr (zlh.2 ⟨j,by omega,hx⟩))))
   ·intro j hj aV
    rw[zdt (by show k*4+4<=cs.size;omega) (by right;show k*4+4<=j*4;omega)]
    exact I.todo j hj (by omega)
   ·rw[am,<-AQ,<-AQ,Bl]
    refine⟨by rw[AQ];exact I.nd,ot.nodup,λx hx y hy e=>?_⟩
    have h1:=af x (by rw[<-AQ];exact hx)
    have h2:=ax y hy
    omega
   ·intro x hx
    rw[am,<-AQ,<-AQ,As]at hx
    rcases hx with hx|hx
    ·exact I.big x (by rw[<-AQ];exact hx)
    ·have:=ax x hx;omega
 ·have aa:k=v.items.length:=by simp at hc;omega
  subst aa
  refine⟨v.kind,v.text,c1,c2,zx7 I.box1 (vs:=zw v.kind v.text c1 c2) (o:=0) (i:=0) zqe,?_⟩
  obtain⟨q,ak,ar⟩:=I.box2
  refine Qk ak ar _ _ _ _ λh8 b8 z8 f8=>?_
  refine⟨v.kind,v.text,c1,c2,zx7 b8 (vs:=zw v.kind v.text c1 c2) (o:=0) (i:=0) zqe,⟨by omega,λx hx=>by rw[f8 x (by omega)];exact k7.get x hx⟩,_,c1,c2,rfl,?_,λx hx=>by have:=I.big x hx;omega⟩
  have ot:OT h7 (.mk v.kind v.text v.keys v.items) (bk++(bb++(Bv v.items.length).flatMap bf)) (zw v.kind v.text c1 c2):=by
   exact OT.mk (b:=b) (cs:=cs) I.keys ⟨l4,by omega,aI⟩ I.hz (λi hx=>I.did i hx hx) I.nd
  rw[J5]at ot
  exact ot.frame λx hx=>f8 x (by have:=I.big x hx;omega)
end
end Go.X
end
section
namespace Go.X
open Go Go.Lib
section
structure PS (l:List Bt):Prop where
 n:l.length<=200
 s:∀x∈l,(lb x).length<=1024
def zab(l:List Bt):Bool:=decide (l.length<=64)&&l.all λs=>wo (lb s)
end
end Go.X
end
section
namespace Go.X
section
variable {gl:Fr} {R:Tr -> Prop}
theorem z1q{l:List Bt}{R:Bool->Prop}(h:∀b,(b=true->PS l)->R b):PC Tp gl 18 [Arg.mk (.row .str) l] [.bool] R:=by
 apply zav
 refine⟨λi=>∃k:Nat,i=k/\k<=l.length/\k<=300/\∀x∈l.take k,x.size<=1024,λi=>l.length-i.toNat,⟨0,rfl,by omega,by omega,by simp⟩,?_⟩
 rintro i ⟨k,rfl,hk,ab,h1⟩
 refine⟨λhc=>?_,λhc=>h _ λe=>?_⟩
 ·have Z:k<l.length/\k<300:=by simp at hc;omega
  refine⟨l[k],⟨by omega,z1l Z.1⟩,λ_=>h _ (λe=>by cases e),λhq=>?_⟩
  have aa:l[k].size<=1024:=by simp at hq;omega
  rw[w64 (by omega)]
  refine⟨⟨k+1,by omega,by omega,by omega,?_⟩,by have:=Z.1;simp only[Ah];omega⟩
  rw[AD Z.1]
  intro x hx
  rcases As.1 hx with hx|hx
  ·exact h1 x hx
  ·simp at hx;subst hx;exact aa
 ·have e':l.length<=200:=by simp at e;omega
  have Z:k=l.length:=by simp at hc;omega
  subst Z
  rw[Bb]at h1
  exact⟨e',λx hx=>by rw[zgp];exact h1 x hx⟩
theorem qaw{l:List Tr}(h:R (.mk 5 ⟨#[]⟩ [] l)):PC Tp gl 29 [Arg.mk (.row .tree) l] [.tree] R:=by
 apply zdh;exact h
theorem qax(hg:GL gl){n:Int}(h1:-1000000<=n)(h2:n<=1000000)(h:R (.mk 3 (bl (ye (zn (Lib.itoa n)).1)) [] [])):PC Tp gl 58 [Arg.mk (.int .i64) n] [.tree] R:=by
 apply znf
 refine qc0 hg.pow (by omega) (by omega) ?_
 exact zp6 hg.pow (Q3 _ (by have:=Go.X.itoa_len n;omega)) h
theorem zsn{gl:Fr}(a b:Tr){R:Bool->Prop}(h:∀r,(r=true↔a=b)->R r):PC Tp gl 16 [Arg.mk .tree a,Arg.mk .tree b] [.bool] R:=by
 refine PC.bd λai=>?_
 have hb:a.keys.length<=140737488355328/\a.items.length<=140737488355328:=ai ⟨.tree,a⟩ (by simp)
 apply zaw
 have te:∀s t:Bt,(s.toList==t.toList)=decide (s=t):=λs t=>by
  rw[Yu,Yu,AH,beq_iff_eq,decide_eq_true_eq];exact znh
 simp only[te]
 refine⟨λhx=>h _ ⟨λe=>(by cases e),λe=>?_⟩,λhx=>?_⟩
 ·subst e;simp at hx
 ·have ah:a.kind=b.kind/\a.text=b.text/\a.keys.length=b.keys.length/\a.items.length=b.items.length:=by
   simp at hx
   obtain⟨⟨⟨h1,h2⟩,h3⟩,h4⟩:=hx
   exact⟨h1,h2,by omega,by omega⟩
  obtain⟨q1,q2,q3,q4⟩:=ah
  refine⟨λi=>∃k:Nat,i=k/\k<=a.keys.length/\a.keys.take k=b.keys.take k,λi=>a.keys.length-i.toNat,⟨0,rfl,by omega,by simp⟩,?_⟩
  rintro i ⟨k,rfl,hk,h1⟩
  refine⟨λhc=>?_,λhc=>?_⟩
  ·have aa:k<a.keys.length:=by simp at hc;omega
   have af:k<b.keys.length:=by omega
   refine⟨a.keys[k],⟨by omega,z1l aa⟩,b.keys[k],⟨by omega,z1l af⟩,λhq=>h _ ⟨λe=>(by cases e),λe=>?_⟩,λhq=>?_⟩
   ·subst e;simp at hq
   ·have ab:a.keys[k]=b.keys[k]:=by simpa using hq
    rw[Xy aa (by omega)]
    refine⟨⟨k+1,rfl,by omega,?_⟩,by simp only[Ah];omega⟩
    rw[AD aa,AD af,h1,ab]
  ·have aa:k=a.keys.length:=by simp at hc;omega
   subst aa
   rw[Bb,q3,Bb]at h1
   refine⟨λi=>∃k:Nat,i=k/\k<=a.items.length/\a.items.take k=b.items.take k,λi=>a.items.length-i.toNat,⟨0,rfl,by omega,by simp⟩,?_⟩
   rintro i ⟨k,rfl,hk,h2⟩
   refine⟨λhd=>?_,λhd=>h _ ⟨λ_=>?_,λ_=>rfl⟩⟩
   ·have Z:k<a.items.length:=by simp at hd;omega
    have ae:k<b.items.length:=by omega
    refine⟨a.items[k],⟨by omega,zld Z⟩,b.items[k],⟨by omega,zld ae⟩,?_⟩
    rw[J5,J5]
    have aj:=Jw (AL Z)
    refine zsn a.items[k] b.items[k] λr hr=>⟨λhq=>h _ ⟨λe=>(by cases e),λe=>?_⟩,λhq=>?_⟩
    ·subst e
     rw[hr.2 rfl]at hq;cases hq
    ·have ab:a.items[k]=b.items[k]:=hr.1 (by simpa using hq)
     rw[Xy Z (by omega)]
     refine⟨⟨k+1,rfl,by omega,?_⟩,by simp only[Ah];omega⟩
     rw[AD Z,AD ae,h2,ab]
   ·have Z:k=a.items.length:=by simp at hd;omega
    subst Z
    rw[Bb,q4,Bb]at h2
    have:=J5 a
    rw[q1,q2,h1,h2,J5]at this
    exact this.symm
termination_by tsz a
end
end Go.X
end
section
namespace Go.X
open Go Go.Lib
section
structure IsCmp {α:Type} (c:α->α->Int):Prop where
 rng:∀a b,c a b=-1\/c a b=0\/c a b=1
 eq0:∀a b,c a b=0↔a=b
 swap:∀a b,c b a=-c a b
 tr:∀a b d,c a b<=0->c b d<=0->c a d<=0
end
end Go.X
end
section
namespace Go.X
section
structure SL (l:List Bt):Prop where
 n:l.length<=1000000
 s:∀x∈l,(lb x).length<=1048576
theorem PS.sl{l:List Bt}(h:PS l):SL l:=⟨by have:=h.n;omega,λx hx=>by have:=h.s x hx;omega⟩
end
end Go.X
end
section
namespace Go.X
open Go Go.Proofs Go.Shelf Go.RowKit
section
def zcm:Go.Shelf.Ren:=⟨fun|169=>87|n=>n,fun|70=>109|9=>9|0=>0|72=>112|37=>110|127=>181|3=>3|5=>5|n=>n,fun|n=>n⟩
theorem zx8:Go.Proofs.Lays.n169 Tp zcm:={
 mixed:=by kernel_rfl
 f169:=LF Tryz.func87
 t0:=BW
 a0:=CY
 z0:=CB
 v0:=Cc
 t3:=BB
 a3:=Cm
 z3:=B6
 v3:=BJ
 t9:=Br
 a9:=Cn
 z9:=Ca
 v9:=BK
 t37:=Tryz.underlying110
 a37:=Tryz.isAgg110
 z37:=Tryz.sizeOf110
 v37:=Tryz.zeroValue110
 t70:=Tryz.underlying109
 a70:=Tryz.isAgg109
 z70:=Tryz.sizeOf109
 v70:=Tryz.zeroValue109
 t72:=Tryz.underlying112
 a72:=Tryz.isAgg112
 z72:=Tryz.sizeOf112
 v72:=Tryz.zeroValue112
 t127:=Dq
 a127:=Ei
 z127:=Ec
 v127:=Tryz.zeroValue181 }
theorem za5:Builder.Extra Tp zcm:={
 sizeBuilder:=by kernel_rfl
 liesBuilder:=by kernel_rfl
 t5:=BF
 a5:=Cq
 z5:=Ci
 v5:=BP
 infoByte:=by kernel_rfl
 cellsByte:=by kernel_rfl
 sizeByte:=by kernel_rfl
 neB5:=by decide }
theorem X1(B b:Nat)(l:List UInt8)(w:World)(h:Lib.IsBuilder 112 5 B b (Lib.byteCells l) w)(Z:B<=w.heap.size):
  Calls Tp 87 #[.pointer (some ⟨b,0,none⟩)] w λe w'=>e=.returned (.string ⟨l.toArray⟩)/\Below B w w':=Any.Builder_String_any zx8 za5 B b l w h Z
def zli:Go.Shelf.Ren:=⟨fun|153=>265|152=>269|226=>293|227=>143|228=>214|137=>212|119=>300|224=>301|225=>302|217=>268|266=>299|n=>n,fun|9=>9|3=>3|4=>4|5=>5|21=>21|117=>170|116=>169|0=>0|46=>177|124=>173|n=>n,fun|n=>n⟩
theorem zx9:Go.Proofs.Lays.n153 Tp zli:={
 mixed:=by kernel_rfl
 f119:=LF Tryz.func300
 f137:=LF Eb
 f152:=LF Tryz.func269
 f153:=LF Tryz.func265
 f217:=LF Tryz.func268
 f224:=LF Tryz.func301
 f225:=LF Tryz.func302
 f226:=LF Tryz.func293
 f227:=LF Tryz.func143
 f228:=LF Tryz.func214
 f266:=LF Tryz.func299
 t0:=BW
 a0:=CY
 z0:=CB
 v0:=Cc
 t3:=BB
 a3:=Cm
 z3:=B6
 v3:=BJ
 t4:=BC
 a4:=Cp
 z4:=Cg
 v4:=BO
 t5:=BF
 a5:=Cq
 z5:=Ci
 v5:=BP
 t9:=Br
 a9:=Cn
 z9:=Ca
 v9:=BK
 t21:=CC
 a21:=Dp
 z21:=De
 v21:=CN
 t46:=Tryz.underlying177
 a46:=Tryz.isAgg177
 z46:=Tryz.sizeOf177
 v46:=Tryz.zeroValue177
 t116:=Tryz.underlying169
 a116:=Tryz.isAgg169
 z116:=Tryz.sizeOf169
 t117:=Tryz.underlying170
 a117:=Tryz.isAgg170
 z117:=Tryz.sizeOf170
 v117:=Tryz.zeroValue170
 t124:=Tryz.underlying173
 a124:=Tryz.isAgg173
 z124:=Tryz.sizeOf173
 v124:=Tryz.zeroValue173 }
open Go.RowKit Go.Lib in
theorem Jy(ab:∀w,(zeroValue 169).run Tp w=.ok (.agg (Ba 256 (.bool false))) w)(s Z:Bt)(w:World)(h2:2<=Z.size)(h8:8<s.size)(hs:s.size<4294967281)(ae:Z.size<4294967281)(aa:∀(j:Nat) b,Z.data.toList[j]?=some b->b.toNat<128):
  Calls Tp 265 #[.string s,.string Z] w λe w'=>e=.returned (.int .i64 (Lib.indexAny s.data.toList Z.data.toList))/\w'=((w.alloc (.cells (Lib.setCells Z.data.toList) 169)).alloc (.cells (Lib.setCells Z.data.toList) 169)):=Any.strings_IndexAny_long zx9 ab (by kernel_rfl) s Z w h2 h8 hs ae aa
end
end Go.X
end
section
namespace Go.X
open Go Go.X Go.Proofs Go.RowKit
section
variable {h h':za} {b:Nat} {l:Bs} {cs:Array Value} {s:Sl} {K:Value -> za -> Prop}
def Bld(h:za)(b:Nat)(l:Bs):Prop:=∃(p:Option Addr) (s:Sl),h[b]?=some (.cells #[.pointer p,slV s] 112 (0,0))/\(p=none\/p=some ⟨b,0,none⟩)/\Owns h (b+1) 5 1 s (Lib.byteCells l)
theorem Bld.lt(H:Bld h b l):b<h.size:=by
 obtain⟨p,s,e,_⟩:=H
 rcases AR b h.size with q|q
 ·exact q
 ·rw[Array.getElem?_eq_none q]at e;cases e
theorem Bld.keep(H:Bld h b l)(k:Keep h.size h h'):Bld h' b l:=by
 have Z:=H.lt
 obtain⟨p,s,e,hp,ho⟩:=H
 exact⟨p,s,by rw[k.get b Z];exact e,hp,ho.keepN k⟩
theorem Bld.new(h:za):Bld (h.push (.cells #[.pointer none,.slice none 0 0] 112)) h.size []:=
 ⟨none,⟨none,0,0⟩,j5 _ _,.inl rfl,Owns.nil _ _ _ _⟩
theorem zya:(AZ.info? 112).map (·.size)=some 2:=by kernel_rfl
theorem z7a:liesAt Tp AZ.depth 112 (2 / AZ.cellsOf 112) 0 112 1=true:=by kernel_rfl
theorem zyb:AZ.underlying 109=some (.pointer 112):=by kernel_rfl
theorem zyc:AZ.underlying 234=some .unsafePointer:=by kernel_rfl
set_option maxHeartbeats 1000000 in
set_option maxRecDepth 100000 in
theorem zun(b:Nat)(w:World)(h0:w.cell? ⟨b,0,none⟩=some (.pointer (some ⟨b,0,none⟩))):
  Calls Tp 152 #[.pointer (some ⟨b,0,none⟩)] w λe w'=>e=.returned (.tuple #[])/\w'=w:=by
 obtain⟨j,hj,_⟩:=Cy.1 zya
 have mixed:=Tryz.mixed
 go_enter Tryz.func152,Tryz.ntmps152
 go_wp2
 rw[Lib.run_neq_ptr_same w _ zyb hj]
 go_wp2
 go_end0
 exact⟨rfl,rfl⟩
set_option maxHeartbeats 1000000 in
set_option maxRecDepth 100000 in
theorem zqf(b:Nat)(w:World)(h0:w.cell? ⟨b,0,none⟩=some (.pointer none))(Z:w.shape? b=some (112,2))(ab:w.frozen? ⟨b,0,none⟩=false):
  Calls Tp 152 #[.pointer (some ⟨b,0,none⟩)] w λe w'=>e=.returned (.tuple #[])/\w'=w.setCell ⟨b,0,none⟩ (.pointer (some ⟨b,0,none⟩)):=by
 obtain⟨j,hj,aa⟩:=Cy.1 zya
 have mixed:=Tryz.mixed
 go_enter Tryz.func152,Tryz.ntmps152
 go_wp2
 rw[Lib.run_to_unsafe w ⟨b,0,none⟩ zyb zyc hj (by rw[aa];decide) Z (Nat.zero_lt_succ 1)]
 simp only[Result.andThen]
 rw[Oper.upon_value]
 go_wp2
 rw[run_callFunc_extern Tryz.func219 (by kernel_rfl) (by kernel_rfl) (by kernel_rfl) (e:=Extern.AbiNoEscape.same) (by kernel_rfl)]
 rw[Lib.run_noEscape]
 simp only[Result.andThen]
 rw[Oper.upon_value]
 go_wp2
 rw[Lib.run_from_unsafe w ⟨b,0,none⟩ zyc zyb hj Z z7a]
 simp only[Result.andThen]
 rw[Oper.upon_value]
 go_wp2
 go_end0
 exact⟨rfl,rfl⟩
theorem zuo{b o:Nat}{T:TypeId}(e:h[b]?=some (.cells cs T (0,0)))(v:Value)(B:World)(d:Nat):(mk B d h).setCell ⟨b,o,none⟩ v=mk B d (h.setIfInBounds b (.cells (cs.setIfInBounds o v) T (0,0))):=by
 unfold World.setCell mk
 simp only
 congr 1
 have hb:b<h.size:=(Ac.1 e).1
 apply Array.ext_getElem?
 intro i
 rw[Array.getElem?_modify]
 by_cases hi:i=b
 ·subst hi
  have e':h[i]=.cells cs T (0,0):=by
   have:=AI hb
   rw[e]at this
   exact(Aq this).symm
  simp[hb,e']
 ·rw[if_neg (Ne.symm hi),AN (Ne.symm hi)]
theorem Keep.ne(hs:h'.size=h.size)(hf:∀i,i≠b->h'[i]?=h[i]?):Keep b h h':=⟨by omega,λi hi=>hf i (by omega)⟩
def Itk(h h':za):Prop:=∀(i:Nat) (s:Bt) (p:Nat),h[i]?=some (.stringIter s p)->h'[i]?=some (.stringIter s p)
theorem Itk.trans{a b c:za}(x:Itk a b)(y:Itk b c):Itk a c:=λi s p e=>y i s p (x i s p e)
theorem Itk.keep(k:Keep h.size h h'):Itk h h':=λi s p e=>by
 have hi:i<h.size:=(Ac.1 e).1
 rw[k.get i hi];exact e
theorem Itk.ne{T:TypeId}{m:Nat×Nat}(e:h[b]?=some (.cells cs T m))(f:∀i,i≠b->h'[i]?=h[i]?):Itk h h':=λi s p ei=>by
 by_cases hi:i=b
 ·subst hi;rw[e]at ei;cases ei
 ·rw[f i hi];exact ei
theorem Itk.own{base:Nat}{e:TypeId}{sz:Nat}{xs:List Value}(H:Owns h base e sz s xs)(f:∀i,i<h.size->(∀p,s.a=some p->i≠p.block)->h'[i]?=h[i]?):Itk h h':=λi t p ei=>by
 have hi:i<h.size:=(Ac.1 ei).1
 rw[f i hi λq hq Z=>?_]
 ·exact ei
 ·rcases H.2 with⟨hv,_⟩|⟨g,cap,aa,hv,_,hg,_⟩
  ·rw[hq]at hv;cases hv
  ·have hg:h[g]?=some (.cells aa e (0,0)):=hg
   rw[hq]at hv
   injection hv with e1 _ _
   injection e1 with e1
   rw[Z,e1]at ei
   rw[hg]at ei;cases ei
theorem chk(H:Bld h b l)(hK:∀h',Bld h' b l->Keep b h h'->h'.size=h.size->Itk h h'->K (.tuple #[]) h'):XC Tp 152 #[.pointer (some ⟨b,0,none⟩)] h K:=by
 have aa:=H.lt
 obtain⟨p,s,e,hp,ho⟩:=H
 have Z:∀B d,(mk B d h).cell? ⟨b,0,none⟩=some (.pointer p):=λB d=>by
  have:(mk B d h).heap[b]?=some (.cells #[.pointer p,slV s] 112 (0,0)):=e
  simp[World.cell?,this]
 rcases hp with rfl|rfl
 ·refine XC.of_calls λB d=>(zqf b (mk B d h) (Z B d) ?_ ?_).mono ?_
  ·have:(mk B d h).heap[b]?=some (.cells #[.pointer none,slV s] 112 (0,0)):=e
   simp[World.shape?,this]
  ·exact zir ⟨_,e⟩ B d
  ·rintro e' w' ⟨rfl,rfl⟩
   rw[zuo e]
   refine⟨_,rfl,rfl,rfl,rfl,?_⟩
   show K _ (h.setIfInBounds b _)
   refine hK _ ⟨_,s,?_,.inr rfl,?_⟩ ?_ (by simp) (Itk.ne e λi hi=>AN (Ne.symm hi))
   ·rw[Cj aa];rfl
   ·refine ho.keep λq hq=>?_
    have:=ho.base_le q hq
    rw[AN (by omega)]
   ·exact Keep.setBlk _ (Ad _)
 ·refine XC.of_calls λB d=>(zun b (mk B d h) (Z B d)).mono ?_
  rintro e' w' ⟨rfl,rfl⟩
  exact⟨_,rfl,rfl,rfl,rfl,hK _ ⟨_,s,e,.inr rfl,ho⟩ (Keep.refl _ _) rfl (Itk.keep (Keep.refl _ _))⟩
theorem elemU8:ElemT Tp 110 5 (.int .u8 0) 1 1:=⟨by kernel_rfl,⟨Tryz.t5,by kernel_rfl,by kernel_rfl,by kernel_rfl,by kernel_rfl⟩,rfl,by omega⟩
theorem qed:AZ.underlying 9=some .string:=by kernel_rfl
theorem z7b:qd Tp 110=true:=by kernel_rfl
theorem z7c:qt Tp 110=1:=by kernel_rfl
theorem qay{p:Option Addr}{s s0:Sl}(e:h[b]?=some (.cells #[.pointer p,slV s0] 112 (0,0)))(hp:p=none\/p=some ⟨b,0,none⟩)(ho:Owns h (b+1) 5 1 s (Lib.byteCells l)){K:za->Prop}
  (hK:∀h',Bld h' b l->Keep b h h'->h'.size=h.size->Itk h h'->K h'):XRunU Tp (An 110 (.pointer (some ⟨b,1,none⟩)) (.slice s.a s.len s.cap)) h K:=by
 intro B d
 obtain⟨h',r1,r2,r3,r4⟩:=Jf (P:=Tp) z7b z7c e (o:=1) (v:=slV s) rfl (by simp) (by simp[slV,Value.cells,Value.oneCell']) B d
 refine⟨d,h',r1,hK h' ⟨p,s,?_,hp,?_⟩ (Keep.ne r3 r4) r3 (Itk.ne e r4)⟩
 ·rw[r2];rfl
 ·refine ho.keep λq hq=>?_
  have:=ho.base_le q hq
  exact r4 _ (by omega)
theorem z1r(H:Bld h b l)(hK:∀h',Keep b h h'->K (.string (bl l)) h'):XC Tp 87 #[.pointer (some ⟨b,0,none⟩)] h K:=by
 have aa:=H.lt
 obtain⟨p,s,e,hp,ho⟩:=H
 refine XC.of_calls λB d=>(X1 b b l (mk B d h) ?_ (Nat.le_of_lt aa)).mono ?_
 ·have hb:Lib.BuilderAt 112 5 b b (.pointer p) (Lib.byteCells l) (mk B d h):=by
   refine⟨Ad _,slV s,e,?_,?_⟩
   ·have h1:=ho.1
    rw[Dc]at h1
    rw[h1]
    exact ho.base (Nat.le_succ b)
   ·intro hq
    cases ha:s.a with
    |none=>rw[slV,ha]at hq;cases hq
    |some q=>
     have:=ho.base_le q ha
     rw[slV,ha]at hq
     have:q.block=b:=by simpa[Value.ownBlock]using hq
     omega
  rcases hp with rfl|rfl
  ·exact .inl hb
  ·exact .inr hb
 ·rintro e' w' ⟨rfl,Z⟩
  exact⟨_,rfl,Z.os,Z.tape,Z.output,hK _ ⟨Z.size,Z.block⟩⟩
end
end Go.X
end
section
namespace Go.X
section
theorem zlj(s0:Bt)(h:za)(R:Value->za->Prop)
  (H:let b:=h.push (.cells #[.string (⟨#[]⟩:Bt),.slice none 0 0] 36);XC Tp 60 #[.string s0] b (λc d=>∃e f g,c=.tuple #[slV e,.int .i64 f,.int .i64 g]/\((g != 0)=true->XRunU Tp (An 36 (.pointer (some ⟨h.size,0,none⟩)) (.agg #[.string (⟨#[]⟩:Bt),.slice none 0 0])) d (λi=>∃j k,ze i ⟨h.size,0,none⟩ 0 [.string j,slV k]/\R (.tuple #[.agg #[.string j,slV k],.int .i64 f,.int .i64 g]) i))/\((g != 0)=false->let l:=d.push (.cells #[.string s0,.slice none 0 0,.int .i64 0,.int .i64 0,.slice none 0 0,.int .i64 0,.int .i64 0] 88);∃(m:Int->za->Prop) (n:Int->za->Nat),m 0 l/\∀o:Int,∀p:za,m o p->((decide (o<e.len)=true->∃q,(e.a=some q/\0<=o/\o<e.len)/\∃r s t,ze p (q.add (o.toNat*3)) 0 [.int .i64 r,.int .i64 s,.int .i64 t]/\let u:=p.push (.cells #[.int .i64 0,.int .i64 0,.int .i64 0] 90);XRunU Tp (An 90 (.pointer (some ⟨p.size,0,none⟩)) (.agg #[.int .i64 r,.int .i64 s,.int .i64 t])) u (λv=>∃w,zd v (Al ⟨p.size,0,none⟩ 0)=some (.int .i64 w)/\((w != 1)=true->∃x,some ⟨d.size,0,none⟩=some x/\∃y,zd v (Al x 1)=some (slV y)/\∃z A B,ze v ⟨p.size,0,none⟩ 0 [.int .i64 z,.int .i64 A,.int .i64 B]/\let C:=v.push (.cells #[.int .i64 z,.int .i64 A,.int .i64 B] 90);(C)[((Al x 1):Addr).block]?=(v)[((Al x 1):Addr).block]?/\XRun Tp (AB #[83,83] 83 #[slV y,.slice (some ⟨v.size,0,none⟩) 1 1]) C (λD E=>∃F,D=slV F/\∃G,some ⟨d.size,0,none⟩=some G/\XRunU Tp (An 83 (.pointer (some (Al G 1))) (slV F)) E (λI=>(m (Ab .i64 (o+1)) I/\n (Ab .i64 (o+1)) I<n o p))))/\((w != 1)=false->(m (Ab .i64 (o+1)) v/\n (Ab .i64 (o+1)) v<n o p))))/\(decide (o<e.len)=false->XC Tp 61 #[.pointer (some ⟨d.size,0,none⟩),.int .i64 1,.agg #[.int .i64 0,.int .i64 0]] p (λJ L=>∃M,J=.bool M/\∀N:Bool->za->Prop,(∀O:Bool,∀P:za,(((!O)=true->∃Q,some ⟨d.size,0,none⟩=some Q/\∃S,zd P (Al Q 5)=some (.int .i64 S)/\∃T,some ⟨d.size,0,none⟩=some T/\∃U,zd P (Al T 6)=some (.int .i64 U)/\(P)[((Al T 6):Addr).block]?=(P)[((Al T 6):Addr).block]?/\(P)[((Al Q 5):Addr).block]?=(P)[((Al Q 5):Addr).block]?/\XRunU Tp (An 36 (.pointer (some ⟨h.size,0,none⟩)) (.agg #[.string (⟨#[]⟩:Bt),.slice none 0 0])) P (λV=>(V)[((Al T 6):Addr).block]?=(P)[((Al T 6):Addr).block]?/\(V)[((Al Q 5):Addr).block]?=(P)[((Al Q 5):Addr).block]?/\(V)[((Al T 6):Addr).block]?=(P)[((Al T 6):Addr).block]?/\∃W X,ze V ⟨h.size,0,none⟩ 0 [.string W,slV X]/\R (.tuple #[.agg #[.string W,slV X],.int .i64 S,.int .i64 U]) V))/\((!O)=false->∃Y,some ⟨d.size,0,none⟩=some Y/\∃Z,zd P (Al Y 4)=some (slV Z)/\XRunU Tp (An 36 (.pointer (some ⟨h.size,0,none⟩)) (.agg #[.string s0,slV Z])) P (λaa=>∃ab ac,ze aa ⟨h.size,0,none⟩ 0 [.string ab,slV ac]/\R (.tuple #[.agg #[.string ab,slV ac],.int .i64 (s0.size:Int),.int .i64 0]) aa)))->N O P)->∃ad,(M=true->some ⟨d.size,0,none⟩=some ad)/\∃ae,(M=true->zd L (Al ad 1)=some (slV ae))/\((bif M then(decide ((ae.len:Int)>0))else false)=true->XC Tp 62 #[.pointer (some ⟨d.size,0,none⟩),.int .i64 2] L (λaf ag=>∃ah,af=.bool ah/\N ah ag))/\((bif M then(decide ((ae.len:Int)>0))else false)=false->N M L))))))):
  XC Tp 19 #[.string s0] h R:=
 XF ⟨[(9,8000),(15,8000)],[(6,[(28,.one (.int .i64))])],[(14,[(11,.one (.bool))])]⟩ [.cell 2 36,.tmp 3,.tmp 4] 79 Tryz.func19 H
theorem zn1(b:Bt)(c:Sl)(k1:Int)(a8:Int)(h:za)(R:Value->za->Prop)
  (H:let d:=h.push (.cells #[.string b,slV c] 36);let e:=d.push (.cells #[.int .i64 0,.string (⟨#[]⟩:Bt),.slice none 0 0,.slice none 0 0] 26);∃f,zd e (Al ⟨h.size,0,none⟩ 1)=some (slV f)/\∃g,(f.a=some g/\0<=k1/\k1<f.len)/\∃i j k l m n o,ze e (g.add (k1.toNat*7)) 0 [.int .i64 i,.int .i64 j,.int .i64 k,.int .i64 l,.int .i64 m,slV n,slV o]/\let p:=e.push (.cells #[.int .i64 0,.int .i64 0,.int .i64 0,.int .i64 0,.int .i64 0,.slice none 0 0,.slice none 0 0] 62);XRunU Tp (An 62 (.pointer (some ⟨e.size,0,none⟩)) (.agg #[.int .i64 i,.int .i64 j,.int .i64 k,.int .i64 l,.int .i64 m,slV n,slV o])) p (λq=>∀r:Addr->za->Prop,(∀s:Addr,∀t:za,(∃u,zd t (Al ⟨e.size,0,none⟩ 5)=some (slV u)/\∃(v:Int->za->Prop) (w:Int->za->Nat),v 0 t/\∀x:Int,∀y:za,v x y->((decide (x<u.len)=true->∃z,zd y (Al ⟨e.size,0,none⟩ 5)=some (slV z)/\∃A,(z.a=some A/\0<=x/\x<z.len)/\∃B,zd y (A.add (x.toNat*1))=some (.int .i64 B)/\∃C,((!(decide (B<0)))=true->zd y (Al ⟨h.size,0,none⟩ 1)=some (slV C))/\((bif (bif (decide (B<0))then true else(decide (B>=C.len)))then true else(decide (a8>32)))=true->∃D E F G,ze y s 0 [.int .i64 D,.string E,slV F,slV G]/\XRunU Tp (An 26 (.pointer (some ⟨d.size,0,none⟩)) (.agg #[.int .i64 D,.string E,slV F,slV G])) y (λI=>∃J L M N,ze I ⟨d.size,0,none⟩ 0 [.int .i64 J,.string L,slV M,slV N]/\R (.agg #[.int .i64 J,.string L,slV M,slV N]) I))/\((bif (bif (decide (B<0))then true else(decide (B>=C.len)))then true else(decide (a8>32)))=false->∀O:za->Prop,(∀P:za,(∃Q,zd P (Al s 3)=some (slV Q)/\∃S T,ze P ⟨h.size,0,none⟩ 0 [.string S,slV T]/\XC Tp 59 #[.agg #[.string S,slV T],.int .i64 B,.int .i64 (Ab .i64 (a8+1))] P (λU V=>∃W X Y Z,U=.agg #[.int .i64 W,.string X,slV Y,slV Z]/\(V)[((Al s 3):Addr).block]?=(P)[((Al s 3):Addr).block]?/\let aa:=V.push (.cells #[.int .i64 W,.string X,slV Y,slV Z] 26);(aa)[((Al s 3):Addr).block]?=(P)[((Al s 3):Addr).block]?/\XRun Tp (AB #[24,24] 24 #[slV Q,.slice (some ⟨V.size,0,none⟩) 1 1]) aa (λab ac=>∃ae,ab=slV ae/\XRunU Tp (An 24 (.pointer (some (Al s 3))) (slV ae)) ac (λaf=>(v (Ab .i64 (x+1)) af/\w (Ab .i64 (x+1)) af<w x y)))))->O P)->∃ag,zd y (Al ⟨e.size,0,none⟩ 0)=some (.int .i64 ag)/\((ag==6)=true->∃ah,zd y (Al s 2)=some (slV ah)/\∃ai aj,ze y ⟨h.size,0,none⟩ 0 [.string ai,slV aj]/\XC Tp 112 #[.agg #[.string ai,slV aj],.int .i64 B] y (λak al=>∃am,ak=.string am/\(al)[((Al s 2):Addr).block]?=(y)[((Al s 2):Addr).block]?/\let an:=al.push (.cells #[.string am] 9);(an)[((Al s 2):Addr).block]?=(y)[((Al s 2):Addr).block]?/\XRun Tp (AB #[23,23] 23 #[slV ah,.slice (some ⟨al.size,0,none⟩) 1 1]) an (λao ap=>∃aq,ao=slV aq/\XRunU Tp (An 23 (.pointer (some (Al s 2))) (slV aq)) ap (λar=>O ar))))/\((ag==6)=false->O y)))/\(decide (x<u.len)=false->∃au av aw ax,ze y s 0 [.int .i64 au,.string av,slV aw,slV ax]/\XRunU Tp (An 26 (.pointer (some ⟨d.size,0,none⟩)) (.agg #[.int .i64 au,.string av,slV aw,slV ax])) y (λay=>∃az aA aB aC,ze ay ⟨d.size,0,none⟩ 0 [.int .i64 az,.string aA,slV aB,slV aC]/\R (.agg #[.int .i64 az,.string aA,slV aB,slV aC]) ay))))->r s t)->∃aD,zd q (Al ⟨e.size,0,none⟩ 0)=some (.int .i64 aD)/\∃aE,zd q (Al ⟨e.size,0,none⟩ 0)=some (.int .i64 aE)/\∃aF aG,ze q ⟨h.size,0,none⟩ 0 [.string aF,slV aG]/\∃aH aI,ze q (Al ⟨e.size,0,none⟩ 1) 0 [.int .i64 aH,.int .i64 aI]/\(XC Tp 31 #[.agg #[.string aF,slV aG],.agg #[.int .i64 aH,.int .i64 aI]] q (λaJ aL=>∃aM,aJ=.string aM/\(aL)[((Al ⟨e.size,0,none⟩ 0):Addr).block]?=(q)[((Al ⟨e.size,0,none⟩ 0):Addr).block]?/\(aL)[((Al ⟨e.size,0,none⟩ 0):Addr).block]?=(q)[((Al ⟨e.size,0,none⟩ 0):Addr).block]?/\(XC Tp 111 #[.int .i64 aE,.string aM] aL (λaN aO=>∃aP,aN=.string aP/\(aO)[((Al ⟨e.size,0,none⟩ 0):Addr).block]?=(q)[((Al ⟨e.size,0,none⟩ 0):Addr).block]?/\(let aQ:=aO.push (.cells #[.int .i64 0,.string (⟨#[]⟩:Bt),.slice none 0 0,.slice none 0 0] 26);XRunU Tp (An 26 (.pointer (some ⟨aO.size,0,none⟩)) (.agg #[.int .i64 aD,.string aP,.slice none 0 0,.slice none 0 0])) aQ (λaS=>r ⟨aO.size,0,none⟩ aS))/\(let aT:=aO.push (.cells #[.int .i64 0,.string (⟨#[]⟩:Bt),.slice none 0 0,.slice none 0 0] 26);(aT)[((Al ⟨e.size,0,none⟩ 0):Addr).block]?=(q)[((Al ⟨e.size,0,none⟩ 0):Addr).block]?/\XRunU Tp (An 26 (.pointer (some ⟨aO.size,0,none⟩)) (.agg #[.int .i64 aD,.string aP,.slice none 0 0,.slice none 0 0])) aT (λaU=>r ⟨aO.size,0,none⟩ aU))))/\(let aV:=aL.push (.cells #[.int .i64 0,.string (⟨#[]⟩:Bt),.slice none 0 0,.slice none 0 0] 26);(aV)[((Al ⟨e.size,0,none⟩ 0):Addr).block]?=(q)[((Al ⟨e.size,0,none⟩ 0):Addr).block]?/\(aV)[((Al ⟨e.size,0,none⟩ 0):Addr).block]?=(q)[((Al ⟨e.size,0,none⟩ 0):Addr).block]?/\XC Tp 111 #[.int .i64 aE,.string aM] aV (λaW aX=>∃aY,aW=.string aY/\(aX)[((Al ⟨e.size,0,none⟩ 0):Addr).block]?=(q)[((Al ⟨e.size,0,none⟩ 0):Addr).block]?/\XRunU Tp (An 26 (.pointer (some ⟨aL.size,0,none⟩)) (.agg #[.int .i64 aD,.string aY,.slice none 0 0,.slice none 0 0])) aX (λaZ=>r ⟨aL.size,0,none⟩ aZ)))))/\(let a0:=q.push (.cells #[.int .i64 0,.string (⟨#[]⟩:Bt),.slice none 0 0,.slice none 0 0] 26);(a0)[((Al ⟨e.size,0,none⟩ 1):Addr).block]?=(q)[((Al ⟨e.size,0,none⟩ 1):Addr).block]?/\(a0)[(⟨h.size,0,none⟩:Addr).block]?=(q)[(⟨h.size,0,none⟩:Addr).block]?/\(a0)[((Al ⟨e.size,0,none⟩ 0):Addr).block]?=(q)[((Al ⟨e.size,0,none⟩ 0):Addr).block]?/\(a0)[((Al ⟨e.size,0,none⟩ 0):Addr).block]?=(q)[((Al ⟨e.size,0,none⟩ 0):Addr).block]?/\XC Tp 31 #[.agg #[.string aF,slV aG],.agg #[.int .i64 aH,.int .i64 aI]] a0 (λa1 a2=>∃a3,a1=.string a3/\(a2)[((Al ⟨e.size,0,none⟩ 0):Addr).block]?=(q)[((Al ⟨e.size,0,none⟩ 0):Addr).block]?/\(a2)[((Al ⟨e.size,0,none⟩ 0):Addr).block]?=(q)[((Al ⟨e.size,0,none⟩ 0):Addr).block]?/\XC Tp 111 #[.int .i64 aE,.string a3] a2 (λa4 a5=>∃a6,a4=.string a6/\(a5)[((Al ⟨e.size,0,none⟩ 0):Addr).block]?=(q)[((Al ⟨e.size,0,none⟩ 0):Addr).block]?/\XRunU Tp (An 26 (.pointer (some ⟨q.size,0,none⟩)) (.agg #[.int .i64 aD,.string a6,.slice none 0 0,.slice none 0 0])) a5 (λa7=>r ⟨q.size,0,none⟩ a7)))))):
  XC Tp 59 #[.agg #[.string b,.slice c.a c.len c.cap],.int .i64 k1,.int .i64 a8] h R:=
 XF ⟨[(11,8000),(10,8000),(2,8000)],[(4,[(29,.one (.int .i64))])],[(3,[(8,.one (.ad))]),(11,[])]⟩ [.cell 6 26] 74 Tryz.func59 H
theorem Zs(p0:Option Addr)(aC:Int)(b:Int)(c:Int)(h:za)(R:Value->za->Prop)
  (H:let d:=h.push (.cells #[.pointer p0] 86);let e:=d.push (.cells #[.int .i64 b,.int .i64 c] 58);∃f:Option Addr,zd e ⟨h.size,0,none⟩=some (.pointer f)/\XC Tp 115 #[.pointer f] e (λg i=>∃j,g=.int .i64 j/\XC Tp 114 #[.int .i64 j] i (λk l=>∃m,k=.int .i64 m/\((m==0)=true->∃n:Option Addr,zd l ⟨h.size,0,none⟩=some (.pointer n)/\XC Tp 62 #[.pointer n,.int .i64 2] l (λo p=>∃q,o=.bool q/\R (.bool q) p))/\((m==0)=false->(decide (aC>32)=true->∃r:Option Addr,zd l ⟨h.size,0,none⟩=some (.pointer r)/\XC Tp 62 #[.pointer r,.int .i64 5] l (λs t=>∃u,s=.bool u/\R (.bool u) t))/\(decide (aC>32)=false->∃v:Option Addr,zd l ⟨h.size,0,none⟩=some (.pointer v)/\∃w,v=some w/\∃x,zd l (Al w 4)=some (slV x)/\(((x.len:Int)==4096)=true->∃y:Option Addr,zd l ⟨h.size,0,none⟩=some (.pointer y)/\XC Tp 62 #[.pointer y,.int .i64 6] l (λz A=>∃B,z=.bool B/\R (.bool B) A))/\(((x.len:Int)==4096)=false->∃C:Option Addr,zd l ⟨h.size,0,none⟩=some (.pointer C)/\∃D,C=some D/\∃E,zd l (Al D 4)=some (slV E)/\∃F:Option Addr,zd l ⟨h.size,0,none⟩=some (.pointer F)/\∃G:Option Addr,zd l ⟨h.size,0,none⟩=some (.pointer G)/\∃I,G=some I/\∃J,zd l (Al I 4)=some (slV J)/\∃L:Option Addr,zd l ⟨h.size,0,none⟩=some (.pointer L)/\∃M,L=some M/\∃N,zd l (Al M 1)=some (slV N)/\∃O,(N.a=some O/\0<=(0:Int)/\(0:Int)<(N.len:Int))/\∃P Q,ze l (Al (O.add ((0:Int).toNat*3)) 1) 0 [.int .i64 P,.int .i64 Q]/\∃S T,ze l ⟨d.size,0,none⟩ 0 [.int .i64 S,.int .i64 T]/\(l)[((Al I 4):Addr).block]?=(l)[((Al I 4):Addr).block]?/\(l)[(⟨h.size,0,none⟩:Addr).block]?=(l)[(⟨h.size,0,none⟩:Addr).block]?/\(l)[(⟨h.size,0,none⟩:Addr).block]?=(l)[(⟨h.size,0,none⟩:Addr).block]?/\let U:=l.push (.cells #[.int .i64 m,.int .i64 P,.int .i64 Q,.int .i64 S,.int .i64 T,.slice none 0 0,.slice none 0 0] 62);(U)[((Al I 4):Addr).block]?=(l)[((Al I 4):Addr).block]?/\(U)[(⟨h.size,0,none⟩:Addr).block]?=(l)[(⟨h.size,0,none⟩:Addr).block]?/\(U)[(⟨h.size,0,none⟩:Addr).block]?=(l)[(⟨h.size,0,none⟩:Addr).block]?/\XRun Tp (AB #[34,34] 34 #[slV J,.slice (some ⟨l.size,0,none⟩) 1 1]) U (λV W=>∃X,V=slV X/\∃Y,F=some Y/\(W)[(⟨h.size,0,none⟩:Addr).block]?=(l)[(⟨h.size,0,none⟩:Addr).block]?/\XRunU Tp (An 34 (.pointer (some (Al Y 4))) (slV X)) W (λZ=>∃aa:Option Addr,zd Z ⟨h.size,0,none⟩=some (.pointer aa)/\XC Tp 116 #[.pointer aa] Z (λab ac=>ab=.tuple #[]/\∀ad:Bool->za->Prop,(∀ae:Bool,∀af:za,(∃ag:Option Addr,zd af ⟨h.size,0,none⟩=some (.pointer ag)/\∃ah,ag=some ah/\∃ai,zd af (Al ah 4)=some (slV ai)/\∃aj:Option Addr,zd af ⟨h.size,0,none⟩=some (.pointer aj)/\∃ak,aj=some ak/\∃al,zd af (Al (Al ak 2) 1)=some (.int .i64 al)/\∃am,(ai.a=some am/\0<=(E.len:Int)/\(E.len:Int)<(ai.len:Int))/\XRunU Tp (An 3 (.pointer (some (Al (Al (am.add ((E.len:Int).toNat*7)) 1) 1))) (.int .i64 al)) af (λan=>R (.bool ae) an))->ad ae af)->((m==5)=true->∃ao:Option Addr,zd ac ⟨h.size,0,none⟩=some (.pointer ao)/\∃ap:Option Addr,zd ac ⟨h.size,0,none⟩=some (.pointer ap)/\XC Tp 117 #[.pointer ao,.int .i64 (E.len:Int),.int .i64 aC,.int .i64 5,.func (.func 118) #[.pointer ap] #[]] ac (λaq ar=>∃au,aq=.bool au/\ad au ar))/\((m==5)=false->((m==6)=true->let av:=ac.push (.map #[] 0);let aw:=av.push (.cells #[.map none] 154);XRunU Tp (An 154 (.pointer (some ⟨av.size,0,none⟩)) (.map (some ac.size))) aw (λax=>∃ay:Option Addr,zd ax ⟨h.size,0,none⟩=some (.pointer ay)/\XC Tp 117 #[.pointer ay,.int .i64 (E.len:Int),.int .i64 aC,.int .i64 3,.func (.func 119) #[] #[.pointer (some ⟨h.size,0,none⟩),.pointer (some ⟨av.size,0,none⟩)]] ax (λaz aA=>∃aB,az=.bool aB/\ad aB aA)))/\((m==6)=false->ad true ac))))))))))):
  XC Tp 61 #[.pointer p0,.int .i64 aC,.agg #[.int .i64 b,.int .i64 c]] h R:=
 XF ⟨[(9,8000),(18,8000)],[],[(18,[(9,.one (.bool))])]⟩ [.tmp 6] 90 Tryz.func61 H
theorem za6(p0:Option Addr)(Z:Int)(h:za)(R:Value->za->Prop)
  (H:XC Tp 121 #[.pointer p0] h (λa b=>∃c,a=.int .i64 c/\∃d,p0=some d/\XRunU Tp (An 3 (.pointer (some (Al d 5))) (.int .i64 c)) b (λe=>∃f,p0=some f/\XRunU Tp (An 27 (.pointer (some (Al f 6))) (.int .i64 Z)) e (λg=>R (.bool false) g)))):
  XC Tp 62 #[.pointer p0,.int .i64 Z] h R:=
 XF ⟨[],[],[]⟩ [.tmp 4] 14 Tryz.func62 H
theorem Zx(b0:Option Addr)(r1:Int)(h:za)(R:Value->za->Prop)
  (H:XC Tp 152 #[.pointer b0] h (λb c=>b=.tuple #[]/\∃d,b0=some d/\∃e,zd c (Al d 1)=some (slV e)/\∃f,b0=some f/\∃g,zd c (Al f 1)=some (slV g)/\XC Tp 153 #[slV g,.int .i32 r1] c (λi j=>∃k,i=slV k/\∃l,b0=some l/\XRunU Tp (An 110 (.pointer (some (Al l 1))) (slV k)) j (λm=>∃n,b0=some n/\∃o,zd m (Al n 1)=some (slV o)/\R (.tuple #[.int .i64 (Ab .i64 ((o.len:Int)-(e.len:Int))),.nilIface]) m)))):
  XC Tp 83 #[.pointer b0,.int .i32 r1] h R:=
 XF ⟨[],[],[]⟩ [.tmp 4,.tmp 5] 30 Tryz.func83 H
theorem zup(s0:Bt)(h:za)(R:Value->za->Prop)
  (H:let a:=h.push (.cells #[.string s0] 9);R (.func (.func 197) #[] #[.pointer (some ⟨h.size,0,none⟩)]) a):
  XC Tp 113 #[.string s0] h R:=
 XF ⟨[],[],[]⟩ [.tmp 2] 4 Tryz.func113 H
theorem za7(p0:Option Addr)(h:za)(R:Value->za->Prop)
  (H:∃b,p0=some b/\∃c,zd h (Al b 1)=some (slV c)/\(((c.len:Int)==0)=true->R (.int .i64 0) h)/\(((c.len:Int)==0)=false->∃d,p0=some d/\∃e,zd h (Al d 1)=some (slV e)/\∃f,(e.a=some f/\0<=(0:Int)/\(0:Int)<(e.len:Int))/\∃g,zd h (Al (f.add ((0:Int).toNat*3)) 0)=some (.int .i64 g)/\R (.int .i64 g) h)):
  XC Tp 115 #[.pointer p0] h R:=
 XF ⟨[],[],[]⟩ [.tmp 2] 16 Tryz.func115 H
theorem za8(p0:Option Addr)(h:za)(R:Value->za->Prop)
  (H:∃b,p0=some b/\∃c,zd h (Al b 1)=some (slV c)/\∃d,(c.a=some d/\0<=(0:Int)/\(0:Int)<(c.len:Int))/\∃e f,ze h (Al (d.add ((0:Int).toNat*3)) 1) 0 [.int .i64 e,.int .i64 f]/\∃g,p0=some g/\∃i,zd h (Al g 1)=some (slV i)/\((none:Option Value)=none\/∃v,(none:Option Value)=some v)/\(0<=(1:Int)/\(1:Int)<=(i.len:Int)/\(i.len:Int)<=(i.cap:Int)/\(i.cap:Int)<=(i.cap:Int))/\∃j,p0=some j/\XRunU Tp (An 58 (.pointer (some (Al j 2))) (.agg #[.int .i64 e,.int .i64 f])) h (λk=>∃l,p0=some l/\XRunU Tp (An 83 (.pointer (some (Al l 1))) (.slice (zq7 i.a 3 ((1:Int).toNat) ((i.cap:Int).toNat)) ((i.len:Int).toNat-(1:Int).toNat) ((i.cap:Int).toNat-(1:Int).toNat))) k (λm=>R (.tuple #[]) m))):
  XC Tp 116 #[.pointer p0] h R:=
 XF ⟨[(0,8000)],[],[]⟩ [] 20 Tryz.func116 H
theorem za9(p0:Option Addr)(n1:Int)(ab:Int)(Z:Int)(aa:FuncId)(ae:Array Value)(af:Array Value)(h:za)(R:Value->za->Prop)
  (H:XC Tp 199 #[.pointer p0,.int .i64 Z] h (λb c=>∃d,b=.bool d/\(d=true->R (.bool true) c)/\(d=false->∃(e:za->Prop) (f:za->Nat),e c/\∀g:za,e g->(∃i,p0=some i/\∃j,zd g (Al (Al i 2) 1)=some (.int .i64 j)/\∃k,p0=some k/\∃l,zd g (Al k 4)=some (slV l)/\zp Tp aa=true/\XC Tp aa (ae++#[.int .i64 (Ab .i64 (ab+1))]++af) g (λm n=>∃o,m=.bool o/\((!o)=true->R (.bool false) n)/\((!o)=false->∃p,p0=some p/\∃q,zd n (Al p 4)=some (slV q)/\∃r,(q.a=some r/\0<=n1/\n1<q.len)/\∃s,some (r.add (n1.toNat*7))=some s/\∃t,zd n (Al s 5)=some (slV t)/\let u:=n.push (.cells #[.int .i64 (l.len:Int)] 3);XRun Tp (AB #[59,59] 59 #[slV t,.slice (some ⟨n.size,0,none⟩) 1 1]) u (λv w=>∃x,v=slV x/\∃y,some (r.add (n1.toNat*7))=some y/\XRunU Tp (An 59 (.pointer (some (Al y 5))) (slV x)) w (λz=>∃A,some (r.add (n1.toNat*7))=some A/\∃B,zd z (Al A 6)=some (slV B)/\XC Tp 121 #[.pointer p0] z (λC D=>∃E,C=.int .i64 E/\(D)[((Al A 6):Addr).block]?=(z)[((Al A 6):Addr).block]?/\(D)[((Al A 6):Addr).block]?=(z)[((Al A 6):Addr).block]?/\let F:=D.push (.cells #[.int .i64 j,.int .i64 E] 58);(F)[((Al A 6):Addr).block]?=(z)[((Al A 6):Addr).block]?/\XRun Tp (AB #[60,60] 60 #[slV B,.slice (some ⟨D.size,0,none⟩) 1 1]) F (λG I=>∃J,G=slV J/\∃L,some (r.add (n1.toNat*7))=some L/\XRunU Tp (An 60 (.pointer (some (Al L 6))) (slV J)) I (λM=>XC Tp 199 #[.pointer p0,.int .i64 Z] M (λN O=>∃P,N=.bool P/\(P=true->R (.bool true) O)/\(P=false->XC Tp 199 #[.pointer p0,.int .i64 6] O (λQ S=>∃T,Q=.bool T/\((!T)=true->XC Tp 62 #[.pointer p0,.int .i64 2] S (λU V=>∃W,U=.bool W/\R (.bool W) V))/\((!T)=false->(e S/\f S<f g)))))))))))))))):
  XC Tp 117 #[.pointer p0,.int .i64 n1,.int .i64 ab,.int .i64 Z,.func (.func aa) ae af] h R:=
 XF ⟨[(8,8000)],[(3,[])],[]⟩ [.tmp 10] 71 Tryz.func117 H
theorem zba(p0:Option Addr)(Z:Int)(h:za)(R:Value->za->Prop)
  (H:XC Tp 61 #[.pointer p0,.int .i64 Z,.agg #[.int .i64 0,.int .i64 0]] h (λa b=>∃c,a=.bool c/\R (.bool c) b)):
  XC Tp 118 #[.pointer p0,.int .i64 Z] h R:=
 XF ⟨[],[],[]⟩ [.tmp 4] 9 Tryz.func118 H
theorem Wc(Z:Int)(c1:Addr)(c2:Addr)(h:za)(R:Value->za->Prop)
  (H:∃a:Option Addr,zd h c1=some (.pointer a)/\∃b:Option Nat,zd h c2=some (.map b)/\XC Tp 120 #[.pointer a,.int .i64 Z,.map b] h (λc d=>∃e,c=.bool e/\R (.bool e) d)):
  XC Tp 119 #[.int .i64 Z,.pointer (some c1),.pointer (some c2)] h R:=
 XF ⟨[],[],[]⟩ [.tmp 4] 9 Tryz.func119 H
theorem Xc(p0:Option Addr)(Z:Int)(aa:Option Nat)(h:za)(R:Value->za->Prop)
  (H:XC Tp 115 #[.pointer p0] h (λb c=>∃d,b=.int .i64 d/\((d != 8)=true->XC Tp 62 #[.pointer p0,.int .i64 2] c (λe f=>∃g,e=.bool g/\R (.bool g) f))/\((d != 8)=false->∃i,p0=some i/\∃j,zd c (Al i 1)=some (slV j)/\∃k,(j.a=some k/\0<=(0:Int)/\(0:Int)<(j.len:Int))/\∃l m,ze c (Al (k.add ((0:Int).toNat*3)) 1) 0 [.int .i64 l,.int .i64 m]/\let n:=c.push (.cells #[.int .i64 0,.int .i64 0] 58);XRunU Tp (An 58 (.pointer (some ⟨c.size,0,none⟩)) (.agg #[.int .i64 l,.int .i64 m])) n (λo=>∃p,p0=some p/\∃q,zd o (Al p 0)=some (.string q)/\∃r,zd o (Al ⟨c.size,0,none⟩ 0)=some (.int .i64 r)/\∃s,zd o (Al ⟨c.size,0,none⟩ 1)=some (.int .i64 s)/\(0<=r/\r<=s/\s<=q.size)/\XC Tp 196 #[.string (q.extract r.toNat s.toNat)] o (λt u=>∃v w x,t=.tuple #[.string v,.int .i64 w,.int .i64 x]/\∃y,QExec Tp (Em 154 (.map aa) (.string v) false) u (.bool y)/\(y=true->XC Tp 62 #[.pointer p0,.int .i64 7] u (λz A=>∃B,z=.bool B/\R (.bool B) A))/\(y=false->XRunU Tp (Dt 154 (.map aa) (.string v) (.bool true)) u (λC=>XC Tp 116 #[.pointer p0] C (λD E=>D=.tuple #[]/\XC Tp 199 #[.pointer p0,.int .i64 7] E (λF G=>∃I,F=.bool I/\((!I)=true->XC Tp 62 #[.pointer p0,.int .i64 2] G (λJ L=>∃M,J=.bool M/\R (.bool M) L))/\((!I)=false->∃N O,ze G ⟨c.size,0,none⟩ 0 [.int .i64 N,.int .i64 O]/\XC Tp 61 #[.pointer p0,.int .i64 Z,.agg #[.int .i64 N,.int .i64 O]] G (λP Q=>∃S,P=.bool S/\R (.bool S) Q))))))))))):
  XC Tp 120 #[.pointer p0,.int .i64 Z,.map aa] h R:=
 XF ⟨[(4,8000)],[],[]⟩ [.tmp 6] 55 Tryz.func120 H
theorem zbb(p0:Option Addr)(h:za)(R:Value->za->Prop)
  (H:∃b,p0=some b/\∃c,zd h (Al b 1)=some (slV c)/\(((c.len:Int)==0)=true->∃d,p0=some d/\∃e,zd h (Al d 0)=some (.string e)/\R (.int .i64 (e.size:Int)) h)/\(((c.len:Int)==0)=false->∃f,p0=some f/\∃g,zd h (Al f 1)=some (slV g)/\∃i,(g.a=some i/\0<=(0:Int)/\(0:Int)<(g.len:Int))/\∃j,zd h (Al (Al (i.add ((0:Int).toNat*3)) 1) 0)=some (.int .i64 j)/\R (.int .i64 j) h)):
  XC Tp 121 #[.pointer p0] h R:=
 XF ⟨[],[],[]⟩ [.tmp 2] 22 Tryz.func121 H
theorem zqg(s0:Bt)(bz:Int)(h:za)(R:Value->za->Prop)
  (H:let a:=h.push (.cells #[.int .i64 bz] 3);let b:=a.push (.cells #[.int .i64 0,.int .i64 0,.int .i64 0] 90);∃c,zd b ⟨h.size,0,none⟩=some (.int .i64 c)/\(0<=c/\c<=s0.size/\(s0.size:Int)<=(s0.size:Int))/\(0<=(0:Int)/\(0:Int)<((s0.extract c.toNat (s0.size:Int).toNat).size:Int))/\XC Tp 212 #[.string (⟨#[123,125,91,93,44,58]⟩:Bt),.int .u8 (zb (s0.extract c.toNat (s0.size:Int).toNat) (0:Int).toNat)] b (λd e=>∃f,d=.int .i64 f/\(decide (f>=0)=true->∃g,zd e ⟨h.size,0,none⟩=some (.int .i64 g)/\zp Tp 254=true/\XC Tp 254 #[.int .i64 (Ab .i64 (2+f)),.int .i64 (Ab .i64 (g+1)),.pointer (some ⟨h.size,0,none⟩)] e (λi j=>∃k l m n,i=.tuple #[.agg #[.int .i64 k,.int .i64 l,.int .i64 m],.int .i64 n]/\XRunU Tp (An 90 (.pointer (some ⟨a.size,0,none⟩)) (.agg #[.int .i64 k,.int .i64 l,.int .i64 m])) j (λo=>∃p q r,ze o ⟨a.size,0,none⟩ 0 [.int .i64 p,.int .i64 q,.int .i64 r]/\R (.tuple #[.agg #[.int .i64 p,.int .i64 q,.int .i64 r],.int .i64 n]) o)))/\(decide (f>=0)=false->XC Tp 212 #[.string (⟨#[32,9,10,13]⟩:Bt),.int .u8 (zb (s0.extract c.toNat (s0.size:Int).toNat) (0:Int).toNat)] e (λs t=>∃u,s=.int .i64 u/\(decide (u>=0)=true->∃v,zd t ⟨h.size,0,none⟩=some (.int .i64 v)/\XC Tp 257 #[.string (⟨#[32,9,10,13]⟩:Bt)] t (λw x=>∃y:Value,w=y/\(x)[(⟨h.size,0,none⟩:Addr).block]?=(t)[(⟨h.size,0,none⟩:Addr).block]?/\XC Tp 256 #[.string (s0.extract c.toNat (s0.size:Int).toNat),y] x (λz A=>∃B,z=.int .i64 B/\(A)[(⟨h.size,0,none⟩:Addr).block]?=(t)[(⟨h.size,0,none⟩:Addr).block]?/\zp Tp 254=true/\XC Tp 254 #[.int .i64 1,.int .i64 (Ab .i64 (v+B)),.pointer (some ⟨h.size,0,none⟩)] A (λC D=>∃E F G I,C=.tuple #[.agg #[.int .i64 E,.int .i64 F,.int .i64 G],.int .i64 I]/\XRunU Tp (An 90 (.pointer (some ⟨a.size,0,none⟩)) (.agg #[.int .i64 E,.int .i64 F,.int .i64 G])) D (λJ=>∃L M N,ze J ⟨a.size,0,none⟩ 0 [.int .i64 L,.int .i64 M,.int .i64 N]/\R (.tuple #[.agg #[.int .i64 L,.int .i64 M,.int .i64 N],.int .i64 I]) J)))))/\(decide (u>=0)=false->(((zb (s0.extract c.toNat (s0.size:Int).toNat) (0:Int).toNat:Int)==34)=true->∃O,zd t ⟨h.size,0,none⟩=some (.int .i64 O)/\XC Tp 258 #[.string s0,.int .i64 O] t (λP Q=>∃S T,P=.tuple #[.int .i64 S,.int .i64 T]/\((T != 0)=true->zp Tp 255=true/\XC Tp 255 #[.int .i64 S,.int .i64 T] Q (λU V=>∃W X Y Z,U=.tuple #[.agg #[.int .i64 W,.int .i64 X,.int .i64 Y],.int .i64 Z]/\XRunU Tp (An 90 (.pointer (some ⟨a.size,0,none⟩)) (.agg #[.int .i64 W,.int .i64 X,.int .i64 Y])) V (λaa=>∃ab ac ad,ze aa ⟨a.size,0,none⟩ 0 [.int .i64 ab,.int .i64 ac,.int .i64 ad]/\R (.tuple #[.agg #[.int .i64 ab,.int .i64 ac,.int .i64 ad],.int .i64 Z]) aa)))/\((T != 0)=false->zp Tp 254=true/\XC Tp 254 #[.int .i64 8,.int .i64 S,.pointer (some ⟨h.size,0,none⟩)] Q (λae af=>∃ag ah ai aj,ae=.tuple #[.agg #[.int .i64 ag,.int .i64 ah,.int .i64 ai],.int .i64 aj]/\XRunU Tp (An 90 (.pointer (some ⟨a.size,0,none⟩)) (.agg #[.int .i64 ag,.int .i64 ah,.int .i64 ai])) af (λak=>∃al am an,ze ak ⟨a.size,0,none⟩ 0 [.int .i64 al,.int .i64 am,.int .i64 an]/\R (.tuple #[.agg #[.int .i64 al,.int .i64 am,.int .i64 an],.int .i64 aj]) ak)))))/\(((zb (s0.extract c.toNat (s0.size:Int).toNat) (0:Int).toNat:Int)==34)=false->((bif ((zb (s0.extract c.toNat (s0.size:Int).toNat) (0:Int).toNat:Int)==45)then true else(bif (decide ((zb (s0.extract c.toNat (s0.size:Int).toNat) (0:Int).toNat:Int)>=48))then(decide ((zb (s0.extract c.toNat (s0.size:Int).toNat) (0:Int).toNat:Int)<=57))else false))=true->∃ao,zd t ⟨h.size,0,none⟩=some (.int .i64 ao)/\XC Tp 257 #[.string (⟨#[45,43,46,48,49,50,51,52,53,54,55,56,57,101,69]⟩:Bt)] t (λap aq=>∃ar:Value,ap=ar/\(aq)[(⟨h.size,0,none⟩:Addr).block]?=(t)[(⟨h.size,0,none⟩:Addr).block]?/\XC Tp 256 #[.string (s0.extract c.toNat (s0.size:Int).toNat),ar] aq (λau av=>∃aw,au=.int .i64 aw/\(av)[(⟨h.size,0,none⟩:Addr).block]?=(t)[(⟨h.size,0,none⟩:Addr).block]?/\∃ax,zd av ⟨h.size,0,none⟩=some (.int .i64 ax)/\(0<=ax/\ax<=(Ab .i64 (ao+aw))/\(Ab .i64 (ao+aw))<=(s0.size:Int))/\XC Tp 25 #[.string (s0.extract ax.toNat (Ab .i64 (ao+aw)).toNat)] av (λay az=>∃aA aB aC aD,ay=.tuple #[.agg #[.bool aA,.string aB,.int .i64 aC],.int .i64 aD]/\let aE:=az.push (.cells #[.bool false,.string (⟨#[]⟩:Bt),.int .i64 0] 46);XRunU Tp (An 46 (.pointer (some ⟨az.size,0,none⟩)) (.agg #[.bool aA,.string aB,.int .i64 aC])) aE (λaF=>((aD != 0)=true->∃aG,zd aF ⟨h.size,0,none⟩=some (.int .i64 aG)/\zp Tp 255=true/\XC Tp 255 #[.int .i64 aG,.int .i64 aD] aF (λaH aI=>∃aJ aL aM aN,aH=.tuple #[.agg #[.int .i64 aJ,.int .i64 aL,.int .i64 aM],.int .i64 aN]/\XRunU Tp (An 90 (.pointer (some ⟨a.size,0,none⟩)) (.agg #[.int .i64 aJ,.int .i64 aL,.int .i64 aM])) aI (λaO=>∃aP aQ aS,ze aO ⟨a.size,0,none⟩ 0 [.int .i64 aP,.int .i64 aQ,.int .i64 aS]/\R (.tuple #[.agg #[.int .i64 aP,.int .i64 aQ,.int .i64 aS],.int .i64 aN]) aO)))/\((aD != 0)=false->zp Tp 254=true/\XC Tp 254 #[.int .i64 9,.int .i64 (Ab .i64 (ao+aw)),.pointer (some ⟨h.size,0,none⟩)] aF (λaT aU=>∃aV aW aX aY,aT=.tuple #[.agg #[.int .i64 aV,.int .i64 aW,.int .i64 aX],.int .i64 aY]/\XRunU Tp (An 90 (.pointer (some ⟨a.size,0,none⟩)) (.agg #[.int .i64 aV,.int .i64 aW,.int .i64 aX])) aU (λaZ=>∃a0 a1 a2,ze aZ ⟨a.size,0,none⟩ 0 [.int .i64 a0,.int .i64 a1,.int .i64 a2]/\R (.tuple #[.agg #[.int .i64 a0,.int .i64 a1,.int .i64 a2],.int .i64 aY]) aZ))))))))/\((bif ((zb (s0.extract c.toNat (s0.size:Int).toNat) (0:Int).toNat:Int)==45)then true else(bif (decide ((zb (s0.extract c.toNat (s0.size:Int).toNat) (0:Int).toNat:Int)>=48))then(decide ((zb (s0.extract c.toNat (s0.size:Int).toNat) (0:Int).toNat:Int)<=57))else false))=false->XC Tp 256 #[.string (s0.extract c.toNat (s0.size:Int).toNat),.func (.func 259) #[] #[]] t (λa3 a4=>∃a5,a3=.int .i64 a5/\(0<=(0:Int)/\(0:Int)<=a5/\a5<=((s0.extract c.toNat (s0.size:Int).toNat).size:Int))/\XC Tp 260 #[.string ((s0.extract c.toNat (s0.size:Int).toNat).extract (0:Int).toNat a5.toNat)] a4 (λa6 a7=>∃a8,a6=.int .i64 a8/\((a8 != 0)=true->∃a9,zd a7 ⟨h.size,0,none⟩=some (.int .i64 a9)/\zp Tp 254=true/\XC Tp 254 #[.int .i64 a8,.int .i64 (Ab .i64 (a9+a5)),.pointer (some ⟨h.size,0,none⟩)] a7 (λba bb=>∃bc bd be bf,ba=.tuple #[.agg #[.int .i64 bc,.int .i64 bd,.int .i64 be],.int .i64 bf]/\XRunU Tp (An 90 (.pointer (some ⟨a.size,0,none⟩)) (.agg #[.int .i64 bc,.int .i64 bd,.int .i64 be])) bb (λbg=>∃bh bi bj,ze bg ⟨a.size,0,none⟩ 0 [.int .i64 bh,.int .i64 bi,.int .i64 bj]/\R (.tuple #[.agg #[.int .i64 bh,.int .i64 bi,.int .i64 bj],.int .i64 bf]) bg)))/\((a8 != 0)=false->∃bk,zd a7 ⟨h.size,0,none⟩=some (.int .i64 bk)/\zp Tp 255=true/\XC Tp 255 #[.int .i64 bk,.int .i64 2] a7 (λbl bm=>∃bn bo bp bq,bl=.tuple #[.agg #[.int .i64 bn,.int .i64 bo,.int .i64 bp],.int .i64 bq]/\XRunU Tp (An 90 (.pointer (some ⟨a.size,0,none⟩)) (.agg #[.int .i64 bn,.int .i64 bo,.int .i64 bp])) bm (λbr=>∃bs bt bu,ze br ⟨a.size,0,none⟩ 0 [.int .i64 bs,.int .i64 bt,.int .i64 bu]/\R (.tuple #[.agg #[.int .i64 bs,.int .i64 bt,.int .i64 bu],.int .i64 bq]) br)))))))))))):
  XC Tp 198 #[.string s0,.int .i64 bz] h R:=
 XF ⟨[(9,8000),(16,8000)],[],[]⟩ [.cell 4 90,.tmp 5] 130 Tryz.func198 H
theorem X3(p0:Option Addr)(Z:Int)(h:za)(R:Value->za->Prop)
  (H:XC Tp 115 #[.pointer p0] h (λa b=>∃c,a=.int .i64 c/\((c != Z)=true->R (.bool false) b)/\((c != Z)=false->XC Tp 116 #[.pointer p0] b (λd e=>d=.tuple #[]/\R (.bool true) e)))):
  XC Tp 199 #[.pointer p0,.int .i64 Z] h R:=
 XF ⟨[],[],[]⟩ [.tmp 4] 11 Tryz.func199 H
theorem zlk(t0:Bt)(Z:Int)(h:za)(R:Value->za->Prop)
  (H:((!(decide (Z>=t0.size)))=true->(0<=Z/\Z<t0.size))/\((bif (decide (Z>=t0.size))then true else((zb t0 Z.toNat:Int) != 34))=true->R (.tuple #[.string (⟨#[]⟩:Bt),.int .i64 Z,.int .i64 2]) h)/\((bif (decide (Z>=t0.size))then true else((zb t0 Z.toNat:Int) != 34))=false->let a:=h.push (.cells #[.pointer none,.slice none 0 0] 112);∃(b:Int->za->Prop) (c:Int->za->Nat),b (Ab .i64 (Z+1)) a/\∀d:Int,∀e:za,b d e->((decide (d<t0.size)=true->(0<=d/\d<t0.size)/\(((zb t0 d.toNat:Int)==34)=true->XC Tp 87 #[.pointer (some ⟨h.size,0,none⟩)] e (λf g=>∃i,f=.string i/\R (.tuple #[.string i,.int .i64 (Ab .i64 (d+1)),.int .i64 0]) g))/\(((zb t0 d.toNat:Int)==34)=false->(0<=d/\d<=t0.size/\(t0.size:Int)<=(t0.size:Int))/\XC Tp 291 #[.string (t0.extract d.toNat (t0.size:Int).toNat)] e (λj k=>∃l m,j=.tuple #[.int .i32 l,.int .i64 m]/\((m==0)=true->R (.tuple #[.string (⟨#[]⟩:Bt),.int .i64 d,.int .i64 2]) k)/\((m==0)=false->XC Tp 83 #[.pointer (some ⟨h.size,0,none⟩),.int .i32 l] k (λn o=>∃p,∃q:Value,n=.tuple #[.int .i64 p,q]/\(b (Ab .i64 (d+m)) o/\c (Ab .i64 (d+m)) o<c d e))))))/\(decide (d<t0.size)=false->R (.tuple #[.string (⟨#[]⟩:Bt),.int .i64 (t0.size:Int),.int .i64 2]) e)))):
  XC Tp 253 #[.string t0,.int .i64 Z] h R:=
 XF ⟨[],[(5,[(1,.one (.int .i64))])],[]⟩ [.tmp 4,.tmp 5,.tmp 6] 51 Tryz.func253 H
theorem zll(Z:Int)(aa:Int)(c2:Addr)(h:za)(R:Value->za->Prop)
  (H:let a:=h.push (.cells #[.int .i64 0,.int .i64 0,.int .i64 0] 90);∃b,zd a c2=some (.int .i64 b)/\XRunU Tp (An 90 (.pointer (some ⟨h.size,0,none⟩)) (.agg #[.int .i64 Z,.int .i64 b,.int .i64 aa])) a (λc=>∃d e f,ze c ⟨h.size,0,none⟩ 0 [.int .i64 d,.int .i64 e,.int .i64 f]/\R (.tuple #[.agg #[.int .i64 d,.int .i64 e,.int .i64 f],.int .i64 0]) c)):
  XC Tp 254 #[.int .i64 Z,.int .i64 aa,.pointer (some c2)] h R:=
 XF ⟨[],[],[]⟩ [.cell 5 90,.tmp 6] 12 Tryz.func254 H
theorem zuq(s0:Bt)(Z:FuncId)(aa:Array Value)(ab:Array Value)(h:za)(R:Value->za->Prop)
  (H:∃(a:Int->za->Prop) (b:Int->za->Nat),a 0 h/\∀c:Int,∀d:za,a c d->((decide (c<s0.size)=true->(0<=c/\c<s0.size)/\zp Tp Z=true/\XC Tp Z (aa++#[.int .u8 (zb s0 c.toNat)]++ab) d (λe f=>∃g,e=.bool g/\((!g)=true->R (.int .i64 c) f)/\((!g)=false->(a (Ab .i64 (c+1)) f/\b (Ab .i64 (c+1)) f<b c d))))/\(decide (c<s0.size)=false->R (.int .i64 (s0.size:Int)) d))):
  XC Tp 256 #[.string s0,.func (.func Z) aa ab] h R:=
 XF ⟨[],[(2,[(8,.one (.int .i64))])],[]⟩ [.tmp 4] 21 Tryz.func256 H
theorem zn2(l0:Bt)(h:za)(R:Value->za->Prop)
  (H:let a:=h.push (.cells #[.string l0] 9);R (.func (.func 292) #[] #[.pointer (some ⟨h.size,0,none⟩)]) a):
  XC Tp 257 #[.string l0] h R:=
 XF ⟨[],[],[]⟩ [.tmp 2] 4 Tryz.func257 H
theorem zh6(c0:Int)(c1:Addr)(h:za)(R:Value->za->Prop)
  (H:∃a,zd h c1=some (.string a)/\XC Tp 212 #[.string a,.int .u8 c0] h (λb c=>∃d,b=.int .i64 d/\R (.bool (decide (d>=0))) c)):
  XC Tp 292 #[.int .u8 c0,.pointer (some c1)] h R:=
 XF ⟨[],[],[]⟩ [.tmp 3] 8 Tryz.func292 H
theorem Zp(s0:Bt)(aM:Int)(aL:Int)(h:za)(R:Value->za->Prop)
  (H:((s0.toList==(⟨#[]⟩:Bt).toList)=true->R (.tuple #[.int .u64 0,.iface 287 (.int .i64 2)]) h)/\((s0.toList==(⟨#[]⟩:Bt).toList)=false->∀b:Bt->Int->za->Prop,(∀c:Bt,∀d:Int,∀e:za,(∀f:Int->za->Prop,(∀g:Int,∀i:za,(∀j:Int->za->Prop,(∀k:Int,∀l:za,(0<=(Ab .u64 g)/\XRun Tp (convert 9 110 (.string c)) l (λm n=>∃o,m=slV o/\∃(p:Bool->Int->Int->za->Prop) (q:Bool->Int->Int->za->Nat),p false 0 0 n/\∀r:Bool,∀s t:Int,∀u:za,p r s t u->((decide (t<o.len)=true->∃v,(o.a=some v/\0<=t/\t<o.len)/\∃w,zd u (v.add (t.toNat*1))=some (.int .u8 w)/\∀x:Bool->Int->za->Prop,(∀y:Bool,∀z:Int,∀A:za,((decide (z>=(Ab .u8 d))=true->R (.tuple #[.int .u64 0,.iface 287 (.int .i64 2)]) A)/\(decide (z>=(Ab .u8 d))=false->(decide (s>=k)=true->R (.tuple #[.int .u64 (Ab .u64 ((Ab .u64 (1*2 ^ (min (Ab .u64 g).toNat 64)))-1)),.iface 287 (.int .i64 1)]) A)/\(decide (s>=k)=false->((bif (decide ((Ab .u64 ((Ab .u64 (s*(Ab .u64 d)))+(Ab .u64 z)):Int)<(Ab .u64 (s*(Ab .u64 d)))))then true else(decide ((Ab .u64 ((Ab .u64 (s*(Ab .u64 d)))+(Ab .u64 z)):Int)>(Ab .u64 ((Ab .u64 (1*2 ^ (min (Ab .u64 g).toNat 64)))-1)))))=true->R (.tuple #[.int .u64 (Ab .u64 ((Ab .u64 (1*2 ^ (min (Ab .u64 g).toNat 64)))-1)),.iface 287 (.int .i64 1)]) A)/\((bif (decide ((Ab .u64 ((Ab .u64 (s*(Ab .u64 d)))+(Ab .u64 z)):Int)<(Ab .u64 (s*(Ab .u64 d)))))then true else(decide ((Ab .u64 ((Ab .u64 (s*(Ab .u64 d)))+(Ab .u64 z)):Int)>(Ab .u64 ((Ab .u64 (1*2 ^ (min (Ab .u64 g).toNat 64)))-1)))))=false->(p y (Ab .u64 ((Ab .u64 (s*(Ab .u64 d)))+(Ab .u64 z))) (Ab .i64 (t+1)) A/\q y (Ab .u64 ((Ab .u64 (s*(Ab .u64 d)))+(Ab .u64 z))) (Ab .i64 (t+1)) A<q r s t u)))))->x y z A)->((bif (w==95)then(aM==0)else false)=true->(p true s (Ab .i64 (t+1)) u/\q true s (Ab .i64 (t+1)) u<q r s t u))/\((bif (w==95)then(aM==0)else false)=false->((bif (decide ((48:Int)<=w))then(decide (w<=57))else false)=true->x r (Ab .u8 (w-48)) u)/\((bif (decide ((48:Int)<=w))then(decide (w<=57))else false)=false->XC Tp 325 #[.int .u8 w] u (λB C=>∃D,B=.int .u8 D/\∃E:Value->za->Prop,(decide ((97:Int)<=D)=true->XC Tp 325 #[.int .u8 w] C (λF G=>∃I,F=.int .u8 I/\E (.int .u8 I) G))/\(decide ((97:Int)<=D)=false->∃J,E (.int .u8 J) C)/\(decide ((97:Int)<=D)=true->∀L M,E L M->∃N,L=.int .u8 N)/\∀O:Int,∀P,E (.int .u8 O) P->((bif (decide ((97:Int)<=D))then(decide (O<=122))else false)=true->XC Tp 325 #[.int .u8 w] P (λQ S=>∃T,Q=.int .u8 T/\x r (Ab .u8 ((Ab .u8 (T-97))+10)) S))/\((bif (decide ((97:Int)<=D))then(decide (O<=122))else false)=false->R (.tuple #[.int .u64 0,.iface 287 (.int .i64 2)]) P)))))/\(decide (t<o.len)=false->∃U:Value->za->Prop,(r=true->XC Tp 326 #[.string s0] u (λV W=>∃X,V=.bool X/\U (.bool X) W))/\(r=false->∃Y,U (.bool Y) u)/\(r=true->∀Z aa,U Z aa->∃ab,Z=.bool ab)/\∀ac:Bool,∀ad,U (.bool ac) ad->((bif r then(!ac)else false)=true->R (.tuple #[.int .u64 0,.iface 287 (.int .i64 2)]) ad)/\((bif r then(!ac)else false)=false->R (.tuple #[.int .u64 s,.nilIface]) ad)))))->j k l)->((d==10)=true->j 1844674407370955162 i)/\((d==10)=false->((d==16)=true->j 1152921504606846976 i)/\((d==16)=false->IntKind.u64=IntKind.u64/\(Ab .u64 d)≠0/\j (Ab .u64 ((Ab .u64 ((18446744073709551615:Int).tdiv (Ab .u64 d)))+1)) i)))->f g i)->((aL==0)=true->f 64 e)/\((aL==0)=false->((bif (decide (aL<0))then true else(decide (aL>64)))=true->R (.tuple #[.int .u64 0,.iface 287 (.int .i64 4)]) e)/\((bif (decide (aL<0))then true else(decide (aL>64)))=false->f aL e)))->b c d e)->((bif (decide ((2:Int)<=aM))then(decide (aM<=36))else false)=true->b s0 aM h)/\((bif (decide ((2:Int)<=aM))then(decide (aM<=36))else false)=false->((aM==0)=true->(0<=(0:Int)/\(0:Int)<(s0.size:Int))/\(((zb s0 (0:Int).toNat:Int)==48)=true->(decide ((s0.size:Int)>=3)=true->(0<=(1:Int)/\(1:Int)<(s0.size:Int)))/\∃ae:Value->za->Prop,(decide ((s0.size:Int)>=3)=true->XC Tp 325 #[.int .u8 (zb s0 (1:Int).toNat)] h (λaf ag=>∃ah,af=.int .u8 ah/\ae (.int .u8 ah) ag))/\(decide ((s0.size:Int)>=3)=false->∃ai,ae (.int .u8 ai) h)/\(decide ((s0.size:Int)>=3)=true->∀aj ak,ae aj ak->∃al,aj=.int .u8 al)/\∀am:Int,∀an,ae (.int .u8 am) an->((bif (decide ((s0.size:Int)>=3))then(am==98)else false)=true->(0<=(2:Int)/\(2:Int)<=(s0.size:Int)/\(s0.size:Int)<=(s0.size:Int))/\b (s0.extract (2:Int).toNat (s0.size:Int).toNat) 2 an)/\((bif (decide ((s0.size:Int)>=3))then(am==98)else false)=false->(decide ((s0.size:Int)>=3)=true->(0<=(1:Int)/\(1:Int)<(s0.size:Int)))/\∃ao:Value->za->Prop,(decide ((s0.size:Int)>=3)=true->XC Tp 325 #[.int .u8 (zb s0 (1:Int).toNat)] an (λap aq=>∃ar,ap=.int .u8 ar/\ao (.int .u8 ar) aq))/\(decide ((s0.size:Int)>=3)=false->∃au,ao (.int .u8 au) an)/\(decide ((s0.size:Int)>=3)=true->∀av aw,ao av aw->∃ax,av=.int .u8 ax)/\∀ay:Int,∀az,ao (.int .u8 ay) az->((bif (decide ((s0.size:Int)>=3))then(ay==111)else false)=true->(0<=(2:Int)/\(2:Int)<=(s0.size:Int)/\(s0.size:Int)<=(s0.size:Int))/\b (s0.extract (2:Int).toNat (s0.size:Int).toNat) 8 az)/\((bif (decide ((s0.size:Int)>=3))then(ay==111)else false)=false->(decide ((s0.size:Int)>=3)=true->(0<=(1:Int)/\(1:Int)<(s0.size:Int)))/\∃aA:Value->za->Prop,(decide ((s0.size:Int)>=3)=true->XC Tp 325 #[.int .u8 (zb s0 (1:Int).toNat)] az (λaB aC=>∃aD,aB=.int .u8 aD/\aA (.int .u8 aD) aC))/\(decide ((s0.size:Int)>=3)=false->∃aE,aA (.int .u8 aE) az)/\(decide ((s0.size:Int)>=3)=true->∀aF aG,aA aF aG->∃aH,aF=.int .u8 aH)/\∀aI:Int,∀aJ,aA (.int .u8 aI) aJ->((bif (decide ((s0.size:Int)>=3))then(aI==120)else false)=true->(0<=(2:Int)/\(2:Int)<=(s0.size:Int)/\(s0.size:Int)<=(s0.size:Int))/\b (s0.extract (2:Int).toNat (s0.size:Int).toNat) 16 aJ)/\((bif (decide ((s0.size:Int)>=3))then(aI==120)else false)=false->(0<=(1:Int)/\(1:Int)<=(s0.size:Int)/\(s0.size:Int)<=(s0.size:Int))/\b (s0.extract (1:Int).toNat (s0.size:Int).toNat) 8 aJ))))/\(((zb s0 (0:Int).toNat:Int)==48)=false->b s0 10 h))/\((aM==0)=false->R (.tuple #[.int .u64 0,.iface 287 (.int .i64 3)]) h)))):
  XC Tp 316 #[.string s0,.int .i64 aM,.int .i64 aL] h R:=
 XF ⟨[],[(36,[(12,.one (.bool)),(13,.one (.int .u64)),(101,.one (.int .i64))])],[(21,[(0,.one (.str)),(1,.one (.int .i64))]),(25,[(2,.one (.int .i64))]),(32,[(10,.one (.int .u64))]),(46,[(12,.one (.bool)),(16,.one (.int .u8))])]⟩ [.tmp 6,.tmp 7] 172 Tryz.func316 H
theorem X4(s0:Bt)(aa:Int)(Z:Int)(h:za)(R:Value->za->Prop)
  (H:XC Tp 316 #[.string s0,.int .i64 aa,.int .i64 Z] h (λa b=>∃c,∃d:Value,a=.tuple #[.int .u64 c,d]/\ifc d=true/\((!z81 d)=true->XC Tp 267 #[.string (⟨#[80,97,114,115,101,85,105,110,116]⟩:Bt),.string s0,.int .i64 aa,.int .i64 Z,d] b (λe f=>∃g:Value,e=g/\R (.tuple #[.int .u64 c,g]) f))/\((!z81 d)=false->R (.tuple #[.int .u64 c,.nilIface]) b))):
  XC Tp 329 #[.string s0,.int .i64 aa,.int .i64 Z] h R:=
 XF ⟨[],[],[]⟩ [.tmp 6,.tmp 7] 26 Tryz.func329 H
end
section
theorem zn3(gl:Fr)(d0:Bt×List (Int×(Int×Int)×(Int×Int)×(List Int)×List (Int×Int)))(k1:Int)(R:(Tr×Bool)->Prop)
  (H:((bif (decide (k1<0))then true else(decide (k1>=d0.2.length)))=true->R (Tr.mk 0 (⟨#[]⟩:Bt) [] [],false))/\((bif (decide (k1<0))then true else(decide (k1>=d0.2.length)))=false->PC Tp gl 59 [Arg.mk (.pair .str (.row (.pair (.int .i64) (.pair (.pair (.int .i64) (.int .i64)) (.pair (.pair (.int .i64) (.int .i64)) (.pair (.row (.int .i64)) (.row (.pair (.int .i64) (.int .i64))))))))) (d0.1,d0.2),Arg.mk (.int .i64) k1,Arg.mk (.int .i64) 1] [.tree] (λa:Tr=>R (Tr.mk a.kind a.text a.keys a.items,true)))):
  PC Tp gl 21 [Arg.mk (.pair .str (.row (.pair (.int .i64) (.pair (.pair (.int .i64) (.int .i64)) (.pair (.pair (.int .i64) (.int .i64)) (.pair (.row (.int .i64)) (.row (.pair (.int .i64) (.int .i64))))))))) d0,Arg.mk (.int .i64) k1] [.tree,.bool] R:=
 PF ⟨[],[],[],[]⟩ [.cell 4 26,.tmp 5] 19 Tryz.func21 H
theorem zur(gl:Fr)(d0:Bt×List (Int×(Int×Int)×(Int×Int)×(List Int)×List (Int×Int)))(Z:List Bt)(R:(Int×Bool)->Prop)
  (H:∃a:Bool->Prop,((!((d0.2.length:Int)==0))=true->PC Tp gl 70 [Arg.mk (.row .str) Z] [.bool] a)/\∀b:Bool,((!((d0.2.length:Int)==0))=true->a b)->((bif ((d0.2.length:Int)==0)then true else(!b))=true->R (0,false))/\((bif ((d0.2.length:Int)==0)then true else(!b))=false->∃(c:Int->Int->Prop) (d:Int->Int->Nat),c 0 0/\∀e f:Int,c e f->((decide (f<Z.length)=true->∃g,(0<=f/\Z[f.toNat]?=some g)/\PC Tp gl 71 [Arg.mk (.pair .str (.row (.pair (.int .i64) (.pair (.pair (.int .i64) (.int .i64)) (.pair (.pair (.int .i64) (.int .i64)) (.pair (.row (.int .i64)) (.row (.pair (.int .i64) (.int .i64))))))))) (d0.1,d0.2),Arg.mk (.int .i64) e,Arg.mk .str g] [.int .i64] (λi:Int=>PC Tp gl 72 [Arg.mk (.pair .str (.row (.pair (.int .i64) (.pair (.pair (.int .i64) (.int .i64)) (.pair (.pair (.int .i64) (.int .i64)) (.pair (.row (.int .i64)) (.row (.pair (.int .i64) (.int .i64))))))))) (d0.1,d0.2),Arg.mk (.int .i64) i] [.bool] (λj:Bool=>((!j)=true->R (0,false))/\((!j)=false->(c i (Ab .i64 (f+1))/\d i (Ab .i64 (f+1))<d e f)))))/\(decide (f<Z.length)=false->R (e,true))))):
  PC Tp gl 23 [Arg.mk (.pair .str (.row (.pair (.int .i64) (.pair (.pair (.int .i64) (.int .i64)) (.pair (.pair (.int .i64) (.int .i64)) (.pair (.row (.int .i64)) (.row (.pair (.int .i64) (.int .i64))))))))) d0,Arg.mk (.row .str) Z] [.int .i64,.bool] R:=
 PF ⟨[],[],[(5,⟨[(6,.one (.dat (.int .i64))),(20,.one (.dat (.int .i64)))],[],[2],[100384,101280]⟩)],[]⟩ [.tmp 4,.tmp 5] 34 Tryz.func23 H
theorem zlm(gl:Fr)(d0:Bt×List (Int×(Int×Int)×(Int×Int)×(List Int)×List (Int×Int)))(s1:Int×Int)(R:Bt->Prop)
  (H:((bif (bif (decide (s1.1<0))then true else(decide (s1.1>s1.2)))then true else(decide (s1.2>d0.1.size)))=true->R (⟨#[]⟩:Bt))/\((bif (bif (decide (s1.1<0))then true else(decide (s1.1>s1.2)))then true else(decide (s1.2>d0.1.size)))=false->(0<=s1.1/\s1.1<=s1.2/\s1.2<=d0.1.size)/\R (d0.1.extract s1.1.toNat s1.2.toNat))):
  PC Tp gl 31 [Arg.mk (.pair .str (.row (.pair (.int .i64) (.pair (.pair (.int .i64) (.int .i64)) (.pair (.pair (.int .i64) (.int .i64)) (.pair (.row (.int .i64)) (.row (.pair (.int .i64) (.int .i64))))))))) d0,Arg.mk (.pair (.int .i64) (.int .i64)) s1] [.str] R:=
 PF ⟨[],[],[],[]⟩ [.tmp 4] 30 Tryz.func31 H
theorem zqh(gl:Fr)(d0:Bt×List (Int×(Int×Int)×(Int×Int)×(List Int)×List (Int×Int)))(k1:Int)(Z:Bt)(R:Int->Prop)
  (H:∃a:Int×(Int×Int)×(Int×Int)×(List Int)×List (Int×Int),(0<=k1/\d0.2[k1.toNat]?=some a)/\∃b:Int×(Int×Int)×(Int×Int)×(List Int)×List (Int×Int),(0<=k1/\d0.2[k1.toNat]?=some b)/\((b.1==5)=true->PC Tp gl 135 [Arg.mk .str Z] [.int .i64,.bool] (λc:Int×Bool=>((bif c.2 then(decide (c.1<a.2.2.2.1.length))else false)=true->∃d,(0<=c.1/\a.2.2.2.1[c.1.toNat]?=some d)/\R d)/\((bif c.2 then(decide (c.1<a.2.2.2.1.length))else false)=false->R (-1))))/\((b.1==5)=false->((b.1==6)=true->∃(e:Int->Prop) (f:Int->Nat),e 0/\∀g:Int,e g->((decide (g<a.2.2.2.1.length)=true->∃i,(0<=g/\a.2.2.2.1[g.toNat]?=some i)/\PC Tp gl 72 [Arg.mk (.pair .str (.row (.pair (.int .i64) (.pair (.pair (.int .i64) (.int .i64)) (.pair (.pair (.int .i64) (.int .i64)) (.pair (.row (.int .i64)) (.row (.pair (.int .i64) (.int .i64))))))))) (d0.1,d0.2),Arg.mk (.int .i64) i] [.bool] (λj:Bool=>∃k,(j=true->(0<=g/\a.2.2.2.1[g.toNat]?=some k))/\∃l:Bt->Prop,(j=true->PC Tp gl 112 [Arg.mk (.pair .str (.row (.pair (.int .i64) (.pair (.pair (.int .i64) (.int .i64)) (.pair (.pair (.int .i64) (.int .i64)) (.pair (.row (.int .i64)) (.row (.pair (.int .i64) (.int .i64))))))))) (d0.1,d0.2),Arg.mk (.int .i64) k] [.str] l)/\∀m:Bt,(j=true->l m)->((bif j then(m.toList==Z.toList)else false)=true->∃n,(0<=g/\a.2.2.2.1[g.toNat]?=some n)/\R n)/\((bif j then(m.toList==Z.toList)else false)=false->(e (Ab .i64 (g+1))/\f (Ab .i64 (g+1))<f g))))/\(decide (g<a.2.2.2.1.length)=false->R (-1))))/\((b.1==6)=false->R (-1)))):
  PC Tp gl 71 [Arg.mk (.pair .str (.row (.pair (.int .i64) (.pair (.pair (.int .i64) (.int .i64)) (.pair (.pair (.int .i64) (.int .i64)) (.pair (.row (.int .i64)) (.row (.pair (.int .i64) (.int .i64))))))))) d0,Arg.mk (.int .i64) k1,Arg.mk .str Z] [.int .i64] R:=
 PF ⟨[],[(11,14,[],[0,1,2,3,4,5,6,7,8,9,10,11,13,12],[])],[(9,⟨[(45,.one (.dat (.int .i64)))],[],[3],[102880]⟩)],[]⟩ [.tmp 6] 69 Tryz.func71 H
theorem zln(gl:Fr)(d0:Bt×List (Int×(Int×Int)×(Int×Int)×(List Int)×List (Int×Int)))(k1:Int)(R:Bool->Prop)
  (H:R (bif (decide (k1>=0))then(decide (k1<d0.2.length))else false)):
  PC Tp gl 72 [Arg.mk (.pair .str (.row (.pair (.int .i64) (.pair (.pair (.int .i64) (.int .i64)) (.pair (.pair (.int .i64) (.int .i64)) (.pair (.row (.int .i64)) (.row (.pair (.int .i64) (.int .i64))))))))) d0,Arg.mk (.int .i64) k1] [.bool] R:=
 PF ⟨[],[],[],[]⟩ [.tmp 4] 14 Tryz.func72 H
theorem zn4(gl:Fr)(Z:Int)(s1:Bt)(R:Bt->Prop)
  (H:((Z==2)=true->R s1)/\((Z==2)=false->((Z==3)=true->PC Tp gl 25 [Arg.mk .str s1] [.pair .bool (.pair .str (.int .i64)),.int .i64] (λa:(Bool×Bt×Int)×Int=>PC Tp gl 26 [Arg.mk (.pair .bool (.pair .str (.int .i64))) (a.1.1,(a.1.2.1,a.1.2.2))] [.str] (λb:Bt=>R b)))/\((Z==3)=false->((Z==4)=true->PC Tp gl 196 [Arg.mk .str s1] [.str,.int .i64,.int .i64] (λc:Bt×Int×Int=>R c.1))/\((Z==4)=false->R (⟨#[]⟩:Bt))))):
  PC Tp gl 111 [Arg.mk (.int .i64) Z,Arg.mk .str s1] [.str] R:=
 PF ⟨[],[],[],[]⟩ [.tmp 4] 32 Tryz.func111 H
theorem zqi(gl:Fr)(d0:Bt×List (Int×(Int×Int)×(Int×Int)×(List Int)×List (Int×Int)))(k1:Int)(R:Bt->Prop)
  (H:∃a:Int×(Int×Int)×(Int×Int)×(List Int)×List (Int×Int),(0<=k1/\d0.2[k1.toNat]?=some a)/\PC Tp gl 31 [Arg.mk (.pair .str (.row (.pair (.int .i64) (.pair (.pair (.int .i64) (.int .i64)) (.pair (.pair (.int .i64) (.int .i64)) (.pair (.row (.int .i64)) (.row (.pair (.int .i64) (.int .i64))))))))) (d0.1,d0.2),Arg.mk (.pair (.int .i64) (.int .i64)) (a.2.2.1.1,a.2.2.1.2)] [.str] (λb:Bt=>PC Tp gl 196 [Arg.mk .str b] [.str,.int .i64,.int .i64] (λc:Bt×Int×Int=>R c.1))):
  PC Tp gl 112 [Arg.mk (.pair .str (.row (.pair (.int .i64) (.pair (.pair (.int .i64) (.int .i64)) (.pair (.pair (.int .i64) (.int .i64)) (.pair (.row (.int .i64)) (.row (.pair (.int .i64) (.int .i64))))))))) d0,Arg.mk (.int .i64) k1] [.str] R:=
 PF ⟨[],[(1,13,[],[0,1,2,3,4,5,6,7,8,9,10,11,12],[11,12])],[],[]⟩ [.tmp 4] 22 Tryz.func112 H
theorem zh7(gl:Fr)(Z:Int)(R:Int->Prop)
  (H:((Z==12)=true->R 1)/\((Z==12)=false->∀a:Bool->Prop,(∀b:Bool,((b=true->R 2)/\(b=false->((Z==9)=true->R 3)/\((Z==9)=false->((Z==8)=true->R 4)/\((Z==8)=false->((Z==4)=true->R 5)/\((Z==4)=false->((Z==2)=true->R 6)/\((Z==2)=false->R 0))))))->a b)->((Z==10)=true->a (Z==10))/\((Z==10)=false->a (Z==11)))):
  PC Tp gl 114 [Arg.mk (.int .i64) Z] [.int .i64] R:=
 PF ⟨[],[],[],[(6,⟨[(6,.one (.dat .bool))],[],[],[100384]⟩)]⟩ [.tmp 2] 17 Tryz.func114 H
theorem ze0(gl:Fr)(t0:Bt)(R:(Bt×Int×Int)->Prop)
  (H:PC Tp gl 253 [Arg.mk .str t0,Arg.mk (.int .i64) 0] [.str,.int .i64,.int .i64] (λa:Bt×Int×Int=>((bif (a.2.2==0)then(decide (a.2.1<t0.size))else false)=true->R ((⟨#[]⟩:Bt),a.2.1,2))/\((bif (a.2.2==0)then(decide (a.2.1<t0.size))else false)=false->R (a.1,a.2.1,a.2.2)))):
  PC Tp gl 196 [Arg.mk .str t0] [.str,.int .i64,.int .i64] R:=
 PF ⟨[],[],[],[]⟩ [.tmp 2,.tmp 3,.tmp 4] 26 Tryz.func196 H
theorem zlo(gl:Fr)(aa:Int)(Z:Int)(R:((Int×Int×Int)×Int)->Prop)
  (H:R ((0,(aa,aa)),Z)):
  PC Tp gl 255 [Arg.mk (.int .i64) aa,Arg.mk (.int .i64) Z] [.pair (.int .i64) (.pair (.int .i64) (.int .i64)),.int .i64] R:=
 PF ⟨[],[],[],[]⟩ [.cell 4 90,.tmp 5] 11 Tryz.func255 H
theorem zn5(gl:Fr)(t0:Bt)(Z:Int)(R:(Int×Int)->Prop)
  (H:((bif (decide (Z<0))then true else(decide (Z>t0.size)))=true->R (0,2))/\((bif (decide (Z<0))then true else(decide (Z>t0.size)))=false->PC Tp gl 253 [Arg.mk .str t0,Arg.mk (.int .i64) Z] [.str,.int .i64,.int .i64] (λa:Bt×Int×Int=>R (a.2.1,a.2.2)))):
  PC Tp gl 258 [Arg.mk .str t0,Arg.mk (.int .i64) Z] [.int .i64,.int .i64] R:=
 PF ⟨[],[],[],[]⟩ [.tmp 4,.tmp 5] 26 Tryz.func258 H
theorem zn6(gl:Fr)(c0:Int)(R:Bool->Prop)
  (H:R (bif (decide (c0>=97))then(decide (c0<=122))else false)):
  PC Tp gl 259 [Arg.mk (.int .u8) c0] [.bool] R:=
 PF ⟨[],[],[],[]⟩ [.tmp 2] 9 Tryz.func259 H
theorem zqj(gl:Fr)(s0:Bt)(R:Int->Prop)
  (H:((s0.toList==(⟨#[116,114,117,101]⟩:Bt).toList)=true->R 10)/\((s0.toList==(⟨#[116,114,117,101]⟩:Bt).toList)=false->((s0.toList==(⟨#[102,97,108,115,101]⟩:Bt).toList)=true->R 11)/\((s0.toList==(⟨#[102,97,108,115,101]⟩:Bt).toList)=false->((s0.toList==(⟨#[110,117,108,108]⟩:Bt).toList)=true->R 12)/\((s0.toList==(⟨#[110,117,108,108]⟩:Bt).toList)=false->R 0)))):
  PC Tp gl 260 [Arg.mk .str s0] [.int .i64] R:=
 PF ⟨[],[],[],[]⟩ [.tmp 2] 10 Tryz.func260 H
theorem zlp(gl:Fr)(s0:Bt)(R:(Int×Int)->Prop)
  (H:(0<=(0:Int)/\(0:Int)<(s0.size:Int))/\(((zb s0 (0:Int).toNat:Int)==92)=true->PC Tp gl 315 [Arg.mk .str s0] [.int .i32,.int .i64] (λa:Int×Int=>R (a.1,a.2)))/\(((zb s0 (0:Int).toNat:Int)==92)=false->PC Tp gl 151 [Arg.mk .str s0] [.int .i32,.int .i64] (λb:Int×Int=>((bif (decide (b.1<32))then true else(bif (b.1==65533)then(b.2==1)else false))=true->R (0,0))/\((bif (decide (b.1<32))then true else(bif (b.1==65533)then(b.2==1)else false))=false->R (b.1,b.2))))):
  PC Tp gl 291 [Arg.mk .str s0] [.int .i32,.int .i64] R:=
 PF ⟨[],[],[],[]⟩ [.tmp 2,.tmp 3] 30 Tryz.func291 H
theorem zg5(gl:Fr)(s0:Bt)(R:(Int×Int)->Prop)
  (H:(decide ((s0.size:Int)<2)=true->R (0,0))/\(decide ((s0.size:Int)<2)=false->(0<=(1:Int)/\(1:Int)<(s0.size:Int))/\PC Tp gl 323 [Arg.mk (.int .u8) (zb s0 (1:Int).toNat)] [.int .i32,.bool] (λa:Int×Bool=>(a.2=true->R (a.1,2))/\(a.2=false->(0<=(1:Int)/\(1:Int)<(s0.size:Int))/\(((zb s0 (1:Int).toNat:Int)==117)=true->PC Tp gl 324 [Arg.mk .str s0] [.int .i32,.int .i64] (λb:Int×Int=>R (b.1,b.2)))/\(((zb s0 (1:Int).toNat:Int)==117)=false->R (0,0)))))):
  PC Tp gl 315 [Arg.mk .str s0] [.int .i32,.int .i64] R:=
 PF ⟨[],[],[],[]⟩ [.tmp 2,.tmp 3] 24 Tryz.func315 H
theorem zh8(gl:Fr)(c0:Int)(R:(Int×Bool)->Prop)
  (H:∀a:Bool->Prop,(∀b:Bool,((b=true->R (Ab .i32 c0,true))/\(b=false->((c0==98)=true->R (8,true))/\((c0==98)=false->((c0==102)=true->R (12,true))/\((c0==102)=false->((c0==110)=true->R (10,true))/\((c0==110)=false->((c0==114)=true->R (13,true))/\((c0==114)=false->((c0==116)=true->R (9,true))/\((c0==116)=false->R (0,false))))))))->a b)->((c0==34)=true->a (c0==34))/\((c0==34)=false->((c0==92)=true->a (c0==92))/\((c0==92)=false->a (c0==47)))):
  PC Tp gl 323 [Arg.mk (.int .u8) c0] [.int .i32,.bool] R:=
 PF ⟨[],[],[],[(5,⟨[(5,.one (.dat .bool))],[],[],[100320]⟩)]⟩ [.tmp 2,.tmp 3] 21 Tryz.func323 H
theorem ze1(gl:Fr)(s0:Bt)(R:(Int×Int)->Prop)
  (H:(0<=(2:Int)/\(2:Int)<=(s0.size:Int)/\(s0.size:Int)<=(s0.size:Int))/\PC Tp gl 328 [Arg.mk .str (s0.extract (2:Int).toNat (s0.size:Int).toNat)] [.int .i32,.bool] (λa:Int×Bool=>∀b:Bool->Prop,(∀c:Bool,((c=true->R (0,0))/\(c=false->((bif (decide (a.1<55296))then true else(decide (a.1>=57344)))=true->R (a.1,6))/\((bif (decide (a.1<55296))then true else(decide (a.1>=57344)))=false->(0<=(6:Int)/\(6:Int)<=(s0.size:Int)/\(s0.size:Int)<=(s0.size:Int))/\PC Tp gl 156 [Arg.mk .str (s0.extract (6:Int).toNat (s0.size:Int).toNat),Arg.mk .str (⟨#[92,117]⟩:Bt)] [.bool] (λd:Bool=>((!d)=true->R (0,0))/\((!d)=false->(0<=(8:Int)/\(8:Int)<=(s0.size:Int)/\(s0.size:Int)<=(s0.size:Int))/\PC Tp gl 328 [Arg.mk .str (s0.extract (8:Int).toNat (s0.size:Int).toNat)] [.int .i32,.bool] (λe:Int×Bool=>((bif (bif (!e.2)then true else(decide (e.1<56320)))then true else(decide (e.1>=57344)))=true->R (0,0))/\((bif (bif (!e.2)then true else(decide (e.1<56320)))then true else(decide (e.1>=57344)))=false->R (Ab .i32 ((Ab .i32 ((Ab .i32 (65536+(Ab .i32 ((Ab .i32 (a.1-55296))*1024))))+e.1))-56320),12))))))))->b c)->((!a.2)=true->b (!a.2))/\((!a.2)=false->b (bif (decide (a.1>=56320))then(decide (a.1<57344))else false)))):
  PC Tp gl 324 [Arg.mk .str s0] [.int .i32,.int .i64] R:=
 PF ⟨[],[],[],[(4,⟨[(13,.one (.dat .bool))],[],[],[100832]⟩)]⟩ [.tmp 2,.tmp 3] 58 Tryz.func324 H
theorem zlq(gl:Fr)(s0:Bt)(R:(Int×Bool)->Prop)
  (H:((!(decide ((s0.size:Int)<4)))=true->(0<=(0:Int)/\(0:Int)<=4/\(4:Int)<=(s0.size:Int)))/\∃a:Bool->Prop,((!(decide ((s0.size:Int)<4)))=true->PC Tp gl 209 [Arg.mk .str (s0.extract (0:Int).toNat (4:Int).toNat),Arg.mk .str (⟨#[43,45,95]⟩:Bt)] [.bool] a)/\∀b:Bool,((!(decide ((s0.size:Int)<4)))=true->a b)->((bif (decide ((s0.size:Int)<4))then true else b)=true->R (0,false))/\((bif (decide ((s0.size:Int)<4))then true else b)=false->(0<=(0:Int)/\(0:Int)<=4/\(4:Int)<=(s0.size:Int))/\PC Tp gl 329 [Arg.mk .str (s0.extract (0:Int).toNat (4:Int).toNat),Arg.mk (.int .i64) 16,Arg.mk (.int .i64) 32] [.int .u64,.err] (λc:Int×Bool=>R (Ab .i32 c.1,c.2)))):
  PC Tp gl 328 [Arg.mk .str s0] [.int .i32,.bool] R:=
 PF ⟨[],[],[],[]⟩ [.tmp 2,.tmp 3] 24 Tryz.func328 H
end
end Go.X
end
section
namespace Go.X
open Go Go.X Go.Proofs Go.RowKit
section
variable {h:za} {b:Nat} {l:Bs} {r:Int} {K:Value -> za -> Prop}
theorem zqk(H:Bld h b l)(h0:0<=r)(h1:r<=1114111)(hl:l.length+4<=140737488355328)(hK:∀h' n,Bld h' b (l++Lib.encodeRune r)->Keep b h h'->Itk h h'->K (.tuple #[.int .i64 n,.nilIface]) h'):
  XC Tp 83 #[.pointer (some ⟨b,0,none⟩),.int .i32 r] h K:=by
 apply Zx
 refine chk H λh2 H2 k2 z2 i2=>⟨rfl,_,rfl,?_⟩
 have aa:=H2.lt
 obtain⟨p,s,e,hp,ho⟩:=H2
 have Z:=ho.1
 rw[Lib.byteCells_length,Dc]at Z
 have c1:=Blk.cellAdd (o:=0) (k:=1) (v:=slV s) (cs:=#[.pointer p,slV s]) ⟨_,e⟩ rfl
 refine⟨s,c1,_,rfl,s,c1,?_⟩
 refine XC.of_calls λB d=>(Js (b+1) (slV s) s.len (Lib.byteCells l) r (by omega) (by omega) (mk B d h2) ho (by omega) (show b+1<=h2.size by omega)).mono ?_
 rintro e' w' ⟨v',rfl,q,o,gr⟩
 obtain⟨s',rfl,hn⟩:∃s':Sl,v'=slV s'/\s'.len=s.len+(Lib.runeCells r).length:=by
  rcases q.2 with⟨rfl,hz⟩|⟨g,cap,ae,rfl,_⟩
  ·exact⟨⟨none,0,0⟩,rfl,hz.symm⟩
  ·exact⟨⟨_,_,_⟩,rfl,rfl⟩
 have o6:Owns w'.heap (b+1) 5 1 s' (Lib.byteCells (l++Lib.encodeRune r)):=by
  have e1:Lib.byteCells (l++Lib.encodeRune r)=Lib.byteCells l++Lib.runeCells r:=by
   rw[<-Lib.byteCells_encodeRune];unfold Lib.byteCells;rw[Cr]
  rw[e1]
  rw[<-hn]at q
  exact q
 have e6:w'.heap[b]?=some (.cells #[.pointer p,slV s] 112 (0,0)):=by
  have hx:=gr.block b (by show b<(h2.push o).size;rw[Ak];omega) (by
   intro hq
   cases ha:s.a with
   |none=>rw[slV,ha]at hq;cases hq
   |some a=>
    have:=ho.base_le a ha
    rw[slV,ha]at hq
    simp only[Value.ownBlock,Aa]at hq
    omega)
  rw[hx]
  show(h2.push o)[b]?=_
  rw[Array.getElem?_push_lt aa,<-e];simp[aa]
 have kk:Keep b h w'.heap:=by
  refine k2.trans ⟨?_,λi hi=>?_⟩ (Ad _)
  ·have:=gr.size
   have h3:(h2.push o).size<=w'.heap.size:=this
   rw[Ak]at h3;omega
  ·have hx:=gr.block i (by show i<(h2.push o).size;rw[Ak];omega) (by
    intro hq
    cases ha:s.a with
    |none=>rw[slV,ha]at hq;cases hq
    |some a=>
     have:=ho.base_le a ha
     rw[slV,ha]at hq
     simp only[Value.ownBlock,Aa]at hq
     omega)
   rw[hx]
   show(h2.push o)[i]?=_
   rw[Array.getElem?_push_lt (by omega)];simp[show i<h2.size by omega]
 have ik:Itk h2 w'.heap:=Itk.own ho λi hi ab=>by
  have hx:=gr.block i (by show i<(h2.push o).size;rw[Ak];omega) (by
   intro hq
   cases ha:s.a with
   |none=>rw[slV,ha]at hq;cases hq
   |some a=>
    have:=ab a ha
    rw[slV,ha]at hq
    simp only[Value.ownBlock,Aa]at hq
    exact this hq)
  rw[hx]
  show(h2.push o)[i]?=_
  rw[Array.getElem?_push_lt hi];simp[hi]
 refine⟨_,rfl,gr.os,gr.tape,gr.output,s',rfl,_,rfl,?_⟩
 refine qay e6 hp o6 λh7 H7 k7 z7 i7=>?_
 have H8:=H7
 obtain⟨p8,s8,e8,_,_⟩:=H8
 exact⟨_,rfl,s8,Blk.cellAdd (o:=0) (k:=1) (v:=slV s8) (cs:=#[.pointer p8,slV s8]) ⟨_,e8⟩ rfl,hK h7 _ H7 (kk.trans k7 (Ad _)) (i2.trans (ik.trans i7))⟩
theorem zql(H:Bld h b l)(h0:0<=r)(h1:r<=1114111)(hl:l.length+4<=140737488355328)(hK:∀h' n,Bld h' b (l++Lib.encodeRune r)->Keep b h h'->K (.tuple #[.int .i64 n,.nilIface]) h'):
  XC Tp 83 #[.pointer (some ⟨b,0,none⟩),.int .i32 r] h K:=
 zqk H h0 h1 hl λh' n a b _=>hK h' n a b
def qda(c:Int):Option Nat:=let lo:=bits .or .u8 c 32
 if 97<=lo/\lo<=122 then(let d:=Ab .u8 ((Ab .u8 (lo-97))+10);if d>=16 then none else some d.toNat)else none
theorem z7d:(Bv 256).all (λc=>decide (48<=c/\c<=57)||(qda (c:Int)==zhg (BX c)))=true:=by kernel_rfl
theorem z7e{c:UInt8}(h:¬(48<=c.toNat/\c.toNat<=57)):qda (c.toNat:Int)=zhg c:=by
 have:=AX.1 z7d c.toNat (BL.2 c.toNat_lt)
 rw[BN,decide_eq_true_eq]at this
 rcases this with h1|h1
 ·exact absurd h1 h
 ·rw[beq_iff_eq]at h1
  rw[h1];congr 1
  rw[UInt8.ofNat_toNat]
theorem zyd:(Bv 256).all (λc=>decide (0<=Ab .u8 ((Ab .u8 ((bits .or .u8 (c:Int) 32)-97))+10)))=true:=by kernel_rfl
theorem zqm{c:Int}(hK:K (.int .u8 (bits .or .u8 c 32)) h):XC Tp 325 #[.int .u8 c] h K:=by
 refine XC.of_calls λB d=>(Ys c (mk B d h)).mono ?_
 rintro e w' ⟨rfl,rfl⟩
 exact⟨_,rfl,rfl,rfl,rfl,hK⟩
theorem zbc:∀(a b:Bs) (n:Nat),zh2 n (a++b)=(zh2 n a).bind λm=>zh2 m b
 |[],b,n=>rfl
 |c::a,b,n=>by
  show(match zhg c with|some d=>zh2 (16*n+d) (a++b)|none=>none)=(match zhg c with|some d=>zh2 (16*n+d) a|none=>none).bind _
  cases zhg c with
  |none=>rfl
  |some d=>exact zbc a b _
theorem z1s(n:Nat)(c:UInt8):zh2 n [c]=(zhg c).map λd=>16*n+d:=by
 show(match zhg c with|some d=>zh2 (16*n+d) []|none=>none)=_
 cases zhg c <;> rfl
theorem qaz{s:Bs}(hK:∀(x:Sl) h',Keep h.size h h'->x.len=s.length->x.a=some ⟨h.size,0,none⟩->(∀j (hj:j<s.length),zd h' ⟨h.size,j,none⟩=some (.int .u8 (s[j].toNat:Int)))->K (slV x) h'):
  XRun Tp (convert 9 110 (.string (bl s))) h K:=by
 intro B d
 refine⟨_,_,_,Lib.run_convert_string_bytes (P:=Tp) (mk B d h) 9 110 5 (bl s) qed elemU8.slice (by kernel_rfl),?_⟩
 refine hK ⟨some ⟨h.size,0,none⟩,(bl s).size,_⟩ _ ⟨?_,λi hi=>?_⟩ (zj s) rfl λj hj=>?_
 ·show h.size<=(Lib.bytesWorld (mk B d h) 5 (bl s)).heap.size
  rw[Lib.bytesWorld_size];exact Nat.le_succ _
 ·exact Lib.bytesWorld_at_old (mk B d h) 5 (bl s) i hi
 ·have:=Lib.bytesWorld_cell (mk B d h) 5 (bl s) j (by rw[zj];exact hj)
  have e:(bl s).data.toList=s:=y9 s
  rw[e,Cz,Ai hj]at this
  exact this
set_option maxHeartbeats 4000000 in
theorem zqn(hl:l.length=4)(h1:∀n h',zh2 0 l=some n->Keep h.size h h'->K (.tuple #[.int .u64 (n:Int),.nilIface]) h')
  (h2:∀h',zh2 0 l=none->Keep h.size h h'->K (.tuple #[.int .u64 0,.iface 287 (.int .i64 2)]) h'):
  XC Tp 316 #[.string (bl l),.int .i64 16,.int .i64 32] h K:=by
 apply Zp
 have he:((bl l:Bt).toList==((⟨#[]⟩:Bt):Bt).toList)=false:=by
  have:((bl l:Bt).toList==((⟨#[]⟩:Bt):Bt).toList)=decide (l=[]):=zev l []
  rw[this,decide_eq_false_iff_not]
  intro e;rw[e]at hl;simp at hl
 refine⟨λe=>(by rw[he]at e;cases e),λ_=>?_⟩
 intro K4 au
 refine⟨λ_=>au _ _ _ ?_,λe=>by simp at e⟩
 intro K7 ay
 refine⟨λe=>by simp at e,λ_=>⟨λe=>by simp at e,λ_=>ay _ _ ?_⟩⟩
 intro aC an
 refine⟨λe=>by simp at e,λ_=>⟨λ_=>an _ _ ?_,λe=>by simp at e⟩⟩
 have aj:(Ab .u64 32:Int)=32:=by decide
 refine⟨by rw[aj];omega,?_⟩
 refine qaz λx h3 k3 xl xa xc=>⟨x,rfl,?_⟩
 refine⟨λu n i g=>u=false/\g=h3/\∃(k m:Nat),k<=4/\i=(k:Int)/\n=(m:Int)/\zh2 0 (l.take k)=some m,λu n i g=>4-i.toNat,⟨rfl,rfl,0,0,by omega,rfl,rfl,rfl⟩,?_⟩
 rintro u n i g ⟨rfl,rfl,k,m,hk,rfl,rfl,hm⟩
 have aE:m<65536:=by
  have:=zqb hm
  have hp:(l.take k).length<=4:=by rw[A1];omega
  have:16 ^ (l.take k).length<=16 ^ 4:=Nat.pow_le_pow_right (by omega) hp
  omega
 refine⟨λhc=>?_,λhc=>?_⟩
 ·have ai:k<4:=by rw[decide_eq_true_eq,xl,hl]at hc;omega
  have am:k<l.length:=by omega
  refine⟨⟨h.size,0,none⟩,⟨xa,by omega,by rw[decide_eq_true_eq]at hc;exact hc⟩,(l[k].toNat:Int),?_,?_⟩
  ·rw[qn,Ah,Dc,Ay]
   exact xc k am
  generalize az:l[k]=c
  have Z:zh2 0 (l.take (k+1))=(zhg c).map λd=>16*m+d:=by
   rw[AD am,zbc,hm,az]
   exact z1s m c
  have aa:zhg c=none->zh2 0 l=none:=by
   intro e
   rw[e]at Z
   rw[<-Cf (k+1) l,zbc,Z];rfl
  have cl:=c.toNat_lt
  intro ax ab
  have ak:∀d:Int,0<=d->(d<16->zhg c=some d.toNat)->(16<=d->zhg c=none)->ax false d g:=by
   intro d ap ar aB
   apply ab
   have aA:(Ab .u8 16:Int)=16:=by decide
   have ae:(Ab .u64 16:Int)=16:=by decide
   rw[aA,ae,aj]
   refine⟨λe=>h2 _ (aa (aB (by simpa using e))) k3,λe=>?_⟩
   have hd:d<16:=by simpa using e
   have hv:=ar hd
   rw[hv]at Z
   have wr:∀z:Int,0<=z->z<18446744073709551616->Ab .u64 z=z:=by
    intro z z0 z1
    unfold Ab
    have e1:(2:Int) ^ Ao .u64=18446744073709551616:=by decide
    have e2:Di .u64=false:=rfl
    simp only[e1,e2,DL,A3,if_false]
    exact Int.emod_eq_of_lt z0 z1
   have e1:Ab .u64 ((m:Int)*16)=(m:Int)*16:=wr _ (by omega) (by omega)
   have e2:Ab .u64 d=d:=wr _ ap (by omega)
   have e3:Ab .u64 ((m:Int)*16+d)=(m:Int)*16+d:=wr _ (by omega) (by omega)
   have e4:(Ab .u64 ((Ab .u64 (1*2 ^ (min (32:Int).toNat 64)))-1):Int)=4294967295:=by decide
   rw[e1,e2,e3,e4]
   refine⟨λe=>?_,λ_=>⟨λe=>?_,λ_=>?_⟩⟩
   ·rw[decide_eq_true_eq]at e;omega
   ·simp only[Bool.cond_eq_ite,Bool.if_true_left,BN,decide_eq_true_eq]at e
    omega
   ·rw[Xy (n:=4) ai (by omega)]
    refine⟨⟨rfl,rfl,k+1,16*m+d.toNat,by omega,rfl,by omega,Z⟩,?_⟩
    show 4-((k+1:Nat):Int).toNat<4-((k:Nat):Int).toNat
    omega
  have ah:(bif ((c.toNat:Int)==95)then((16:Int)==0)else false)=false:=by
   cases((c.toNat:Int)==95) <;> rfl
  refine⟨λe=>(by rw[ah]at e;cases e),λ_=>⟨λe=>?_,λe=>?_⟩⟩
  ·have hd:48<=c.toNat/\c.toNat<=57:=by
    simp only[Bool.cond_eq_ite,Bool.if_false_right,AY,decide_eq_true_eq]at e
    omega
   rw[z99 (by omega) (by omega)]
   refine ak _ (by omega) (λ_=>?_) (λh9=>by omega)
   unfold zhg
   rw[if_pos hd];congr 1;omega
  ·have hd:¬(48<=c.toNat/\c.toNat<=57):=by
    simp only[Bool.cond_eq_ite,Bool.if_false_right,CJ,decide_eq_false_iff_not,decide_eq_true_eq]at e
    omega
   have lh:=z7e hd
   have lr:=AX.1 zyd c.toNat (BL.2 cl)
   rw[decide_eq_true_eq]at lr
   unfold qda at lh
   dsimp only at lh
   refine zqm ?_
   generalize af:bits .or .u8 (c.toNat:Int) 32=lo at lh lr ⊢
   refine⟨lo,rfl,λv g'=>v=.int .u8 lo/\g'=g,λ_=>zqm ?_,λ_=>⟨lo,rfl,rfl⟩,?_,?_⟩
   ·rw[af];exact⟨lo,rfl,rfl,rfl⟩
   ·rintro _ v g' ⟨rfl,_⟩;exact⟨lo,rfl⟩
   ·rintro x g' ⟨e1,rfl⟩
    injection e1 with _ e1
    subst e1
    refine⟨λe9=>zqm ?_,λe9=>?_⟩
    ·rw[af]
     refine⟨x,rfl,?_⟩
     have hr:97<=x/\x<=122:=by
      simp only[Bool.cond_eq_ite,Bool.if_false_right,AY,decide_eq_true_eq]at e9
      omega
     rw[if_pos hr]at lh
     refine ak _ lr (λh9=>?_) (λh9=>?_)
     ·rw[if_neg (by omega)]at lh;exact lh.symm
     ·rw[if_pos (by omega)]at lh;exact lh.symm
    ·have hr:¬(97<=x/\x<=122):=by
      simp only[Bool.cond_eq_ite,Bool.if_false_right,CJ,decide_eq_false_iff_not,decide_eq_true_eq]at e9
      omega
     rw[if_neg hr]at lh
     exact h2 _ (aa lh.symm) k3
 ·have ai:k=4:=by rw[decide_eq_false_iff_not,xl,hl]at hc;omega
  refine⟨λv g'=>g'=g,(λe=>by cases e),(λ_=>⟨true,rfl⟩),(λe=>by cases e),?_⟩
  rintro x g' rfl
  refine⟨λe=>(by cases e),λ_=>h1 _ _ ?_ k3⟩
  rw[Co (by omega)]at hm
  exact hm
end
end Go.X
end
section
namespace Go.X
section
theorem zso{gl:Fr}(hg:GL gl){l:List Bt}(hl:SL l){R:Bool->Prop}(hR:R (zab l)):PC Tp gl 70 [Arg.mk (.row .str) l] [.bool] R:=by
 intro h M vs hM ag ha
 match vs,ha with
 |[u],⟨hu,_⟩=>
  obtain⟨s,rfl,hr⟩:=z5z hu
  have hr:Rd M (.row .str) l [slV s]:=hr
  obtain⟨ab,aj,ai⟩:=rowLen hr
  apply PX.of
  apply zez s
  have hd:decide (((s.len:Nat):Int)<=64)=decide (l.length<=64):=by rw[ab,AH,decide_eq_true_eq,decide_eq_true_eq];omega
  rw[hd]
  refine⟨λv h'=>∃b,v=.bool b/\(decide (l.length<=64)=true->b=l.any λx=>!(wo (lb x)))/\∃M',Later h M h' M',λhc=>?_,λhc=>⟨true,true,rfl,λe=>(by rw[e]at hc;cases hc),M,Later.refl ag⟩,λ_ v h' ⟨b,e,_⟩=>⟨b,e⟩,?_⟩
  ·refine(qc8 (gl:=gl) ag hr (p:=λx=>!(wo (lb x))) λx hx=>⟨by kernel_rfl,λh' M' u' L' ae=>?_⟩).go λw h4 M4 b L4 aa ah=>⟨b,zr2 aa,b,rfl,λ_=>ah,M4,L4⟩
   have:=Xq ae
   subst this
   apply PX.of
   show XC Tp 133 #[.string x] h' _
   apply zcl
   have hp:=z08 hg.tabs (l:=lb x) (R:=λb=>b=wo (lb x)) (by have:=hl.s x hx;omega) rfl
   rw[zhs]at hp
   exact hp.go (vs:=[.string x]) (hM.trans L'.le) L'.ag (jc (rdStr _) xb) λw h5 M5 b L5 Z af=>⟨b,zr2 Z,M5,_,L5,zjd.2 (rdBool _),by rw[af]⟩
  ·rintro b h' ⟨b',e,hb,M',L'⟩
   cases e
   refine⟨M',_,L',zjd.2 (rdBool _),?_⟩
   have:(bif decide (l.length<=64)then !b else false)=zab l:=by
    unfold zab
    cases hc:decide (l.length<=64)with
    |false=>rfl
    |true=>
     rw[hb hc,cond_true,Cd,AH];simp
   rw[this];exact hR
end
end Go.X
end
section
namespace Go.X
open Go Go.X Go.Proofs Go.RowKit
section
theorem qee{z:UInt8}(h:128<=z.toNat):Lib.indexByte [95] z=-1:=by
 have:z≠95:=by rintro rfl;revert h;decide
 unfold Lib.indexByte
 simp[Lib.indexByte,this.symm]
theorem ix0{z:UInt8}:Lib.indexByte [] z=-1:=by simp[Lib.indexByte]
def VR(r:Int)(e:Ending):Prop:=∃b,e=.returned (.bool b)/\(b=true->(0<=r/\r<55296)\/(57343<r/\r<=1114111))
set_option maxHeartbeats 4000000 in
set_option maxRecDepth 1000000 in
theorem zqo(r:Int)(w:World):Calls Tp 300 #[.int .i32 r] w λe w'=>VR r e/\w'=w:=by
 have mixed:=Tryz.mixed
 go_enter Tryz.func300,Tryz.ntmps300
 by_cases h1:0<=r <;> by_cases h2:r<55296 <;> by_cases h3:57343<r <;> by_cases h4:r<=1114111 <;> (go_wp2;go_ret;exact⟨⟨_,rfl,λh=>by first|omega|cases h⟩,rfl⟩)
theorem zye(r:Int)(h:128<=r):(∃a z:UInt8,Ej r=⟨#[a,z]⟩/\128<=z.toNat)\/(∃a b z:UInt8,Ej r=⟨#[a,b,z]⟩/\128<=z.toNat)\/(∃a b c z:UInt8,Ej r=⟨#[a,b,c,z]⟩/\128<=z.toNat):=by
 have hz:∀n:Nat,128<=(BX (128+n % 64)).toNat:=λn=>by
  have:(BX (128+n % 64)).toNat=(128+n % 64) % 256:=UInt8.toNat_ofNat
  rw[this,DW (by omega)];omega
 have hc:∃c:Nat,128<=c/\(if Utf8.valid r then r.toNat else Utf8.runeError)=c:=by
  refine⟨_,?_,rfl⟩
  split
  ·omega
  ·decide
 obtain⟨c,aa,Z⟩:=hc
 unfold Ej
 simp only[Z]
 rw[if_neg (by omega)]
 by_cases h1:c<2048
 ·rw[if_pos h1];exact .inl ⟨_,_,rfl,hz _⟩
 ·rw[if_neg h1]
  by_cases h2:c<65536
  ·rw[if_pos h2];exact .inr (.inl ⟨_,_,_,rfl,hz _⟩)
  ·rw[if_neg h2];exact .inr (.inr ⟨_,_,_,_,rfl,hz _⟩)
def IR(e:Ending):Prop:=∃n,e=.returned (.int .i64 n)
set_option maxHeartbeats 4000000 in
set_option maxRecDepth 1000000 in
theorem zqp(r:Int)(w:World)(h1:128<=r)(h2:r≠65533):Calls Tp 269 #[.string ⟨#[43,45,95]⟩,.int .i32 r] w λe w'=>IR e/\Below w.heap.size w w':=by
 have mixed:=Tryz.mixed
 have ab:∀args w,(callFunc 212 args).run Tp w=.ok (.enter 212 args) w:=enters_of Eb (by kernel_rfl) rfl
 have ae:∀args w,(callFunc 300 args).run Tp w=.ok (.enter 300 args) w:=enters_of Tryz.func300 (by kernel_rfl) rfl
 have g1:¬r<128:=by omega
 go_enter Tryz.func269,Tryz.ntmps269
 go_wp2_with (go_at_fn 300;refine(zqo _ _).mono ?_;rintro e w' ⟨⟨b,rfl,hb⟩,hw⟩;rw[hw];cases b)
 ·go_ret
  exact⟨⟨_,rfl⟩,Below.refl _ _⟩
 ·rcases zye r h1 with⟨a,z,hE,hz⟩|⟨a,b,z,hE,hz⟩|⟨a,b,c,z,hE,hz⟩
  ·have Z:=λ(w:World)=>run_convert_int_string (P:=Tp) w 21 9 .i32 r (by kernel_rfl) (by kernel_rfl)
   rw[hE]at Z
   refine wp_scope_straight ?_
   go_wp2
   go_loop [9] (λv=>v=.int .i64 1) (λ_=>0)
   case atStart=>rfl
   case round=>
    subst hrel
    go_wp2
    refine wp_scope_straight ?_
    have aa:((45:Int) != (z.toNat:Int))=true:=bne_iff_ne.2 (by omega)
    go_wp2
    go_region
    simp only[show ∀h,((⟨#[43,45,95]⟩:Bt)[1]'h)=45 from λ_=>rfl,show ∀h,((⟨#[a,z]⟩:Bt)[1]'h)=z from λ_=>rfl,show((45:UInt8).toNat:Int)=45 from rfl,aa]
    all_goals go_wp2
    all_goals go_region_with (go_at_call 212;refine(ja _ _ _).mono ?_;rintro e w' ⟨rfl,rfl⟩)
    all_goals simp only[show ∀h,((⟨#[a,z]⟩:Bt)[1]'h)=z from λ_=>rfl,qee hz]
    all_goals go_wp2
    all_goals simp only[Exit.noGoto,Exit.inBlock]
    all_goals go_wp2
    all_goals simp only[Exit.noGoto,Exit.inBlock]
    all_goals go_wp2
    all_goals go_ret
    all_goals exact⟨⟨_,rfl⟩,zgq w 2⟩
  ·have Z:=λ(w:World)=>run_convert_int_string (P:=Tp) w 21 9 .i32 r (by kernel_rfl) (by kernel_rfl)
   rw[hE]at Z
   refine wp_scope_straight ?_
   go_wp2
   go_loop [9] (λv=>v=.int .i64 2) (λ_=>0)
   case atStart=>rfl
   case round=>
    subst hrel
    go_wp2
    refine wp_scope_straight ?_
    have aa:((95:Int) != (z.toNat:Int))=true:=bne_iff_ne.2 (by omega)
    go_wp2
    go_region
    simp only[show ∀h,((⟨#[43,45,95]⟩:Bt)[2]'h)=95 from λ_=>rfl,show ∀h,((⟨#[a,b,z]⟩:Bt)[2]'h)=z from λ_=>rfl,show((95:UInt8).toNat:Int)=95 from rfl,aa]
    all_goals go_wp2
    all_goals go_region_with (go_at_call 212;refine(ja _ _ _).mono ?_;rintro e w' ⟨rfl,rfl⟩)
    all_goals simp only[show ∀h,((⟨#[a,b,z]⟩:Bt)[2]'h)=z from λ_=>rfl,ix0]
    all_goals go_wp2
    all_goals simp only[Exit.noGoto,Exit.inBlock]
    all_goals go_wp2
    all_goals simp only[Exit.noGoto,Exit.inBlock]
    all_goals go_wp2
    all_goals go_ret
    all_goals exact⟨⟨_,rfl⟩,zgq w 2⟩
  ·have Z:=λ(w:World)=>run_convert_int_string (P:=Tp) w 21 9 .i32 r (by kernel_rfl) (by kernel_rfl)
   rw[hE]at Z
   refine wp_scope_straight ?_
   go_wp2
   go_loop [9] (λv=>v=.int .i64 3) (λ_=>0)
   case atStart=>rfl
   case round=>
    subst hrel
    go_wp2
    go_ret
    exact⟨⟨_,rfl⟩,Below.refl _ _⟩
end
end Go.X
end
section
namespace Go.X
open Go Go.Lib
section
variable {l:Bs}
def zqq(l:Bs):Prop:=∀c∈l,c.toNat<128
theorem Xd(cs:Bs):∀l:Bs,containsAny l cs=l.any λc=>cs.contains c
 |[]=>by simp[containsAny,indexAny]
 |c::l=>by
  have ih:=Xd cs l
  have aa:=indexAny_ge cs l
  rw[List.any_cons,<-ih]
  unfold containsAny
  rw[indexAny]
  by_cases hc:cs.contains c=true
  ·rw[if_pos hc,hc];simp
  ·have Z:cs.contains c=false:=by simpa using hc
   rw[if_neg hc,Z,Dx]
   by_cases h1:indexAny l cs=-1
   ·simp[h1]
   ·have hb:(indexAny l cs==-1)=false:=by rw[beq_eq_false_iff_ne];exact h1
    rw[hb,if_neg (by simp),AH,decide_eq_true_eq,decide_eq_true_eq];omega
theorem zyf:∀(l:Bs) (acc:Nat),l.all qs=true->acc*10 ^ l.length+zk l<10 ^ 18->parseUint10 acc l=.ok (acc*10 ^ l.length+zk l)
 |[],acc,_,_=>by simp[parseUint10,zk]
 |c::t,acc,hd,hl=>by
  rw[C6,AY]at hd
  have hc:48<=c.toNat/\c.toNat<=57:=by simpa[qs]using hd.1
  have e:zk (c::t)=(c.toNat-48)*10 ^ t.length+zk t:=by
   have:=Jv [c] t
   rw[Dz]at this
   rw[this];simp[zk]
  have e2:(acc*10+(c.toNat-48))*10 ^ t.length+zk t=acc*10 ^ (c::t).length+zk (c::t):=by
   rw[e,Aw,DV,BU,Nat.mul_assoc,Cw 10 (10 ^ t.length)];omega
  have hp:1<=10 ^ t.length:=Nat.one_le_pow _ _ (by decide)
  have hb:acc*10+(c.toNat-48)<=acc*10 ^ (c::t).length+zk (c::t):=by
   rw[<-e2]
   calc acc*10+(c.toNat-48)=(acc*10+(c.toNat-48))*1:=by omega
    _<=(acc*10+(c.toNat-48))*10 ^ t.length:=Nat.mul_le_mul_left _ hp
    _<=_:=by omega
  rw[parseUint10,if_pos hc,if_neg (by omega),if_neg (by omega),zyf t _ hd.2 (by rw[e2];exact hl),e2]
theorem zqr:∀(l:Bs) (acc:Nat),l.all qs=false->∀v,parseUint10 acc l≠.ok v
 |[],acc,h,v=>by simp at h
 |c::t,acc,h,v=>by
  rw[parseUint10]
  by_cases hc:48<=c.toNat/\c.toNat<=57
  ·have hd:qs c=true:=by simp[qs,hc]
   rw[C6,hd,Cd]at h
   rw[if_pos hc]
   by_cases h1:1844674407370955162<=acc
   ·rw[if_pos h1];simp
   ·rw[if_neg h1]
    by_cases h2:18446744073709551616<=acc*10+(c.toNat-48)
    ·rw[if_pos h2];simp
    ·rw[if_neg h2];exact zqr t _ h v
  ·rw[if_neg hc];simp
theorem z7f(hd:l.all qs=true)(Z:l≠[])(hl:l.length<=9):atoiAll l=.ok (zk l:Int):=by
 have hv:zk l<10 ^ 9:=W7 hl hd
 have hp:=zyf l 0 hd (by rw[Db];omega)
 rw[Db,Ay]at hp
 obtain⟨c,t,rfl⟩:=A6 Z
 have hc:48<=c.toNat/\c.toNat<=57:=by
  rw[C6,AY]at hd
  simpa[qs]using hd.1
 unfold atoiAll
 simp only
 rw[if_neg (by omega)]
 unfold parseMag
 rw[if_neg (by simp),hp]
 have aa:¬c.toNat=45:=by omega
 simp only[aa,not_false_eq_true,true_and,false_and,if_false]
 rw[if_neg (by omega)]
theorem z7g(hd:l.all qs=false)(hh:∀c,l.head?=some c->c.toNat≠43/\c.toNat≠45)(v:Int):atoiAll l≠.ok v:=by
 cases l with
 |nil=>simp at hd
 |cons c t=>
  have hc:=hh c rfl
  unfold atoiAll
  simp only
  rw[if_neg (by omega)]
  unfold parseMag
  rw[if_neg (by simp)]
  have:=zqr (c::t) 0 hd
  cases hp:parseUint10 0 (c::t)with
  |ok u=>exact absurd hp (this u)
  |range=>simp
  |_=>simp
theorem z7h(h:¬zqq l)(v:Int):atoiAll l≠.ok v:=by
 have Z:∀m:Bs,¬zqq m->∀u,parseMag m≠.ok u:=by
  intro m hm u
  unfold parseMag
  split
  ·simp
  ·apply zqr
   rw[Bool.eq_false_iff]
   intro hd
   apply hm
   intro c hc
   rw[AX]at hd
   have:=hd c hc
   simp[qs]at this;omega
 cases l with
 |nil=>exact absurd (λc hc=>by cases hc) h
 |cons c t=>
  unfold atoiAll
  simp only
  have hm:¬zqq (if c.toNat=43\/c.toNat=45 then t else c::t):=by
   split
   ·rename_i hc
    intro ht
    apply h
    intro d hd
    rcases Af.1 hd with rfl|hd
    ·omega
    ·exact ht d hd
   ·exact h
  have:=Z _ hm
  cases hp:parseMag (if c.toNat=43\/c.toNat=45 then t else c::t)with
  |ok u=>exact absurd hp (this u)
  |range=>simp
  |_=>simp
def zh9(l:Bs):Int×Bool:=if l.length<1\/9<l.length\/(1<l.length/\l.head?=some 48)then(0,false)else if l.all qs then((zk l:Int),true)else(0,false)
theorem zdu(h:(zh9 l).2=true):0<=(zh9 l).1/\(zh9 l).1<1000000000:=by
 unfold zh9 at h ⊢
 split
 ·rename_i hc;rw[if_pos hc]at h;cases h
 ·rename_i hc
  rw[if_neg hc]at h
  split
  ·rename_i hd
   have:zk l<10 ^ 9:=W7 (by omega) hd
   simp only;omega
  ·rename_i hd;rw[if_neg hd]at h;cases h
end
end Go.X
end
section
namespace Go.X
section
theorem Wd(gl:Fr)(s0:Bt)(Z:Bt)(R:Bool->Prop)
  (H:PC Tp gl 265 [Arg.mk .str s0,Arg.mk .str Z] [.int .i64] (λa:Int=>R (decide (a>=0)))):
  PC Tp gl 209 [Arg.mk .str s0,Arg.mk .str Z] [.bool] R:=
 PF ⟨[],[],[],[]⟩ [.tmp 4] 9 Tryz.func209 H
theorem zbd(gl:Fr)(s0:Bt)(aa:Bt)(R:Int->Prop)
  (H:((aa.toList==(⟨#[]⟩:Bt).toList)=true->R (-1))/\((aa.toList==(⟨#[]⟩:Bt).toList)=false->(((aa.size:Int)==1)=true->(0<=(0:Int)/\(0:Int)<(aa.size:Int))/\∀a:Int->Prop,(∀b:Int,(PC Tp gl 269 [Arg.mk .str s0,Arg.mk (.int .i32) b] [.int .i64] (λc:Int=>R c))->a b)->((decide ((Ab .i32 (zb aa (0:Int).toNat))>=128))=true->a 65533)/\((decide ((Ab .i32 (zb aa (0:Int).toNat))>=128))=false->a (Ab .i32 (zb aa (0:Int).toNat))))/\(((aa.size:Int)==1)=false->∀d:Prop,((∃(e:(Bt×Nat)->Prop) (f:(Bt×Nat)->Nat),e (s0,0)/\∀Z:Bt×Nat,e Z->(((nxB Z.1 Z.2)=true->(nxB Z.1 Z.2)=true/\(nxB Z.1 Z.2)=true/\PC Tp gl 269 [Arg.mk .str aa,Arg.mk (.int .i32) (nxR Z.1 Z.2)] [.int .i64] (λg:Int=>(decide (g>=0)=true->R (Z.2:Int))/\(decide (g>=0)=false->(e (Z.1,nxP Z.1 Z.2)/\f (Z.1,nxP Z.1 Z.2)<f Z))))/\((nxB Z.1 Z.2)=false->R (-1))))->d)->PC Tp gl 293 [Arg.mk (.int .i64) (s0.size:Int)] [.bool] (λi:Bool=>(i=true->False)/\(i=false->d))))):
  PC Tp gl 265 [Arg.mk .str s0,Arg.mk .str aa] [.int .i64] R:=
 PF ⟨[],[],[(18,⟨[],[(45,[.dat .iter])],[],[1002880]⟩)],[(7,⟨[(5,.one (.dat (.int .i32)))],[],[],[100320]⟩),(17,⟨[],[],[],[]⟩)]⟩ [.tmp 4] 55 Tryz.func265 H
theorem Zt(gl:Fr)(s0:Bt)(r1:Int)(R:Int->Prop)
  (H:((bif (decide ((0:Int)<=r1))then(decide (r1<128))else false)=true->PC Tp gl 212 [Arg.mk .str s0,Arg.mk (.int .u8) (Ab .u8 r1)] [.int .i64] (λa:Int=>R a))/\((bif (decide ((0:Int)<=r1))then(decide (r1<128))else false)=false->((r1==65533)=true->∃(b:(Bt×Nat)->Prop) (c:(Bt×Nat)->Nat),b (s0,0)/\∀Z:Bt×Nat,b Z->(((nxB Z.1 Z.2)=true->(nxB Z.1 Z.2)=true/\(nxB Z.1 Z.2)=true/\(((nxR Z.1 Z.2:Int)==65533)=true->R (Z.2:Int))/\(((nxR Z.1 Z.2:Int)==65533)=false->(b (Z.1,nxP Z.1 Z.2)/\c (Z.1,nxP Z.1 Z.2)<c Z)))/\((nxB Z.1 Z.2)=false->R (-1))))/\((r1==65533)=false->PC Tp gl 300 [Arg.mk (.int .i32) r1] [.bool] (λd:Bool=>((!d)=true->R (-1))/\((!d)=false->False))))):
  PC Tp gl 269 [Arg.mk .str s0,Arg.mk (.int .i32) r1] [.int .i64] R:=
 PF ⟨[],[],[(38,⟨[],[(175,[.dat .iter])],[],[1011200]⟩)],[]⟩ [.tmp 4] 187 Tryz.func269 H
theorem Zy(gl:Fr)(Z:Int)(R:Bool->Prop)
  (H:R (decide (Z>8))):
  PC Tp gl 293 [Arg.mk (.int .i64) Z] [.bool] R:=
 PF ⟨[],[],[],[]⟩ [.tmp 2] 5 Tryz.func293 H
end
end Go.X
end
section
namespace Go.X
open Go Go.X Go.Proofs Go.RowKit
section
variable {gl:Fr} {R:Int -> Prop} {l:Bs}
theorem zg6{f:FuncId}{args:List Arg}{us:List Value}(aa:zeh args=some us)(hR:∀n,R n)
  (H:∀w:World,Calls Tp f us.toArray w λe w'=>IR e/\Below w.heap.size w w'):PC Tp gl f args [.int .i64] R:=by
 intro h M vs hM ag ha
 rw[zca aa ha]
 refine XC.of_calls λB d=>(H (mk B d h)).mono ?_
 rintro e w' ⟨⟨n,rfl⟩,Z⟩
 have k:Keep h.size h w'.heap:=⟨Z.size,Z.block⟩
 exact⟨_,rfl,Z.os,Z.tape,Z.output,k,M,n,Fr.le.refl _,λ_ _=>rfl,ag.keep k,zpz _ _,hR n⟩
theorem zn7{r:Int}(hr:0<=r)(hR:∀n,R n):PC Tp gl 269 [Arg.mk .str (bl [43,45,95]),Arg.mk (.int .i32) r] [.int .i64] R:=by
 by_cases h1:r<128
 ·apply Zt
  have e:(bif decide ((0:Int)<=r)then decide (r<128)else false)=true:=by simp[hr,h1]
  rw[e]
  exact⟨λ_=>W4 (hR _),λhx=>by cases hx⟩
 ·by_cases h2:r=65533
  ·subst h2
   apply Zt
   refine⟨λ_=>W4 (hR _),λ_=>⟨λ_=>?_,λhx=>by cases hx⟩⟩
   refine⟨λq=>∃p:Nat,q=(bl [43,45,95],p),λq=>3-q.2,⟨0,rfl⟩,?_⟩
   rintro q ⟨p,rfl⟩
   simp only[znn]
   refine⟨λhn=>⟨hn,hn,λ_=>hR _,λ_=>⟨⟨_,rfl⟩,?_⟩⟩,λ_=>hR _⟩
   have hp:p < [43,45,95].length:=by simpa using hn
   have Z:p<3:=hp
   rw[zjf _ _ hp]
   have:=(Qh (([43,45,95]:Bs).drop p)).1
   omega
  ·exact zg6 (us:=[.string ⟨#[43,45,95]⟩,.int .i32 r]) rfl hR λw=>zqp r w (by omega) h2
theorem zyg(w:World)(o1 o2:Obj):Below w.heap.size w ((w.alloc o1).alloc o2):=((Below.refl _ w).alloc (Ad _) o1).alloc (by show w.heap.size<=(w.heap.push o1).size;simp) o2
theorem zyh(l:Bs):(0:Int)<=((dec l).1:Int):=Int.natCast_nonneg _
theorem zyi(hl:l.length<=9){R:Bool->Prop}(h1:zqq l->R (l.any λc=>[43,45,95].contains c))(h2:¬zqq l->∀b,R b):PC Tp gl 209 [Arg.mk .str (bl l),Arg.mk .str (bl [43,45,95])] [.bool] R:=by
 have Z:∀(j:Nat) (b:UInt8),([43,45,95]:Bs)[j]?=some b->b.toNat<128:=by
  intro j b hb
  have:b∈([43,45,95]:Bs):=Bh hb
  simp at this
  rcases this with rfl|rfl|rfl <;> decide
 by_cases ha:zqq l
 ·refine zhy (s:=bl l) (c:=bl [43,45,95]) (by rw[zj];omega) (by rw[zj];decide) ?_ ?_ ?_
  ·rw[y9];exact λj b hb=>ha b (Bh hb)
  ·rw[y9];exact Z
  ·rw[y9,y9,Xd];exact h1 ha
 ·have hb:=h2 ha
  apply Wd
  by_cases h8:l.length<=8
  ·apply zbd
   have e1:((bl [43,45,95]).toList==(⟨#[]⟩:Bt).toList)=false:=by rw[z3t,y9];rfl
   have e2:((((bl [43,45,95]).size:Int))==1)=false:=by rw[zj];rfl
   rw[e1,e2]
   refine⟨λhx=>(by cases hx),λ_=>⟨λhx=>(by cases hx),λ_ K hK=>?_⟩⟩
   apply Zy
   have e3:decide (((bl l).size:Int)>8)=false:=by rw[zj];simp;omega
   rw[e3]
   refine⟨λhx=>(by cases hx),λ_=>hK ?_⟩
   refine⟨λq=>∃p:Nat,q=(bl l,p),λq=>l.length-q.2,⟨0,rfl⟩,?_⟩
   rintro q ⟨p,rfl⟩
   simp only[znn]
   refine⟨λhn=>⟨hn,hn,?_⟩,λ_=>hb _⟩
   have hp:p<l.length:=by simpa using hn
   refine zn7 (by rw[zr4];exact zyh _) λn=>⟨λ_=>hb _,λ_=>⟨⟨_,rfl⟩,?_⟩⟩
   rw[zjf _ _ hp]
   have:=(Qh (l.drop p)).1
   omega
  ·refine zg6 (us:=[.string (bl l),.string (bl [43,45,95])]) rfl (λn=>hb _) λw=>?_
   have hz:=(zero_of_info (P:=Tp) (t:=169) (v:=.agg (Ba 256 (.bool false))) (n:=256) (by kernel_rfl)).1
   refine(Jy hz (bl l) (bl [43,45,95]) w (by rw[zj];decide) (by rw[zj];omega) (by rw[zj];omega) (by rw[zj];decide) Z).mono ?_
   rintro e w' ⟨rfl,rfl⟩
   exact⟨⟨_,rfl⟩,zyg w _ _⟩
theorem zyj:(bif (bif (l==[])then true else decide ((l.length:Int)>9))then true else(bif (!(l==[48]))then((((l[0]?).getD 0).toNat:Int)==48)else false))=decide (l.length<1\/9<l.length\/(1<l.length/\l.head?=some 48)):=by
 match l with
 |[]=>simp
 |[c]=>
  rw[AH,decide_eq_true_eq]
  by_cases hc:c=48
  ·subst hc;simp
  ·have:((c.toNat:Int)==48)=false:=by
    have:=zr9 (c:=c) (n:=48) 48 rfl
    unfold bne at this
    rw[<-Bool.not_not ((c.toNat:Int)==48),this];simp[hc]
   show(bif (bif ([c]==[])then true else decide ((([c]:Bs).length:Int)>9))then true else(bif (!([c]==[48]))then((c.toNat:Int)==48)else false))=true↔_
   rw[this];simp
 |c::d::t=>
  have e:((c.toNat:Int)==48)=(c==48):=by
   have:=zr9 (c:=c) (n:=48) 48 rfl
   unfold bne at this
   rw[<-Bool.not_not ((c.toNat:Int)==48),this,Bool.not_not]
  show(bif (bif ((c::d::t)==[])then true else decide (((c::d::t:Bs).length:Int)>9))then true else(bif (!((c::d::t)==[48]))then((c.toNat:Int)==48)else false))=_
  rw[e,AH,decide_eq_true_eq]
  have Z:¬(c::d::t:Bs).length<1:=by simp
  have aa:1<(c::d::t:Bs).length:=by simp
  have h1:((c::d::t:Bs)==[])=false:=rfl
  have h2:((c::d::t:Bs)==[48])=false:=by simp
  rw[h1,h2,cond_false,Bool.not_false,cond_true]
  generalize (c::d::t:Bs).length=n at *
  by_cases h9:9<n
  ·have:decide ((n:Int)>9)=true:=by simp;omega
   rw[this];simp[h9]
  ·have:decide ((n:Int)>9)=false:=by simp;omega
   rw[this,cond_false];simp[h9,Z,aa]
theorem z1t(h:l.any (λc=>[43,45,95].contains c)=false):∀c,l.head?=some c->c.toNat≠43/\c.toNat≠45:=by
 intro c hc
 rw[List.any_eq_false]at h
 have:=h c (List.mem_of_head? hc)
 constructor
 ·intro e
  have:c=43:=D3.1 (by rw[e];rfl)
  subst this;exact absurd rfl ‹¬_›
 ·intro e
  have:c=45:=D3.1 (by rw[e];rfl)
  subst this;exact absurd rfl ‹¬_›
theorem zn8(h:l.all qs=true):zqq l/\(l.any λc=>[43,45,95].contains c)=false:=by
 rw[AX]at h
 constructor
 ·intro c hc
  have:=h c hc
  simp[qs]at this;omega
 ·rw[List.any_eq_false]
  intro c hc hm
  have h2:=h c hc
  simp[qs]at h2
  simp at hm
  rcases hm with rfl|rfl|rfl <;> revert h2 <;> decide
theorem zn9(hg:GL gl)(hl:l.length<=1048576){R:Int×Bool->Prop}(h:R (zh9 l)):PC Tp gl 135 [Arg.mk .str (bl l)] [.int .i64,.bool] R:=by
 apply zeq
 have af:∀s:Bs,((bl s).toList==(⟨#[48]⟩:Bt).toList)=(s==[48]):=λs=>by rw[show(⟨#[48]⟩:Bt)=bl [48]from rfl,qao,y9]
 simp only[zj,jk,show(0:Int).toNat=0 from rfl,z3t,y9,af,zyj]
 refine⟨λhx=>⟨by omega,?_⟩,?_⟩
 ·simp at hx
  have:=Bn.2 hx.1.1
  omega
 unfold zh9 at h
 by_cases Z:l.length<1\/9<l.length\/(1<l.length/\l.head?=some 48)
 ·rw[if_pos Z]at h
  rw[decide_eq_true Z]
  exact⟨λ_=>True,λhx=>(by cases hx),λr _=>⟨λ_=>h,λhx=>by cases hx⟩⟩
 ·rw[if_neg Z]at h
  rw[decide_eq_false Z]
  refine⟨λb=>(l.all qs=true->b=false)/\(l.all qs=false->b=false->∀v,Lib.atoiAll l≠.ok v),λ_=>?_,λb hb=>?_⟩
  ·refine zyi (by omega) (λha=>⟨λhd=>(zn8 hd).2,λhd hf=>z7g hd (z1t hf)⟩) (λab b=>⟨λhd=>absurd (zn8 hd).1 ab,λhd hf v=>z7h ab v⟩)
  ·obtain⟨ai,ae⟩:=hb rfl
   refine⟨λhx=>?_,λhx=>?_⟩
   ·have aa:b=true:=by simpa using hx
    cases hd:l.all qs with
    |true=>rw[ai hd]at aa;cases aa
    |false=>rw[hd,if_neg (by simp)]at h;exact h
   ·have ah:b=false:=by simpa using hx
    refine z6i hg.err (s:=bl l) (by rw[zj];omega) ?_
    rw[y9]
    unfold z6h
    cases hd:l.all qs with
    |true=>
     rw[z7f hd (by rintro rfl;simp at Z) (by omega)]
     rw[hd,if_pos rfl]at h
     exact⟨λhx=>(by cases hx),λ_=>h⟩
    |false=>
     rw[hd,if_neg (by simp)]at h
     have:=ae hd ah
     cases ha:Lib.atoiAll l with
     |ok v=>exact absurd ha (this v)
     |range=>exact⟨λ_=>h,λhx=>by cases hx⟩
     |_=>exact⟨λ_=>h,λhx=>by cases hx⟩
end
end Go.X
end
