/- A part of the proof: nothing is stated here for its own sake. -/
import Derived.Test.YtplilfikcimcbaaGreatDoorPiB
import Derived.Shelf.Unicode.ValidAny
import Derived.Test.YtplilfikcimcbaaGreatDoorTie
import Derived.Test.YtplilfikcimcbaaGreatDoorCards
import Derived.PinnedBridge
import Derived.Lay
import Derived.HandedShaped
import Derived.Sort.KeysCollected
import Derived.Lib.AppendZerosOnto
import Derived.RangeFuncCalls
open _root_.Go.Addr renaming add->zab
open _root_.Array renaming getD_eq_getD_getElem?->zb6,getElem?_append_left->zdd,getElem?_eq_some_iff->zaq,getElem?_setIfInBounds_ne->zc1,getElem?_toList->zb5,replicate->zcf,size_push->zau
open _root_.BitVec renaming ofInt->zcd
open _root_.Bool renaming and_eq_true->zaw,and_true->zev,cond_false_right->zcq,eq_iff_iff->zbd,false_eq_true->zca,not_eq_true'->zd6,true_and->zce
open _root_.Go.Builtin renaming append_->zaj,len_->zdn
open _root_.Go.Code renaming cond->ze4,region->ze7
open _root_.Go.Deferred renaming ofValue->zeo
open _root_.Go.Extern.AbiNoEscape renaming same->zfd
open _root_.Go.Instr renaming entry->zen,lookup->zcy,makeSlice->zba,mapUpdate->zct,next->zdz,range->zey,storeAt->zae
open _root_.Int renaming toNat_natCast->zag
open _root_.Go.IntKind renaming bits->zbw,signed->ze0,wrap->zaa
open _root_.List renaming all_append->zd4,all_cons->zel,all_eq_true->zbl,append_assoc->za3,append_nil->zbi,cons_append->zbs,drop_drop->zeb,drop_eq_getElem_cons->zbg,drop_eq_nil_of_le->zde,drop_length->zed,drop_zero->zcn,exists_cons_of_ne_nil->zdf,ext_getElem?->zbm,filter_cons->zef,flatMap_append->zdu,flatMap_cons->zc0,getElem?_append_left->zd2,getElem?_eq_getElem->zam,getElem?_eq_none->zco,getElem?_eq_some_iff->zbb,getElem_append_left->zc9,getElem_append_right->zc6,getElem_mem->zak,getElem_of_mem->zdh,length->zbu,length_append->zah,length_cons->za1,length_drop->zcw,length_eq_zero_iff->zdr,length_map->zas,length_nil->zbx,length_pos_iff->zb4,length_replicate->zd1,length_singleton->zcj,length_take->zbt,map_append->zbf,map_congr_left->zdj,map_cons->zbk,map_map->zbo,mem_append->zav,mem_append_left->zap,mem_append_right->zaz,mem_cons->zal,mem_cons_of_mem->zan,mem_cons_self->zat,mem_iff_getElem->zdp,mem_map->zbr,mem_range->zcs,mem_singleton->zbh,nodup_append->zdg,nodup_nil->zee,pairwise_cons->zb2,range->za7,replicate->zcr,take_append_drop->zbz,take_length->za2,take_of_length_le->zb0,take_succ_eq_append_getElem->zai,zip_cons_cons->zdm
open _root_.List.cons renaming injEq->zcv
open _root_.Nat renaming add_assoc->ze6,add_mul->zc7,add_zero->zej,eq_of_beq_eq_true->zao,le_of_ble_eq_true->zci,le_of_lt->zer,le_refl->zac,le_trans->zb8,lt_or_ge->zbv,min_eq_left->zew,mul_comm->ze1,mul_le_mul->zcg,mul_le_mul_right->za6,mul_one->zbn,not_lt_zero->zcb,sub_self->zes,sub_zero->ze2,succ_mul->zc4,zero_add->zax,zero_le->zar
open _root_.Go.Next renaming value->zd8
open _root_.Go.Op renaming bytesLess->zcz
open _root_.Option renaming bind_some->zc3,map_eq_some_iff->zc5
open _root_.Option.some renaming inj->za9,injEq->zad
open _root_.Go.Region renaming wanted->zbj
open _root_.Go.Proofs.Tryz renaming prog->zbe,underlying5->zeq
open _root_.UInt8 renaming ofNat->zcl,toNat_inj->zdt
open _root_.Go.Utf8 renaming decode->zfa
open _root_.Go.Value renaming int->zby,slice->zdw,string->za0
open _root_.Go.Value.slice renaming injEq->zbc
open _root_.Go.Sem renaming run_bind->DM
open _root_.Go renaming Program->EM,World->Nd,TypeId->Nw,FuncId->n4,Addr->n8,Oper->n9
open _root_.Nat renaming beq->mv
open _root_.Decidable renaming decide->ph
open _root_.Go.Value renaming oneCell'->pi
open _root_.Go.X.Arg renaming mk->up
open _root_.Go.X.BT renaming push->ur
open _root_.List renaming length->DB
set_option linter.all false
set_option maxRecDepth 1000000
set_option maxHeartbeats 20000000
open Go.Proofs.Tryz
namespace Go.X
end Go.X
namespace Go.Proofs
end Go.Proofs
open Go Go.X Go.Proofs
open _root_.Bool renaming true->Ta,false->Tc
open _root_.Option renaming some->Td,none->Te
namespace Go.X
section
section
variable {l:Bs} {n:Int}
theorem t7{c:UInt8}(e:n=(c.toNat:Int)):(cond (ph ((DB l:Int)>0)) (((l[0]?.getD 0).toNat:Int)==n) Tc)=(l.head?==Td c):=by
 subst e;cases l with
 |nil=>rfl
 |cons b t=>
  have:ph (((b::t).length:Int)>0)=Ta:=ξ
  rw[this,zK];show((b.toNat:Int)==(c.toNat:Int))=(Td b==Td c);rw[zbd];simp only[beq_iff_eq,Int.natCast_inj,zad];exact⟨λh=>zdt.1 h,λh=>by rw[h]⟩
theorem vD:bl ((l.drop (1:Int).toNat).take (((DB l:Int)).toNat-(1:Int).toNat))=bl l.tail:=by rw[zag,show(1:Int).toNat=1 from rfl,List.drop_one,zb0 ξ]
theorem AF{c:UInt8}(d:UInt8)(b:n=(d.toNat:Int)):((c.toNat:Int) != n)=!(c==d):=by subst b;rw[zbd];simp only[bne_iff_ne,ne_eq,Int.natCast_inj,zd6,beq_eq_false_iff_ne];exact⟨λh e=>h (ϕ e),λh e=>h (zdt.1 e)⟩
def qcv{gl:Fr}{s:Bs}(hs:s.length<=1152921504606846976){R:Bool×Bt×Bt×Bool×Bt×Bool->Prop}(h1:ko s=Ta->R ((Jw s).neg,bl (Jw s).whole,bl (Jw s).rest,(Jw s).low,bl (ite ((Zp s).2.2) ((Jw s).exp) [48]),Ta)) (h2:ko s=Tc->∀a b c d e,R (a,bl b,bl c,d,bl e,Tc)):ab4 gl 291 [up .str (bl s)] [.bool,.str,.str,.bool,.str,.bool] R:=by
 apply OO
 simp only[zn,yb,show(0:Int).toNat=0 from rfl,t7 (l:=s) (c:=45) (n:=45) rfl]
 refine⟨λu=>η,?_⟩
 have hS:(ku s).length<=DB s:=by unfold ku;split <;> simp
 have first:∀K:Bt->Prop,K (bl (ku s))->(((s.head?==Td 45)=Ta->(0<=(1:Int)/\(1:Int)<=(DB s:Int)/\((DB s:Int))<=(DB s:Int))/\K ((bl s).extract (1:Int).toNat ((DB s:Int)).toNat))/\((s.head?==Td 45)=Tc->K (bl s))):=by
  intro K L
  unfold ku at L
  refine⟨λu=>⟨?_,?_⟩,λu=>?_⟩
  ·cases s with
   |nil=>simp at u
   |cons=>simp;omega
  ·rw[u,zA rfl]at L
   rw[y0,vD];exact L
  ·simp_all
 intro K L
 refine first K (L _ ?_)
 clear L first K
 generalize ah:ku s=s1 at *
 simp only[zn,yb]
 have hM:MP m5 s1=Zp s:=by rw[Zp,ah]
 refine⟨λi=>∃k:Nat,i=k/\k<=DB s1/\∀j (N:j<DB s1),j<k->m5 s1[j]=Tc,λi=>DB s1-i.toNat,⟨0,rfl,ω,λj _ h=>ω⟩,?_⟩
 rintro i ⟨k,rfl,P,hb⟩
 have S:∀P:k<DB s1,(cond (cond (ph ((k:Int)<(DB s1:Int))) ((((s1[((k:Int)).toNat]?).getD 0).toNat:Int) != 101) Tc) ((((s1[((k:Int)).toNat]?).getD 0).toNat:Int) != 69) Tc)=!m5 s1[k]:=by
  intro P
  rw[zag,oG P]
  have:ph ((k:Int)<(DB s1:Int))=Ta:=ψ P
  rw[this,zK,AF (n:=101) 101 rfl,AF (n:=69) 69 rfl,m5]
  cases s1[k]==101 <;> simp
 refine⟨λC=>?_,λC=>?_,λC=>?_,λC=>?_⟩
 simp_all
 simp_all
 ·have t:k<DB s1:=by simp at C;omega
  rw[S t]at C
  rw[qd t ω]
  grind
 ·-- the whole and the point
  have hm:Zp s=if P:k<s1.length then(s1.take k,s1.drop (k+1),Ta)else(s1,[],Tc):=by
   rw[<-hM]
   split
   ·grind [uk]
   ·grind [wC,zdh]
  have w:s1.take k=(Zp s).1:=by
   rw[hm];split
   ·rfl
   ·grind
  have rest:∀(e:Bs) (low:Bool),low=Wn s->e=(ite ((Zp s).2.2) (iO s) [48]) ->
    ∀E:Bt->Bool->Prop,(∀o:Bt,∀f:Bool,o=bl e->f=low->E o f)->E (bl e) low:=λe low _ _ E h=>h _ _ rfl rfl
  intro E Y
  have fin:∀(e:Bs) (low:Bool),low=Wn s->e=(ite ((Zp s).2.2) (iO s) [48])->E (bl e) low:=by
   intro e low ac I
   refine Y _ _ ⟨ω,?_⟩
   have aj:(bl s1).extract 0 ((k:Int)).toNat=bl (Zp s).1:=by rw[zag,y0,zcn,ze2,w]
   rw[aj]
   generalize ai:(Zp s).1=m1 at *
   have an:m1.length<=DB s1:=by rw[<-w];simp;omega
   have hw:MP nV m1=wn s:=by rw[wn,ai]
   simp only[zn,yb]
   refine⟨λi=>∃k:Nat,i=k/\k<=DB m1/\∀j (N:j<DB m1),j<k->nV m1[j]=Tc,λi=>DB m1-i.toNat,⟨0,rfl,ω,λj _ h=>ω⟩,?_⟩
   rintro i ⟨q,rfl,V,af⟩
   have F:∀V:q<DB m1,(cond (ph ((q:Int)<(DB m1:Int))) ((((m1[((q:Int)).toNat]?).getD 0).toNat:Int) != 46) Tc)=!nV m1[q]:=by
    intro V
    rw[zag,oG V]
    have:ph ((q:Int)<(DB m1:Int))=Ta:=ψ V
    rw[this,zK,AF (n:=46) 46 rfl,nV]
   refine⟨λC=>?_,λC=>?_,λC=>⟨?_,?_⟩⟩
   ·grind
   ·have p:q<DB m1:=by simp at C;omega
    rw[F p]at C
    rw[qd p ω]
    refine⟨⟨q+1,rfl,ω,λj N ar=>?_⟩,η⟩
    grind
   ·omega
   ·have D:wn s=if V:q<m1.length then(m1.take q,m1.drop (q+1),Ta)else(m1,[],Tc):=by
     rw[<-hw]
     split
     ·rename_i p
      rw[F p]at C
      exact uk p (λj N=>af j ω N) (ψ C)
     ·exact wC λc ae=>by
       obtain⟨j,N,rfl⟩:=zdh ae
       grind
    have aa:(bl m1).extract 0 ((q:Int)).toNat=bl (wn s).1:=by
     rw[zag,y0,zcn,ze2,D]
     split
     ·rfl
     ·grind
    rw[aa]
    have az:(wn s).1.length<=DB s:=by rw[D];split <;> simp <;> omega
    have au:(wn s).2.1.length<=DB s:=by rw[D];split <;> simp <;> omega
    have ax:e.length<=DB s+1:=by
     rw[I]
     split
     ·rename_i ay
      have:(iO s).length<=(Zp s).2.1.length:=by
       unfold iO;split
       ·simp
       ·split <;> simp
      have:(Zp s).2.1.length<=DB s1:=by rw[hm];split <;> simp
      omega
     ·simp
    have G:∀(B:Bt->Prop),(∀r:Bt,r=bl (ite ((wn s).2.2) ((wn s).2.1) [48])->B r)->((ph ((q:Int)<(DB m1:Int)))=Ta->(0<=(w6 ((q:Int)+1))/\(w6 ((q:Int)+1))<=(DB m1:Int)/\((DB m1:Int))<=(DB m1:Int))/\B ((bl m1).extract (w6 ((q:Int)+1)).toNat ((DB m1:Int)).toNat))/\((ph ((q:Int)<(DB m1:Int)))=Tc->B (bl [48])):=by
     intro B A
     refine⟨λu=>?_,λu=>?_⟩
     ·have p:q<DB m1:=ψ u
      rw[qd p ω]
      refine⟨ω,A _ ?_⟩
      rw[D,dif_pos p,zag,zag,y0,zb0 ξ];rfl
     ·grind
    intro B A
    refine G B λr hr=>A r ?_
    subst hr
    clear A G
    have al:((q:Int)==(DB m1:Int))=!(wn s).2.2:=by
     rw[D,zbd]
     split
     ·simp;omega
     ·simp;omega
    refine Jl (l:=(wn s).1) ω ⟨λx=>Qy (ite ((wn s).2.2) ((wn s).2.1) [48])=x,λ_=>Jl η rfl,λy hy=>?_⟩
    refine⟨λx=>Qy e=x,λ_=>Jl ω rfl,λz hz=>?_⟩
    rw[show(⟨#[48]⟩:Bt)=bl [48]from rfl]
    simp only[kR,zn,yb]
    generalize T:Qy (wn s).1=d1 at *
    have Z:Qy (ite ((wn s).2.2) ((wn s).2.1) [48])=(!(wn s).2.2||Qy (wn s).2.1):=by
     cases(wn s).2.2 <;> simp;decide
    have U:Qy e=(!(Zp s).2.2||Qy (iO s)):=by
     rw[I];cases(Zp s).2.2 <;> simp;decide
    have m:ko s=((cond (cond d1 y Tc) z Tc)&&((wn s).1==[48]||(wn s).1.head? != Td 48)):=by
     unfold ko
     rw[T,<-Z,<-U]
     cases H:d1 with
     |false=>simp
     |true=>
      grind
    refine⟨λu=>?_,?_⟩
    ·have:d1=Ta:=by simp at u;exact u.1.1.1
     grind [Xp]
    ·intro ab O
     have am:ab (bl (wn s).2.1):=by
      refine O _ ?_
      have h4:∀H:d1=Ta,(cond (ph ((wn s).1=[48])) Ta (((((wn s).1[0]?).getD 0).toNat:Int) != 48))=((wn s).1==[48]||(wn s).1.head? != Td 48):=by
       intro H
       rw[vm (Xp (T.trans H)),Bool.cond_true_left,zbd];simp
      cases ho:ko s with
      |true=>
       rw[ho]at m
       have H:d1=Ta:=by cases d1 <;> simp at m;rfl
       rw[h4 H]
       have ak:(cond (cond d1 y Tc) z Tc)=Ta:=by
        cases hb:(cond (cond d1 y Tc) z Tc)with
        |true=>rfl
        |false=>grind
       rw[ak]at m ⊢
       rw[zK]
       rw[zce]at m
       rw[<-m]
       have:=h1 ho
       unfold Jw at this
       simp only at this
       rw[ac,I]
       have e5:(ite ((Zp s).2.2) (ite ((Zp s).2.2) (iO s) []) [48])=(ite ((Zp s).2.2) (iO s) [48]):=by cases(Zp s).2.2 <;> rfl
       grind
      |false=>
       rw[ho]at m
       have hv:(cond (cond (cond d1 y Tc) z Tc) (cond (ph ((wn s).1=[48])) Ta (((((wn s).1[0]?).getD 0).toNat:Int) != 48)) Tc)=Tc:=by
        cases H:d1 with
        |false=>rfl
        |true=>
         rw[h4 H]
         rw[H]at m
         grind
       grind
     grind
  refine⟨λu=>?_,λu=>?_⟩
  ·have t:k<DB s1:=ψ u
   rw[qd t ω]
   have hE:(Zp s).2.1=s1.drop (k+1):=by rw[hm,dif_pos t]
   have J:(Zp s).2.2=Ta:=by rw[hm,dif_pos t]
   have Q:(bl s1).extract ((k+1:Nat):Int).toNat ((DB s1:Int)).toNat=bl (Zp s).2.1:=by
    rw[zag,zag,y0,zb0 ξ,hE]
   rw[Q]
   simp only[zn,yb]
   rw[t7 (l:=(Zp s).2.1) (c:=45) (n:=45) rfl,t7 (l:=(Zp s).2.1) (c:=43) (n:=43) rfl]
   have M:((Zp s).2.1.head?==Td 45)=Wn s:=by unfold Wn;rw[J];rfl
   rw[M]
   refine⟨ω,λhy=>η,λhy=>η,λhy=>⟨?_,?_⟩,λhy=>?_⟩
   ·have:0<(Zp s).2.1.length:=by
     cases hl:(Zp s).2.1 with
     |nil=>grind
     |cons=>simp
    omega
   ·rw[y0,vD]
    refine fin _ _ rfl ?_
    rw[J,zA rfl,iO]
    grind
   ·refine fin _ _ rfl ?_
    rw[J,zA rfl,iO]
    grind
  ·have t:¬k<DB s1:=ψ u
   refine fin [48] Tc ?_ ?_
   ·unfold Wn;grind
   grind
end
section
variable {l:Bs}
def Ef(h:(l.head?==Td 48)=Tc):l.dropWhile (· == 48)=l:=by
 cases l with
 |nil=>rfl
 |cons b t=>simp_all
theorem GD(h:(l.head?==Td 48)=Ta):l.tail.dropWhile (· == 48)=l.dropWhile (· == 48):=by
 cases l with
 |nil=>rfl
 |cons b t=>simp_all
theorem PD(l:Bs):zu (48::l)=zu l:=rfl
theorem Ud(l:Bs):zu (l.dropWhile (· == 48))=zu l:=by
 induction l with
 |nil=>rfl
 |cons b t c=>grind [List.dropWhile_cons,PD]
theorem KX{n:Int}(h1:0<=n)(h2:n<256):zaa .u8 n=n:=by
 ((try unfold w6);unfold zaa);have e:(2:Int) ^ zbw .u8=256:=ζ
 simp only[e];have b:ze0 .u8=Tc:=rfl;grind
theorem Nk{m:Int}(b:0<=m):(cond (ph ((DB l:Int)>m)) (((l[0]?.getD 0).toNat:Int)==48) Tc)=(ph ((DB l:Int)>m)&&l.head?==Td 48):=by
 cases hd:ph ((DB l:Int)>m)with
 |false=>rfl
 |true=>
  have e:0<DB l:=ν hd
  rw[zK,zce];have:=t7 (l:=l) (c:=48) (n:=48) rfl;simp_all
def RH(l:Bs):Bs:=(l.reverse.dropWhile (· == 48)).reverse
theorem NS{c:UInt8}(h:c=48):RH (l++[c])=RH l:=by subst h;unfold RH;simp
theorem Rm{c:UInt8}(h:¬c=48):RH (l++[c])=l++[c]:=by unfold RH;simp_all
def qh9{α β γ δ:Type}{B:α->β->γ->δ->Prop}{c:Bool}{a b:α}{x:β}{y:γ}{z:δ}(h:∀e,e=(cond c a b)->B e x y z):∀K:α->β->γ->δ->Prop,(∀e x y z,B e x y z->K e x y z)->(c=Ta->K a x y z)/\(c=Tc->K b x y z):= λK i=>⟨λf=>i _ _ _ _ (h _ (by subst f;rfl)),λf=>i _ _ _ _ (h _ (by subst f;rfl))⟩
theorem SU{gl : Fr}{s : Bs}(hs : s.length <= 1152921504606846976){R : (Bool × Bt × Int) × Int -> Prop}(h : R (kQ (qm s).1, (qm s).2)): PC Tp gl 232 [up .str (bl s)] [tN, .int .i64] R := by
  apply zdv;refine qcv hs (λhok => ?_) (λhok a b c d e => ?_);rotate_left;refine ⟨λ_ => ?_, λhx => by cases hx⟩;have : Wo s = Te := by unfold Wo; simp [hok]
  unfold qm at h;simp_all;have hlit : Wo s = Td (Jw s) := by unfold Wo; simp [hok]
  have hlen := Dv hlit;obtain ⟨d1, d2, d3⟩ := Ep hlit;unfold qm at h;rw [hlit] at h;simp only at h;obtain ⟨E1, hE1, hE1d, hE1v⟩ : ∃ E1, (if (Zp s).2.2 then (Jw s).exp else [48]) = E1 /\ E1.all j5 = Ta /\ E1.dropWhile (· == 48) = (Jw s).exp.dropWhile (· == 48) := by
    refine ⟨_, rfl, ?_, ?_⟩;split;exact d3;rfl;cases hm : (Zp s).2.2 with
    | true => rfl
    | false => simp [Jw, hm]
  have hE1l : E1.length <= s.length + 1 := by rw [<- hE1]; split;omega;simp
  rw [hE1];generalize Jw s = x at *;refine ⟨λhx => (by cases hx), λ_ => ?_⟩;simp only [zn];rw [fK ω];refine ⟨λhx => ?_, λhx => ?_⟩;grind;rw [zv η] at h;have hx' : x.whole.length + x.rest.length <= 1000 := by simp at hx; omega
  refine ⟨λe8 _ _ _ => ∃ E : Bs, e8 = bl E /\ E.all j5 = Ta /\ E.dropWhile (· == 48) = x.exp.dropWhile (· == 48), λe8 _ _ _ => e8.size, ⟨E1, rfl, hE1d, hE1v⟩, ?_⟩;rintro e8 b1 b2 b3 ⟨E, rfl, hEd, hEv⟩;simp only [zn, yb, show (0 : Int).toNat = 0 from rfl, Nk (l := E) (m := 1) ω];refine ⟨λhy => η, λhy => ?_, λhy => ?_⟩;have hy1 : 1 < E.length /\ (E.head? == Td 48) = Ta := by
    have : (1 : Int) < (E.length : Int) /\ E.head? = Td 48 := ψ hy
    exact ⟨ω, by simp [this.2]⟩
  rw [y0, vD];refine ⟨ω, ⟨E.tail, rfl, ?_, ?_⟩, by rw [zn, List.length_tail]; omega⟩;rw [<- List.drop_one]; grind;rw [GD hy1.2, hEv];have hEx : (E.length <= 1 \/ E.dropWhile (· == 48) = E) := by
    cases hh : (E.head? == Td 48) with
    | false => exact .inr (Ef hh)
    | true => grind
  have hdl := w8 E (· == 48);have hlen9 : E.length > 9 ↔ (x.exp.dropWhile (· == 48)).length > 9 := by rw [<- hEv];obtain hx | hx:=hEx;omega;rw [hx]
  refine ⟨λhz => ?_, λhz => ?_⟩;grind;have hE9 : E.length <= 9 := by simp at hz; omega
  rw [zv (λhh => ω)] at h;have hval : zu (x.exp.dropWhile (· == 48)) = zu E := by rw [<- hEv, Ud]
  rw [hval] at h;have hvb : zu E < 10 ^ 9 := sP hE9 hEd;refine ⟨λe i _ _ _ => ∃ k : Nat, i = k /\ k <= E.length /\ e = (zu (E.take k) : Int), λ_ i _ _ _ => E.length - i.toNat, ⟨0, rfl, ω, by simp [zu]⟩, ?_⟩;rintro e i b1 b2 b3 ⟨k, rfl, hk, rfl⟩;refine ⟨λhc => ?_, λhc => ?_⟩;have hc' : k < E.length := ψ hc
  have hd := vK hEd hc';simp only [zag, oG hc'];have hle := sP (n := 9) (l := E.take k) (by simp; omega) (CK hEd k);rw [KX ω ω, qd hc' ω, fK (n := 10 * _) ω, fK (n := (_ : Int) - 48) ω, fK (n := _ + _) ω];refine ⟨ω, ⟨k + 1, rfl, ω, ?_⟩, ω⟩;rw [Za hc']; omega;have hc' : ¬ k < E.length := ψ hc
  rw [zb0 ω];apply qh9;intro e7 he7;refine ⟨by unfold qg; omega, ?_⟩;rw [qo];have hD : (x.whole ++ x.rest).all j5 = Ta := by rw [zd4, t8 d1, d2]; rfl
  have hev : e7 = if x.low then - (zu E : Int) else (zu E : Int) := by rw [he7]; cases x.low <;> simp; exact fK ω
  rw [<- hev] at h;have hb : -1000000000 <= e7 /\ e7 <= 1000000000 := by rw [hev]; split <;> omega
  refine ⟨λd _ _ _ => ∃ D : Bs, d = bl D /\ D.dropWhile (· == 48) = (x.whole ++ x.rest).dropWhile (· == 48) /\ D.length <= 1000, λd _ _ _ => d.size, ⟨_, rfl, rfl, θ⟩, ?_⟩;rintro d b1 b2 b3 ⟨D, rfl, hDv, hDl⟩;simp only [zn, yb, t7 (l := D) (c := 48) (n := 48) rfl];refine ⟨λhy => η, λhy => ?_, λhy => ?_⟩;have hp : 0 < D.length := by
    cases D with
    | nil => simp at hy
    | cons => simp
  grind [y0, vD, GD, List.length_tail, zn];have hDe := Ef hy;rw [hDv] at hDe;rw [show (⟨#[]⟩ : Bt) = bl [] from rfl];simp only [kR];rw [hDe] at h;refine ⟨λhz => ?_, λhz => ?_⟩;simp_all;have hne : D ≠ [] := ψ hz
  rw [zv hne] at h;have hsh : x9 (x.whole ++ x.rest) = RH D := by unfold x9 RH; rw [hDe]
  have hsl : (RH D).length <= D.length := by have := (Ya hD η).2.1;rw [hsh, hDe] at this; exact this
  have hsne : RH D ≠ [] := by have := (Ya hD η).1;rw [hsh] at this;intro e; rw [e] at this; cases this
  rw [hsh] at h;rw [fK (n := e7 - _) ω];refine ⟨λe d _ _ _ => ∃ D' : Bs, d = bl D' /\ D'.length <= 1000 /\ RH D' = RH D /\ e + D'.length = e7 - (x.rest.length : Int) + D.length, λ_ d _ _ _ => d.size, ⟨D, rfl, hDl, rfl, rfl⟩, ?_⟩;rintro e d b1 b2 b3 ⟨D', rfl, hl', hs', he'⟩;have hne' : D' ≠ [] := by rintro rfl;rw [<- hs'] at hsne; exact hsne rfl
  have hp : 0 < D'.length := zb4.2 hne';simp only [zn, yb];rw [pY hp ω];have hlast : D' = D'.take (D'.length - 1) ++ [D'[D'.length - 1]] := by rw [<- zai ω, show D'.length - 1 + 1 = D'.length by omega, za2]
  simp only [zag, oG (show D'.length - 1 < D'.length by omega)];refine ⟨ω, λhq => ?_, λhq => ?_⟩;have hc48 : D'[D'.length - 1] = 48 := zdt.1 η;rw [fK (n := e + 1) ω, y0];grind [zn, NS];have hc48 : ¬ D'[D'.length - 1] = 48 := λe => by rw [e] at hq; simp at hq
  have hfin : D' = RH D := by
    rw [<- hs'];conv => rhs; rw [hlast]
    rw [Rm hc48, <- hlast]
  grind
end
end
section
open Go.Shelf Go.RowKit
def Tx:Go.Shelf.Ren:=⟨fun|196=>246|259=>297|n=>n,fun|9=>9|4=>4|3=>3|5=>5|12=>12|119=>305|0=>0|46=>123|139=>308|138=>307|53=>178|n=>n,fun|3=>0|4=>1|n=>n⟩
def NX:Go.Proofs.Lays.n196 Tp Tx:=by constructor <;> intros <;> kernel_rfl
open Go.RowKit Go.Lib in
def ZV(s:Bt)(w:Nd)(b:s.size<=9223372036854775807)(c:Lib.Utf8Tabs 0 1 w):Calls Tp 246 #[ab5 s] w λe w'=>e=.returned (ab8 (Lib.validD s.data.toList))/\Below w.heap.size w w':=Any.utf8_ValidString NX s w b c
end
section
variable {l:Bs}
theorem Vm{n:Int}{k:Nat}(b:n=(k:Int)):(bl l).extract n.toNat ((DB l:Int)).toNat=bl (l.drop k):=by subst b;rw[zag,zag,y0,zb0 ξ]
theorem Mf(l:Bs):Lib.validD l=Q2 l:=by
 by_cases h:l=[];subst h;rw[DX];rfl;rw[Lib.validD_step l h,Wm h,Lib.decodeL_N,Mf (l.drop _)];have e:jK (dec l)=ph ((dec l).1=65533/\(dec l).2=1):=by unfold jK;rw[Bool.decide_and];rfl
 rw[e];by_cases c:(dec l).1=65533/\(dec l).2=1;rw[zJ c];exact zA c;rw[decide_eq_false c];exact zv c
termination_by (DB l)
decreasing_by
 have h1:=Qt l;have h2:0<DB l:=zb4.2 h;unfold dec at h1;simp only[zcw];omega
def Py{gl:Fr}(c:Tabs gl)(e:l.length<=4611686018427387904){R:ad2}(h:R (Q2 l)):ab4 gl 246 [up .str (bl l)] [.bool] R:= PC.of_scal rfl (λ_=>XR _) (by rw[<-Mf]at h;exact h) λw b=>ZV (bl l) w (by rw[zn];omega) (c.at b)
end
section
open Go.Lib
section
theorem TC(l:Bs)(a:Nat):l.foldl (λn c=>10*n+(c.toNat-48)) a=a*10 ^ (DB l)+zu l:=by
 induction l generalizing a with
 |nil=>simp[zu]
 |cons c t b=>simp only[List.foldl_cons,za1,zu];grind
theorem Xr(a b:Bs):zu (a++b)=zu a*10 ^ (DB b)+zu b:=by rw[zu,List.foldl_append,TC];rfl
theorem UY(n:Nat):zu (zcr n 48)=0:=by
 induction n with
 |zero=>rfl
 |succ n b=>rw[List.replicate_succ];exact b
theorem GJ:∀(l:Bs) (b:Nat),l.all j5=Ta->b*10 ^ (DB l)+zu l<10 ^ 19->parseUintM (2 ^ 64-1) b l=.ok (b*10 ^ (DB l)+zu l)
 |[],b,_,_=>by simp[parseUintM,zu]
 |c::t,b,hd,hl=>by
  rw[zel,zaw]at hd
  have i:48<=c.toNat/\c.toNat<=57:=by simpa[j5]using hd.1
  have e:zu (c::t)=(c.toNat-48)*10 ^ (DB t)+zu t:=by
   have:=Xr [c] t
   rw[List.singleton_append]at this
   rw[this];simp[zu]
  have f:(b*10+(c.toNat-48))*10 ^ (DB t)+zu t=b*10 ^ (c::t).length+zu (c::t):=by
   rw[e,za1,Nat.pow_succ,zc7,Nat.mul_assoc,ze1 10 (10 ^ (DB t))];omega
  have h:1<=10 ^ (DB t):=Nat.one_le_pow _ _ ζ
  have hb:b*10+(c.toNat-48)<=b*10 ^ (c::t).length+zu (c::t):=by
   rw[<-f]
   calc b*10+(c.toNat-48)=(b*10+(c.toNat-48))*1:=ω
    _<=(b*10+(c.toNat-48))*10 ^ (DB t):=Nat.mul_le_mul_left _ h
    _<=_:=ω
  rw[parseUintM,zA i,zv ω,zv ω,GJ t _ hd.2 ω,f]
def Zk(n:Nm):Bs:=n.2.1++zcr n.2.2.toNat 48
theorem EI(n:Nm):zu (Zk n)=zu n.2.1*10 ^ n.2.2.toNat:=by rw[Zk,Xr,UY,zd1,zej]
theorem zxu{n:Nm}(h:yh n=Ta):n.2.1.all j5=Ta:=by unfold yh X8 at h;obtain h|h:=Bool.or_eq_true _ _ ▸ h;simp_all;simp only[zaw]at h;exact t8 h.1.1.1.1.1
def KZ{n:Nm}(h:yh n=Ta):(Zk n).all j5=Ta:=by rw[Zk,zd4,zxu h,zce,zbl];intro x b;rw[List.mem_replicate]at b;rw[b.2];rfl
theorem Nj{l:Bs}(neg:Bool)(b:l.all j5=Ta)(h:l.length<=19)(e:l≠[]):parseIntB 64 ((ite neg [45] [])++l)=ite neg (ite (zu l<=9223372036854775808) (.ok (-(zu l:Int))) (.range)) (ite (zu l<=9223372036854775807) (.ok (zu l:Int)) (.range)):=by
 have i:zu l<10 ^ 19:=sP h b;have f:=GJ l 0 b ω;rw[Nat.zero_mul,zax]at f;cases neg with
 |true=>simp only[if_true,List.singleton_append];unfold parseIntB;simp only[show(45:UInt8).toNat=45 from rfl,or_true,if_true];unfold parseUintB;grind
 |false=>
  simp only[zca,if_false,List.nil_append];obtain⟨c,t,rfl⟩:=zdf e;have j:48<=c.toNat/\c.toNat<=57:=by rw[zel,zaw]at b;simpa[j5]using b.1
  unfold parseIntB;simp only;rw[zv ω];unfold parseUintB;grind
theorem OX{a b:Nat}(i:a<18446744073709551616)(hb:b<18446744073709551616):zaa .u64 (((zcd (zbw .u64) (a:Int)) &&& (zcd (zbw .u64) (b:Int))).toNat:Int)=((a &&& b:Nat):Int):=by
 have c:zbw .u64=64:=rfl;have e:((zcd (zbw .u64) (a:Int)) &&& (zcd (zbw .u64) (b:Int))).toNat=a &&& b:=by rw[BitVec.toNat_and,BitVec.ofInt_natCast,BitVec.ofInt_natCast,BitVec.toNat_ofNat,BitVec.toNat_ofNat,c,Nat.mod_eq_of_lt ω,Nat.mod_eq_of_lt ω]
 rw[e];have f:a &&& b<2 ^ 64:=Nat.and_lt_two_pow _ ω;((try unfold w6);unfold zaa);have h:(2:Int) ^ zbw .u64=18446744073709551616:=ζ
 simp only[h];have j:ze0 .u64=Tc:=rfl;grind
def qia{n:Int}(h1:0<=n)(h2:n<18446744073709551616):zaa .u64 n=n:=by
 ((try unfold w6);unfold zaa);have b:(2:Int) ^ zbw .u64=18446744073709551616:=ζ
 simp only[b];have c:ze0 .u64=Tc:=rfl;grind
end
section
variable {v:Tr} {l:List Tr} {k:Nat}
mutual
def cK:Tr->Nat | .mk _ _ _ xs=>1+xc xs
def xc:List Tr->Nat | []=>0|x::l=>cK x+xc l
end
mutual
def iB:Tr->Nat | .mk _ _ _ xs=>ie xs+1
def ie:List Tr->Nat | []=>0|x::l=>max (iB x) (ie l)
end
mutual
def Zo(p:Tr->Bool):Tr->Bool | .mk k s ks xs=>p (.mk k s ks xs)&&mZ p xs
def mZ(p:Tr->Bool):List Tr->Bool | []=>Ta|x::l=>Zo p x&&mZ p l
end
mutual
def kn(m:Nat):Tr->Prop | .mk _ s ks xs=>(s.size<=m/\ks.length<=m/\∀k∈ks,k.size<=m)/\m3 m xs
def m3(m:Nat):List Tr->Prop | []=>True|x::l=>kn m x/\m3 m l
end
theorem jr(v:Tr):cK v=1+xc v.aa7:=by cases v;rw[cK]
theorem lX(v:Tr):iB v=ie v.aa7+1:=by cases v;rw[iB]
theorem Zb(p:Tr->Bool)(v:Tr):Zo p v=(p v&&mZ p v.aa7):=by cases v;rw[Zo]
theorem nF(m:Nat)(v:Tr):kn m v↔(v.aa9.size<=m/\DB v.aa8<=m/\∀k∈v.aa8,k.size<=m)/\m3 m v.aa7:=by cases v;rw[kn]
theorem sY{m:Nat}:∀{l:List Tr},m3 m l↔∀x∈l,kn m x
 |[]=>by simp[m3]
 |x::l=>by rw[m3,sY];simp
def Sn{m:Nat}{v x:Tr}(h:kn m v)(b:x∈v.aa7):kn m x:=sY.1 ((nF m v).1 h).2 x b
theorem jl(p:Tr->Bool):∀l:List Tr,mZ p l=l.all (Zo p)
 |[]=>rfl
 |x::l=>by rw[mZ,jl p l];rfl
theorem Xs:∀a b:List Tr,xc (a++b)=xc a+xc b
 |[],b=>by simp[xc]
 |x::l,b=>by rw[zbs,xc,xc,Xs l b];omega
theorem KJ:∀a b:List Tr,ie (a++b)=max (ie a) (ie b)
 |[],b=>by simp[ie]
 |x::l,b=>by rw[zbs,ie,ie,KJ l b];omega
def EV{x:Tr}:∀{l:List Tr},x∈l->cK x<=xc l
 |y::l,h=>by rw[xc];obtain rfl|h:=zal.1 h;omega;have:=EV h;omega
def qi{v x:Tr}(h:x∈v.aa7):cK x<cK v:=by have:=EV h;rw[jr v];omega
theorem we:∀l:List Tr,DB l<=xc l
 |[]=>by simp[xc]
 |x::l=>by have:=we l;rw[xc,za1,jr];omega
theorem wa(v:Tr):0<cK v:=by rw[jr];omega
def Iw(b:k<DB l):xc (l.take (k+1))=xc (l.take k)+cK l[k]:=by rw[zai b,Xs];simp[xc]
def K9(b:k<DB l):ie (l.take (k+1))=max (ie (l.take k)) (iB l[k]):=by rw[zai b,KJ];simp[ie]
mutual
def Vx:∀v:Tr,iB v<=cK v
 |.mk _ _ _ xs=>by rw[iB,cK];have:=uF xs;omega
def uF:∀l:List Tr,ie l<=xc l
 |[]=>by simp[ie]
 |x::l=>by rw[ie,xc];have:=Vx x;have:=uF l;omega
end
def yj(ks:List Bt):Bool:=ks.all (λk=>Q2 (lb k))&&ph ks.Nodup
def iZ(s:Bs):Nm×Bool:=((qm s).1,(qm s).2==0&&ph (Qa (qm s).1=s))
def vR(s:Bs):Bool:=(iZ s).2&&(qJ (iZ s).1).2&&ph (0<=(qJ (iZ s).1).1)
def zm(v:Tr):Bool:=
 if v.aa6=1 then lb v.aa9==[]&&v.aa8.isEmpty&&v.aa7.isEmpty
 else if v.aa6=2 then(lb v.aa9==[116,114,117,101]||lb v.aa9==[102,97,108,115,101])&&v.aa8.isEmpty&&v.aa7.isEmpty
 else if v.aa6=3 then(iZ (lb v.aa9)).2&&v.aa8.isEmpty&&v.aa7.isEmpty
 else if v.aa6=4 then Q2 (lb v.aa9)&&v.aa8.isEmpty&&v.aa7.isEmpty
 else if v.aa6=5 then lb v.aa9==[]&&v.aa8.isEmpty
 else if v.aa6=6 then yj v.aa8&&ph (v.aa8.length=v.aa7.length)&&lb v.aa9==[]
 else if v.aa6=7 then vR (lb v.aa9)&&v.aa8.isEmpty&&v.aa7.isEmpty
 else Tc
def xa(v:Tr):Bool:=ph (cK v<=4096)&&ph (iB v<=32)
def wm(v:Tr):Bool:=xa v&&Zo zm v
def zr(v:Tr):Bool:=xa v&&Zo (λx=>decide (x.aa6≠7)&&zm x) v
structure Sm (v:Tr):Prop where
 sz:cK v<=1000000000000
 tx:kn 1048576 v
theorem Sm.item{v x:Tr}(h:Sm v)(b:x∈v.aa7):Sm x:=⟨by have:=qi b;have:=h.sz;omega,Sn h.tx b⟩
theorem Sm.aa9(h:Sm v):(lb v.aa9).length<=1048576:=by rw[mc];exact((nF _ v).1 h.tx).1.1
theorem Sm.key(h:Sm v){k:Bt}(b:k∈v.aa8):(lb k).length<=1048576:=by rw[mc];exact((nF _ v).1 h.tx).1.2.2 k b
theorem Sm.aa8(h:Sm v):v.aa8.length<=1048576:=((nF _ v).1 h.tx).1.2.1
theorem Sm.aa7(h:Sm v):v.aa7.length<=1000000000000:=by have:=we v.aa7;have:=h.sz;rw[jr]at this;omega
end
end
section
variable {gl:Fr} {l:Bs} {R:Bool -> Prop}
def yJ(n:Tabs gl)(u:l.length<=4611686018427387904){R:Int×Bool->Prop}(h:∀k,R (k,Q2 l)):ab4 gl 196 [up .str (bl l)] [.int .i64,.bool] R:=by
 apply RG;refine Py n u ⟨λo=>?_,λo=>?_⟩;simp_all;refine⟨λp=>p.1=bl l/\p.2<=DB l/\Q2 (l.drop p.2)=Tc,λp=>DB l-p.2,⟨rfl,ω,ψ o⟩,?_⟩;rintro⟨_,p⟩ ⟨rfl,r,h2⟩;simp only at r h2 ⊢;rw[Am,vU];refine⟨λf=>⟨f,f,λw=>?_,λw=>⟨?_,?_⟩⟩,λf=>?_⟩;have c:p<DB l:=ψ f
 have b:l.drop p≠[]:=λe=>by simp_all;omega
 have hb:jK (dec (l.drop p))=Tc:=by
  unfold jK;have:¬(dec (l.drop p)).1=65533:=λe=>θ
  simp[this]
 rw[Wm b,hb]at h2;simp only[zca,if_false,zeb]at h2;rw[tv l p c];have t:=Qt (l.drop p);have i:=xI b;grind;simp_all[zn];have c:p<DB l:=ψ f
 have b:l.drop p≠[]:=λe=>by simp_all;omega
 rw[zn,Vm (k:=p) rfl];refine T9 n ?_;have m:(bl (l.drop p)).size≠0:=by rw[zn];simp;omega
 have q:Lib.decodeGo (bl (l.drop p))=dec (l.drop p):=by unfold Lib.decodeGo;rw[zv m,CU,Zn,zcn]
 rw[q];refine⟨λj=>?_,λj=>?_⟩;simp_all;have hb:jK (dec (l.drop p))=Tc:=by
  unfold jK;have:¬(dec (l.drop p)).2=1:=λe=>θ
  simp[this]
 rw[Wm b,hb]at h2;simp only[zca,if_false,zeb]at h2;rw[tv l p c];have t:=Qt (l.drop p);have i:=xI b;grind;simp_all[zde,DX]
def R8(b:Tabs gl)(c:l.length<=4611686018427387904)(h:R (Q2 l)):ab4 gl 137 [up .str (bl l)] [.bool] R:=by apply VM;exact yJ b c λk=>h
def Io(b:Tabs gl)(c:l.length<=4611686018427387904)(h:R (Q2 l)):ab4 gl 149 [up .str (bl l)] [.bool] R:=by apply N1;exact yJ b c λk=>h
def Ie(b:l.length<=4611686018427387904){R:Int×Bool->Prop}(h:∀k,R (k,Q2 l)):ab4 gl 203 [up .str (bl l)] [.int .i64,.bool] R:= OK (by rw[zn];omega) λk=>θ
def Mm(b:l.length<=4611686018427387904)(h:R (Q2 l)):ab4 gl 224 [up .str (bl l)] [.bool] R:=by apply MH;exact Ie b λk=>h
structure GL (gl:Fr):Prop where
 tabs:Tabs gl
 pow:sU gl
 max:y6 gl
 err:JK gl
def Qu(s:Bs)(f:s.length<=1152921504606846976):(qm s).1.2.1.length<=4611686018427387904:=by
 unfold qm;split;simp;rename_i x c;have h1:=Dv c;split;simp;split;simp;simp only;generalize (ite (x.low=Ta) (-(zu (x.exp.dropWhile (· == 48)):Int)) (zu (x.exp.dropWhile (· == 48))))=e;split;simp;rename_i b;have h2:(x9 (x.whole++x.rest)).length<=(x.whole++x.rest).length:=by unfold x9;rw[List.length_reverse];refine zb8 (w8 _ _) ?_;rw[List.length_reverse];exact w8 _ _
 grind
def A1(f:GL gl){s:Bs}(b:s.length<=1152921504606846976){R:(Bool×Bt×Int)×Bool->Prop}(h:R (kQ (iZ s).1,(iZ s).2)):ab4 gl 148 [up .str (bl s)] [tN,.bool] R:=by
 apply XX;refine Mk b ?_;refine⟨λt=>t=bl (Qa (qm s).1),λ_=>Gj f.pow (Qu s b) rfl,λr c=>?_⟩;have e:(cond ((qm s).2==0) (r.toList==(bl s).toList) Tc)=(iZ s).2:=by
  unfold iZ;cases hc:((qm s).2==0)with
  |false=>rfl
  |true=>rw[c hc,zK,kR];rfl
 simp only at e ⊢;rw[e];exact h
def PK{s:Bs}(b:s.length<=1152921504606846976){R:(Bool×Bt×Int)×Bool->Prop}(h:R (kQ (iZ s).1,(iZ s).2)):ab4 gl 223 [up .str (bl s)] [tN,.bool] R:=by
 apply Of;refine SU b ?_;refine⟨λt=>t=bl (Qa (qm s).1),λ_=>Oi (Qu s b) rfl,λr c=>?_⟩;have e:(cond ((qm s).2==0) (r.toList==(bl s).toList) Tc)=(iZ s).2:=by
  unfold iZ;cases hc:((qm s).2==0)with
  |false=>rfl
  |true=>rw[c hc,zK,kR];rfl
 simp only at e ⊢;rw[e];exact h
theorem OF(n:Nat):Lib.repeatL [48] n=zcr n 48:=by
 induction n with
 |zero=>rfl
 |succ n b=>rw[Lib.repeatL,b];rfl
def VC(x:GL gl){n:Nm}(B:n.2.1.length<=4611686018427387904){R:Int×Bool->Prop}(h:R (qJ n)):ab4 gl 209 [up tN (kQ n)] [.int .i64,.bool] R:=by
 apply O4;refine C6 B ?_;unfold qJ at h;cases hr:yh n with
 |false=>rw[hr]at h;exact⟨λ_=>ψ h,λk=>by simp at k⟩
 |true=>
  have⟨C,A,z⟩:=Xo hr;rw[hr]at h;simp only[zce]at h;simp only[zn];rw[fK ω];refine⟨λk=>?_,λk=>?_⟩;grind;have u:0<=n.2.2/\(DB n.2.1:Int)+n.2.2<=19:=by simp at k;omega
  rw[zA φ]at h;rw[<-EI]at h;obtain⟨e,q⟩:∃e:Nat,n.2.2=(e:Int):=⟨n.2.2.toNat,ω⟩;show ab4 gl 200 [up .str (bl [48]),up PJ n.2.2] [.str] _;rw[q];refine AM ω (by rw[zn];simp;omega) ?_;rw[Zn,OF,qo];have i:n.2.1++zcr e 48=Zk n:=by rw[Zk,q,zag]
  have j:(Zk n).length<=19:=by rw[<-i];simp;omega
  have o:=KZ hr;rw[i];refine⟨Xq (a:=n.2.1) η,?_⟩;rw[show(⟨#[]⟩:Bt)=bl []from rfl,show(⟨#[45]⟩:Bt)=bl [45]from rfl];simp only[qo];intro K y;have key:∀t:Bs,t=(ite n.1 [45] [])++Zk n->K (bl t):=by
   intro t c;refine y _ ⟨λhz=>?_,λhz=>?_⟩;have m:t=[]:=by have:=kR t [];rw[this]at hz;simpa using hz
   rw[m]at c;have f:n.1=Tc:=by cases hb:n.1 <;> simp[hb]at c;rfl
   have b:Zk n=[]:=by simp[f]at c;exact c
   rw[f,b]at h;exact h;have w:t≠[]:=by intro e;rw[e,kR]at hz;simp at hz
   refine Ph x.err (by grind [zn]) ?_;rw[Zn,c];have b:Zk n≠[]:=by
    intro p;cases hb:n.1 with
    |false=>simp_all
    |true=>
     have r:n.2.1=[]:=by rw[Zk]at p;exact(List.append_eq_nil_iff.1 p).1
     have:=Lx hr r;unfold X8 at this;simp_all
   unfold AJ;rw[Nj n.1 o j b];grind
  refine⟨λl=>⟨Xq (a:=[45]) φ,?_⟩,λl=>?_⟩;simp_all;simp_all
end
end Go.X
namespace Go.Proofs.YtplilfikcimcbaaGreatDoor
section
open Go.ChangeShapes Go.WideShapes Go.ChangeAt Go.RowKit Go.Lib
open Go.ChangeMaps (open_string shut_string)
set_option linter.all false
section
variable {H:Type} {g:Nat} {t:Nw}
theorem Tryz.own:ownKnob zbe.godebug=none:=κ
theorem Tryz.laidOut:laidOutB zbe=true:=κ
def YP{enc:Nw×Value->H}{a:Assume}{C:Checked}{os:Os}{f:n4}{fn:Func}{s:ChangeSpec}{n:List PathCond}{apart fresh h l:Bool}{X:Nd->Array Value->Prop} (J:∀(w w':Nd) (args:ac2),w.heap=w'.heap->X w args->X w' args) (own:ownKnob C.prog.godebug=none) (m:os.Started) (p:C.prog.inits.idxOf? f=none) (F:C.prog.funcs[f]?=some fn) (o:∃(w:Nd) (b:Tape) (i:Input),w.os=os/\(w.forCall b i).Shaped C.prog/\i.vars=[]/\Input.okWide C.prog (w.forCall b i) .any w.heap.size f i/\((s.pre enc C.prog fn n apart (w.forCall b i).memory i.args/\X (w.forCall b i).memory i.args)/\sizedMet enc C.prog fn (OpenSpec.ofChange s) apart (w.forCall b i).memory i.args)/\a.holds C.prog (lone (Frame.enter C.prog f i.args .normal) [] (w.forCall b i))) (k:∀(W:Nd) (base:Nat) (args:ac2) (y x:List (DataW H)) (c:List MemPlace),(∀(j:Nat) t v,fn.params[j]?=some t->args[j]?=some v->Value.okWide C.prog W .any base t v)->DataW.Whole enc C.prog fn.params.toList s.vars apart W args.toList y x c->(DataW.weightsEach C.prog (fn.params.toList++s.plain.varTypes C.prog) (y++x)).all (·<=reachBytes)=true->X W args->W.ShapedOpen C.prog->Calls C.prog f args W λe G=>∃v,e=.returned v/\s.post enc C.prog fn apart fresh h l W args v G):ReturnsInHanded a C os f .any (λw args=>(s.pre enc C.prog fn n apart w args/\X w args)/\sizedMet enc C.prog fn (OpenSpec.ofChange s) apart w args) (s.post enc C.prog fn apart fresh h l):=by refine returnsInHanded_of_calls own m p o ?_;intro w b i _ D _ B u z;have⟨_,_,_,E,r,_,_,_,_,q⟩:=B;have e:E=fn:=za9 (r.symm.trans F);subst e;have⟨⟨⟨y,x,c,I,O⟩,M⟩,hz⟩:=u;have A:=DataW.Whole.of_heap (w':=w.forCall b i) (by rfl) I;refine(k (w.forCall b i) w.heap.size i.args y x c q A (hz.weights I) (J _ _ _ (by rfl) M) D).mono λe G ⟨v,N,L⟩=>?_;subst N;exact ChangeSpec.post_blind L
def yV{P:EM}{W:Nd}{n:String}{k:IntKind}{l:ad4}{t e:Nw}{m:Nat}(o:P.globalNamed n=some g)(r:(P.globals[g]?).map (·.type)=some t)(u:P.underlying t=some (.array m e))(w:P.underlying e=some (.int k))(c:P.cellsOf e=1) (j:P.cellsOf t=m) (h:VarReads P W n (tabData k l)):∃cs:Array Value,Fz W g=some cs/\cs.toList=l.map λz=>zby k z:=by have⟨g',t',cs,a,p,i,f,b,q⟩:=h;obtain rfl:=za9 (o.symm.trans i);obtain rfl:=za9 (r.symm.trans f);exact⟨cs,Fz.var o b,cells_of_tab u w c j q⟩
def qcz{W : Nd}(h : VarReads Tryz.prog W "unicode/utf8.first" Pinned.utf8First):∃ cs : Array Value, Fz W 0 = some cs ∧ ∀ c, c < 256 → cs[c]? = some (.int .u8 (Lib.firstT c)) := by rw[Pinned.utf8First_eq]at h;have⟨cs,h1,h2⟩:=yV (g:=0) (t:=305) (e:=5) (m:=256) κ κ κ κ κ κ h;refine⟨cs,h1,λc hc=>?_⟩;rw[<-Array.getElem?_toList,h2];simp[firstTab,hc]
def z7s{W : Nd}(h : VarReads Tryz.prog W "unicode/utf8.acceptRanges" acceptData):∃ cs : Array Value, Fz W 1 = some cs ∧ ∀ i, i < 16 → cs[2 * i]? = some (.int .u8 (Lib.accLo i)) ∧ cs[2 * i + 1]? = some (.int .u8 (Lib.accHi i)) := by
 have⟨g,t,cs,l,p,hg,e,c,hd⟩:=h;obtain rfl := Option.some.inj ((show Tryz.prog.globalNamed "unicode/utf8.acceptRanges" = some 1 by kernel_rfl).symm.trans hg);obtain rfl:=Option.some.inj ((show(Tryz.prog.globals[1]?).map (·.type)=some 308 by kernel_rfl).symm.trans e);refine⟨cs,Fz.var hg c,λi hi=>?_⟩;have⟨k,d,q,a,he⟩:=array_elem (show Tryz.prog.underlying 308=some (.array 16 307)by kernel_rfl) hd i hi;simp only[List.getElem?_map,List.getElem?_range hi,Option.map_some,Option.some.injEq]at a;subst a;have hc:Tryz.prog.cellsOf 307=2:=κ
 have c5:zbe.cellsOf 5=1:=κ
 have u5:zbe.underlying 5=some (.int .u8):=κ
 rw[hc]at he;have b:=ints_of_struct Tryz.underlying307 (λj f hj=>by
  match j,hj with
  |0,hj=>simp at hj;subst hj;exact⟨u5,rfl,c5⟩
  |1,hj=>simp at hj;subst hj;exact⟨u5,rfl,c5⟩
  |j+2,hj=>simp at hj) (π hc) he
 have e0:=congrArg (·[0]?) b;have e1:=congrArg (·[1]?) b;simp only[List.getElem?_take,List.getElem?_drop]at e0 e1;constructor;rw[<-zb5];simpa[ze1]using e0;rw[<-zb5];simpa[ze1]using e1
def TM{W : Nd}{d : DataW Unit}(hd : d = tabData .u64 Lib.pow10Tab)(h : VarReads Tryz.prog W "internal/strconv.uint64pow10" d):sU (Fz W) := by subst hd;have⟨cs,h1,h2⟩:=yV (g:=2) (t:=349) (e:=178) (m:=20) κ κ κ κ κ κ h;exact⟨_,cs,κ,h1,by rw[<-h2]⟩
def FT{W:Nd}{n:String}{ms:Array (String×Nw)}{m:String}{d:DataW Unit}(j:zbe.globalNamed n=some g)(q:(zbe.globals[g]?).map (·.type)=some t)(o:zbe.underlying t=some (.interface ms))(h:VarReads zbe W n (.iface m d)):∃(cs:ac2) (e:Value),Fz W g=some cs/\cs[0]?=some e/\(e=.nilIface\/∃l r,e=.iface l r):=by have⟨g',t',cs,a,p,i,c,b,k⟩:=h;obtain rfl:=za9 (j.symm.trans i);obtain rfl:=za9 (q.symm.trans c);have⟨w,u,v,f,_,_⟩:=iface_of_trod o k;exact⟨cs,.iface u v,Fz.var j b,by rw[<-zb5,f];rfl,.inr ⟨u,v,rfl⟩⟩
def S2{W:Nd}(h:W.ShapedOpen zbe):y6 (Fz W):=by have⟨m,f⟩:=cell_of_shapedOpen_int (P:=zbe) (g:=3) (t:=3) (zero:=#[ab9 0]) (k:=.i64) h (by decide +kernel) κ rfl κ κ κ;have⟨b,o,c,e,h1,h2⟩:=Fz.cell f;cases e;exact⟨c,m,h1,h2⟩
def lU:List (String×DataW Unit):=Rows.diffReportsRow.laid
def MG{W:Nd}(h:laidMetH zbe lU W)(f:W.ShapedOpen zbe):GL (Fz W):=by
 have c:laidMet zbe lU W:=by rw[MakeChecks.laidMetH_plain _ _ _ κ]at h;exact h
 have b:∀(i:Nat) (n:String) (d:DataW Unit),lU[i]?=some (n,d)->VarReads zbe W n d:=λi n d e=>Go.Lib.laidMet.reads c (List.mem_of_getElem? e);exact {
  tabs:=⟨qcz (b 6 _ _ rfl),z7s (by
   have e:(Rows.laid_unicode_utf8_acceptRanges:DataW Unit)=acceptData:=κ
   rw[<-e];exact b 3 _ _ rfl)⟩
  pow:=TM κ (b 2 _ _ rfl)
  max:=S2 f
  err:=⟨FT (g:=4) (t:=91) κ κ Tryz.underlying91 (b 5 _ _ rfl),FT (g:=5) (t:=91) κ κ Tryz.underlying91 (b 4 _ _ rfl)⟩ }
noncomputable def DO(os:Os):Nd:=World.laidAll zbe os lU
def Vw(os:Os)(args:ac2):((DO os).forCall (λ_ _=>0) ⟨#[],args,[]⟩).Shaped zbe:=World.shaped_of_ZipB κ κ
def My(os:Os)(args:ac2):laidMetH zbe lU ((DO os).forCall (λ_ _=>0) ⟨#[],args,[]⟩).memory:=by rw[MakeChecks.laidMetH_plain _ _ _ κ];exact laidMet_laidAll _ κ κ
def Hh{enc:Nw×Value->H}{W:Nd}{sp:Nat->Bool}{held:Bool}(fuel:Nat)(cs:ac1)(x:DataW H×List MemPlace)(h:DataW.trod enc zbe W 0 sp held fuel 25 cs=some x)(b:oF zbe 25 x.1):∃t:Tr,Rd (Fz W) .tree t cs:= YE (tk:=3) (ts:=9) (tss:=22) (tvs:=23) Tryz.underlying25 κ ⟨rfl,rfl,rfl,rfl,rfl,rfl,rfl,rfl⟩ κ κ κ κ κ κ κ κ (by decide +kernel) (by decide +kernel) fuel cs x h b
def I4{ts:List Nw}{b:List (DataW H)}(h:(DataW.weightsEach zbe ts b).all (·<=reachBytes)=true){j:Nat}{d:DataW H}(e:ts[j]?=some t)(c:b[j]?=some d):oF zbe t d:=λn f=>by have:=zbl.1 h n (DataW.weights_mem_each e c n f);simpa using this
end
end
end Go.Proofs.YtplilfikcimcbaaGreatDoor
namespace Go.X
section
section
def WW(f:Int)(e:Int)(h:zc)(R:vvv) (H:ab3 249 #[iV f,iV e] h (λa b=>∃c,a=.string c/\R (ab5 c) b)):ab3 199 #[ab9 f,ab9 e] h R:=XF ⟨[],[],[]⟩ [.tmp 4] 8 func199 H
def Z8(b:Int)(h:zc)(R:vvv) (H:R (ab8 ((w6 (((zcd (zbw .i64) b) &&& (zcd (zbw .i64) (w6 (b-1)))).toNat:Int):Int)==0)) h):ab3 354 #[ab9 b] h R:=XF ⟨[],[],[]⟩ [.tmp 2] 8 func354 H
def Jc(i:Int)(h:zc)(R:vvv) (H:(Tc=Ta->ab3 383 #[.int .u32 (zaa .u32 i)] h (λa b=>∃c,a=iV c/\R (iV c) b))/\(Tc=Tc->ab3 384 #[.int .u64 i] h (λd e=>∃f,d=iV f/\R (iV f) e))):ab3 355 #[.int .u64 i] h R:=XF ⟨[],[],[]⟩ [.tmp 2] 8 func355 H
def Yb(c:Int)(h:zc)(R:vvv) (H:((c==0)=Ta->R (iV 64) h)/\((c==0)=Tc->∃a:n8,(Td ⟨7,0,Te⟩=Td a/\0<=((zaa .u64 ((zaa .u64 (((zcd (zbw .u64) c) &&& (zcd (zbw .u64) (zaa .u64 (0-c)))).toNat:Int))*285870213051353865):Int).fdiv (2 ^ 58):Int)/\((zaa .u64 ((zaa .u64 (((zcd (zbw .u64) c) &&& (zcd (zbw .u64) (zaa .u64 (0-c)))).toNat:Int))*285870213051353865):Int).fdiv (2 ^ 58):Int)<((64:Nat):Int))/\∃b,zd h (a.add (((zaa .u64 ((zaa .u64 (((zcd (zbw .u64) c) &&& (zcd (zbw .u64) (zaa .u64 (0-c)))).toNat:Int))*285870213051353865):Int).fdiv (2 ^ 58):Int).toNat*1))=Td (.int .u8 b)/\R (iV (w6 b)) h)):ab3 384 #[.int .u64 c] h R:=XF ⟨[],[],[]⟩ [.tmp 2] 14 func384 H
def XU(e:Int)(h:zc)(R:vvv) (H:∀a:Bool->zc->Prop,(∀b:Bool,∀c:zc,((b=Ta->R (.int .u8 (zaa .u8 e)) c)/\(b=Tc->((e==8)=Ta->R (.int .u8 98) c)/\((e==8)=Tc->((e==12)=Ta->R (.int .u8 102) c)/\((e==12)=Tc->((e==10)=Ta->R (.int .u8 110) c)/\((e==10)=Tc->((e==13)=Ta->R (.int .u8 114) c)/\((e==13)=Tc->((e==9)=Ta->R (.int .u8 116) c)/\((e==9)=Tc->R (.int .u8 0) c)))))))->a b c)->((e==34)=Ta->a (e==34) h)/\((e==34)=Tc->a (e==92) h)):ab3 197 #[.int .i32 e] h R:=XF ⟨[],[],[(4,[(4,.one (.bool))])]⟩ [.tmp 2] 19 func197 H
end
section
def YN(s0:Bt)(h:zc)(R:vvv) (H:ab3 196 #[ab5 s0] h (λa b=>∃c d,a=.tuple #[iV c,ab8 d]/\((!d)=Ta->R (.tuple #[ab5 (⟨#[]⟩:Bt),iV 2]) b)/\((!d)=Tc->let e:=b.push (.cells #[.pointer Te,.slice Te 0 0] 89);ab3 133 #[ab6 (ab7 b),.int .u8 34] e (λf g=>∃i:Value,f=i/\let j:=g.push (.stringIter s0 0);∃(k:zc->Prop) (l:zc->Nat),k j/\∀m:zc,k m->(qq Tp (zdz (ab6 (ab7 g)) Ta 0) m (λn o=>(n=.tuple #[ab8 Tc]/\(Tc=Ta->False)/\(Tc=Tc->ab3 133 #[ab6 (ab7 b),.int .u8 34] o (λp q=>∃r:Value,p=r/\ab3 70 #[ab6 (ab7 b)] q (λs t=>∃u,s=.string u/\R (.tuple #[ab5 u,iV 0]) t))))\/∃v w:Int,n=.tuple #[ab8 Ta,iV v,.int .i32 w]/\(Ta=Ta->ab3 197 #[.int .i32 w] o (λx y=>∃z,x=.int .u8 z/\((z != 0)=Ta->ab3 133 #[ab6 (ab7 b),.int .u8 92] y (λA B=>∃C:Value,A=C/\ab3 133 #[ab6 (ab7 b),.int .u8 z] B (λD E=>∃F:Value,D=F/\(k E/\l E<l m))))/\((z != 0)=Tc->(ph (w>=32)=Ta->ab3 198 #[ab6 (ab7 b),.int .i32 w] y (λG I=>∃J,∃L:Value,G=.tuple #[iV J,L]/\(k I/\l I<l m)))/\(ph (w>=32)=Tc->ab3 199 #[iV (w6 w),iV 16] y (λM N=>∃O,M=.string O/\ab3 200 #[ab5 (⟨#[48]⟩:Bt),iV (w6 (4-(O.size:Int)))] N (λP Q=>∃S,P=.string S/\qg (((⟨#[92,117]⟩:Bt)).size+S.size)/\qg (((⟨#[92,117]⟩:Bt)++S).size+O.size)/\ab3 68 #[ab6 (ab7 b),ab5 (((⟨#[92,117]⟩:Bt)++S)++O)] Q (λT U=>∃V,∃W:Value,T=.tuple #[iV V,W]/\(k U/\l U<l m))))))))/\(Ta=Tc->ab3 133 #[ab6 (ab7 b),.int .u8 34] o (λX Y=>∃Z:Value,X=Z/\ab3 70 #[ab6 (ab7 b)] Y (λaa ab=>∃ac,aa=.string ac/\R (.tuple #[ab5 ac,iV 0]) ab))))))))):ab3 125 #[ab5 s0] h R:=XF ⟨[],[(7,[])],[]⟩ [.tmp 2,.tmp 3] 48 func125 H
def Yc(b0:Option n8)(p:Int)(h:zc)(R:vvv) (H:ab3 123 #[.pointer b0] h (λb c=>b=.tuple #[]/\∃d,b0=Td d/\∃e,zd c (zab d 1)=Td (aK e)/\∃f,b0=Td f/\∃g,zd c (zab f 1)=Td (aK g)/\ab3 248 #[aK g,.int .i32 p] c (λi j=>∃k,i=aK k/\∃l,b0=Td l/\CA Tp (zae 87 (.pointer (Td (zab l 1))) (aK k)) j (λm=>∃n,b0=Td n/\∃o,zd m (zab n 1)=Td (aK o)/\R (.tuple #[iV (w6 ((o.len:Int)-(e.len:Int))),.nilIface]) m)))):ab3 198 #[.pointer b0,.int .i32 p] h R:=XF ⟨[],[],[]⟩ [.tmp 4,.tmp 5] 30 func198 H
def Qv(aa:Sl)(u1:Int)(Y:Int)(Z:Bool)(b:Bool)(h:zc)(R:vvv) (H:∀c:zc->Prop,(∀d:zc,(let e:=d.push (.cells q0 350);∀f:Int->zc->Prop,(∀g:Int,∀i:zc,(∀j:Int->zc->Prop,(∀k:Int,∀l:zc,(∀m:Int->zc->Prop,(∀n:Int,∀o:zc,((b=Ta->(0<=n/\n<=(65:Int)/\(65:Int)<=(65:Int))/\qq Tp (zaj #[87,87] 87 #[aK aa,.slice (iy (Td (ab7 d)) 1 n.toNat 65) ((65:Int).toNat-n.toNat) (65-n.toNat)]) o (λp q=>∃r,p=aK r/\R (.tuple #[aK r,ab5 (⟨#[]⟩:Bt)]) q))/\(b=Tc->(0<=n/\n<=(65:Int)/\(65:Int)<=(65:Int))/\qq Tp (convert 87 9 (.slice (iy (Td (ab7 d)) 1 n.toNat 65) ((65:Int).toNat-n.toNat) (65-n.toNat))) o (λs t=>∃u,s=.string u/\R (.tuple #[.slice Te 0 0,ab5 u]) t)))->m n o)->(Z=Ta->∃v:n8,(Td (ab7 d)=Td v/\0<=(w6 (k-1))/\(w6 (k-1))<((65:Nat):Int))/\CA Tp (zae 5 (.pointer (Td (v.add ((w6 (k-1)).toNat*1)))) (.int .u8 45)) l (λw=>m (w6 (k-1)) w))/\(Z=Tc->m k l))->j k l)->ab3 354 #[iV Y] i (λx y=>∃z,x=.bool z/\(z=Ta->ab3 355 #[.int .u64 (zaa .u64 Y)] y (λA B=>∃C,A=iV C/\∃(D:Int->Int->zc->Prop) (E:Int->Int->zc->Nat),D g 65 B/\∀F G:Int,∀I:zc,D F G I->((ph (F>=(zaa .u64 Y))=Ta->(0<=(zaa .u64 (((zcd (zbw .u64) F) &&& (zcd (zbw .u64) (zaa .u64 ((zaa .u64 Y)-1)))).toNat:Int):Int)/\(zaa .u64 (((zcd (zbw .u64) F) &&& (zcd (zbw .u64) (zaa .u64 ((zaa .u64 Y)-1)))).toNat:Int):Int)<(((ad8:Bt)).size:Int))/\∃J:n8,(Td (ab7 d)=Td J/\0<=(w6 (G-1))/\(w6 (G-1))<((65:Nat):Int))/\CA Tp (zae 5 (.pointer (Td (J.add ((w6 (G-1)).toNat*1)))) (.int .u8 (zf (ad8:Bt) (zaa .u64 (((zcd (zbw .u64) F) &&& (zcd (zbw .u64) (zaa .u64 ((zaa .u64 Y)-1)))).toNat:Int):Int).toNat))) I (λL=>0<=(zaa .u64 C)/\(D (F.fdiv (2 ^ (min (zaa .u64 C).toNat 64))) (w6 (G-1)) L/\E (F.fdiv (2 ^ (min (zaa .u64 C).toNat 64))) (w6 (G-1)) L<E F G I)))/\(ph (F>=(zaa .u64 Y))=Tc->(0<=F/\F<(((ad8:Bt)).size:Int))/\∃M:n8,(Td (ab7 d)=Td M/\0<=(w6 (G-1))/\(w6 (G-1))<((65:Nat):Int))/\CA Tp (zae 5 (.pointer (Td (M.add ((w6 (G-1)).toNat*1)))) (.int .u8 (zf (ad8:Bt) F.toNat))) I (λN=>j (w6 (G-1)) N)))))/\(z=Tc->∃(O:Int->Int->zc->Prop) (P:Int->Int->zc->Nat),O g 65 y/\∀Q S:Int,∀T:zc,O Q S T->((ph (Q>=(zaa .u64 Y))=Ta->IntKind.u64=IntKind.u64/\(zaa .u64 Y)≠0/\(0<=(zaa .u64 (Q-(zaa .u64 ((zaa .u64 (Q.tdiv (zaa .u64 Y)))*(zaa .u64 Y)))):Int)/\(zaa .u64 (Q-(zaa .u64 ((zaa .u64 (Q.tdiv (zaa .u64 Y)))*(zaa .u64 Y)))):Int)<(((ad8:Bt)).size:Int))/\∃U:n8,(Td (ab7 d)=Td U/\0<=(w6 (S-1))/\(w6 (S-1))<((65:Nat):Int))/\CA Tp (zae 5 (.pointer (Td (U.add ((w6 (S-1)).toNat*1)))) (.int .u8 (zf (ad8:Bt) (zaa .u64 (Q-(zaa .u64 ((zaa .u64 (Q.tdiv (zaa .u64 Y)))*(zaa .u64 Y)))):Int).toNat))) T (λV=>(O (zaa .u64 (Q.tdiv (zaa .u64 Y))) (w6 (S-1)) V/\P (zaa .u64 (Q.tdiv (zaa .u64 Y))) (w6 (S-1)) V<P Q S T)))/\(ph (Q>=(zaa .u64 Y))=Tc->(0<=Q/\Q<(((ad8:Bt)).size:Int))/\∃W:n8,(Td (ab7 d)=Td W/\0<=(w6 (S-1))/\(w6 (S-1))<((65:Nat):Int))/\CA Tp (zae 5 (.pointer (Td (W.add ((w6 (S-1)).toNat*1)))) (.int .u8 (zf (ad8:Bt) Q.toNat))) T (λX=>j (w6 (S-1)) X))))))->f g i)->(Z=Ta->f (zaa .u64 (0-u1)) e)/\(Z=Tc->f u1 e))->c d)->((cond (cond (ph (Y<2)) Ta (Y==10)) Ta (ph (Y>36)))=Ta->False)/\((cond (cond (ph (Y<2)) Ta (Y==10)) Ta (ph (Y>36)))=Tc->c h)):ab3 303 #[.slice aa.a aa.len aa.cap,.int .u64 u1,ab9 Y,ab8 Z,ab8 b] h R:=XF ⟨[],[(11,[(1,.one (.int .u64)),(13,.one (.int .i64))]),(18,[(1,.one (.int .u64)),(13,.one (.int .i64))])],[(3,[]),(7,[(1,.one (.int .u64))]),(25,[(13,.one (.int .i64))]),(28,[(13,.one (.int .i64))])]⟩ [.tmp 10,.tmp 11] 102 func303 H
def Q4(B:Int)(A:Int)(h:zc)(R:vvv) (H:((A==10)=Ta->((cond (ph ((0:Int)<=B)) (ph (B<100)) Tc)=Ta->ab3 300 #[iV B] h (λb c=>∃d,b=.string d/\R (ab5 d) c))/\((cond (ph ((0:Int)<=B)) (ph (B<100)) Tc)=Tc->let e:=h.push (.cells q01 309);∀f:Int->zc->Prop,(∀g:Int,∀i:zc,(ab3 301 #[.int .u64 g] i (λj k=>∃l,j=iV l/\(0<=(1:Int)/\(1:Int)<=(w6 (1+l))/\(w6 (1+l))<=(24:Int))/\ab3 302 #[.slice (iy (Td (ab7 h)) 1 ((1:Int).toNat) 24) ((w6 (1+l)).toNat-(1:Int).toNat) (24-(1:Int).toNat),.int .u64 g] k (λm n=>m=.tuple #[]/\(ph (B<0)=Ta->∃o:n8,(Td (ab7 h)=Td o/\0<=(0:Int)/\(0:Int)<((24:Nat):Int))/\CA Tp (zae 5 (.pointer (Td (o.add ((0:Int).toNat*1)))) (.int .u8 45)) n (λp=>(0<=(0:Int)/\(0:Int)<=(w6 (1+l))/\(w6 (1+l))<=(24:Int))/\qq Tp (convert 87 9 (.slice (iy (Td (ab7 h)) 1 ((0:Int).toNat) 24) ((w6 (1+l)).toNat-(0:Int).toNat) (24-(0:Int).toNat))) p (λq r=>∃s,q=.string s/\R (ab5 s) r)))/\(ph (B<0)=Tc->(0<=(1:Int)/\(1:Int)<=(w6 (1+l))/\(w6 (1+l))<=(24:Int))/\qq Tp (convert 87 9 (.slice (iy (Td (ab7 h)) 1 ((1:Int).toNat) 24) ((w6 (1+l)).toNat-(1:Int).toNat) (24-(1:Int).toNat))) n (λt u=>∃v,t=.string v/\R (ab5 v) u)))))->f g i)->(ph (B<0)=Ta->f (zaa .u64 (0-(zaa .u64 B))) e)/\(ph (B<0)=Tc->f (zaa .u64 B) e)))/\((A==10)=Tc->ab3 303 #[.slice Te 0 0,.int .u64 (zaa .u64 B),iV A,ab8 (ph (B<0)),ab8 Tc] h (λw x=>∃y z,w=.tuple #[aK y,ab5 z]/\R (ab5 z) x))):ab3 249 #[ab9 B,ab9 A] h R:=XF ⟨[],[],[(8,[(6,.one (.int .u64))])]⟩ [.tmp 4] 54 func249 H
end
section
variable {gl:Fr} {R:Bool -> Prop}
def VK{D:Bs}(k:Nat):zu (D.take k)<=zu D:=by
 conv=>rhs;rw[<-zbz k D,Xr]
 have:1<=10 ^ (D.drop k).length:=Nat.one_le_pow _ _ ζ
 calc zu (D.take k)=zu (D.take k)*1:=ω
  _<=zu (D.take k)*10 ^ (D.drop k).length:=Nat.mul_le_mul_left _ this
  _<=_:=ω
def Uz{n:Nm}(G:n.2.1.length<=4611686018427387904){R:Int×Bool->Prop}(h:R (qJ n)):ab4 gl 225 [up tN (kQ n)] [.int .i64,.bool] R:=by
 apply NT;refine KT G ?_;unfold qJ at h;cases hr:yh n with
 |false=>simp_all
 |true=>
  have⟨N,F,E⟩:=Xo hr;rw[hr]at h;simp only[zce]at h;simp only[zn,yb];rw[fK ω];refine⟨λz=>?_,λz=>?_⟩;grind
  ·have A:0<=n.2.2/\(DB n.2.1:Int)+n.2.2<=19:=by simp at z;omega
   rw[zA φ]at h;rw[<-EI]at h;have t:=KZ hr;have q:((Zk n).length:Int)=(DB n.2.1:Int)+n.2.2:=by rw[Zk,zah,zd1];omega
   rw[<-q];have B:∀k (l:k<(Zk n).length),k<DB n.2.1->n.2.1[k]?.getD 0=(Zk n)[k]:=by intro k l c;rw[oG c];simp only[Zk];rw[zc9 c]
   have x:∀k (l:k<(Zk n).length),¬k<DB n.2.1->(Zk n)[k]=48:=by intro k l c;simp only[Zk];rw[zc6 ω,List.getElem_replicate]
   generalize Zk n=D at *;refine⟨λv i=>∃k:Nat,i=k/\k<=DB D/\v=-(zu (D.take k):Int)/\zu (D.take k)<=9223372036854775808,λ_ i=>DB D-i.toNat,⟨0,rfl,ω,by simp[zu],by simp[zu]⟩,?_⟩;rintro v i ⟨k,rfl,l,rfl,J⟩;refine⟨λp=>?_,λp=>?_⟩
   ·have b:k<DB D:=by simp at p;omega
    have M:=vK t b;have step:∀d:Int,d=(D[k].toNat:Int)-48->(True/\(10:Int)≠0/\((ph ((-(zu (D.take k):Int))<(w6 ((w6 ((-9223372036854775808)+d)).tdiv 10))))=Ta->R (0,Tc)) /\
     ((ph ((-(zu (D.take k):Int))<(w6 ((w6 ((-9223372036854775808)+d)).tdiv 10))))=Tc->((∃o:Nat,(w6 ((k:Int)+1))=o/\o<=DB D/\(w6 ((w6 (10*(-(zu (D.take k):Int))))-d))=-(zu (D.take o):Int)/\zu (D.take o)<=9223372036854775808)/\DB D-(w6 ((k:Int)+1)).toNat<DB D-((k:Int)).toNat))):=by
     intro d C;have L:0<=d/\d<=9:=ω
     obtain⟨m,H⟩:∃m:Nat,(-9223372036854775808+d:Int)=-(m:Int):=⟨(9223372036854775808-d).toNat,ω⟩;have I:(-(m:Int)).tdiv 10=-((m / 10:Nat):Int):=by rw[Int.neg_tdiv];rfl
     rw[DE (n:=-9223372036854775808+d) ω ω,H,I,DE (n:=-((m / 10:Nat):Int)) ω ω];refine⟨trivial,ω,λe=>?_,λe=>?_⟩;have r:-(zu (D.take k):Int) < -((m / 10:Nat):Int):=ψ e
     have y:9223372036854775808<zu (D.take (k+1)):=by rw[Za b];omega
     have:=VK (D:=D) (k+1);grind;have r:¬-(zu (D.take k):Int) < -((m / 10:Nat):Int):=ψ e
     have j:zu (D.take (k+1))<=9223372036854775808:=by rw[Za b];omega
     have f:=j;rw[Za b]at f;rw[qd b ω,DE (n:=10*_) ω ω,DE (n:=10*_-d) ω ω];refine⟨⟨k+1,rfl,ω,?_,j⟩,ω⟩;rw[Za b];omega
    intro K w;simp only[zag];refine⟨λe=>⟨η,w _ (step _ ?_)⟩,λe=>w _ (step _ ?_)⟩;grind [KX,fK];simp_all
   have b:k=DB D:=by simp at p;omega
   subst b;rw[za2]at J ⊢;refine⟨λhb=>?_,λhb=>⟨λe=>?_,λe=>?_⟩⟩;grind;simp_all;have u:n.1=Tc:=hb;rw[u]at h;simp only[zca,if_false]at h;rw[zA η]at h;grind [DE]
def Sx(c:GL gl){s:Bs}(b:s.length<=1152921504606846976)(h:R (vR s)):ab4 gl 150 [up .str (bl s)] [.bool] R:=by apply Uw;refine A1 c b (VC c (n:=(iZ s).1) (Qu s b) ?_);simp only[zcq];exact h
theorem qw(v:Tr):Tr.mk v.aa6 v.aa9 v.aa8 v.aa7=v:=by cases v;rfl
def Jx{l:List Tr}{k:Nat}(h:k<DB l):l[((k:Int)).toNat]?=Td l[k]:=ξ
def Lr{gl:Fr}(v:Tr)(q:cK v<=1000000000000){R:ad3}(h:R (cK v:Int)):ab4 gl 43 [up .tree v] [.int .i64] R:=by
 apply OI;have e:=we v.aa7;have m:=jr v;refine⟨λn i=>∃k:Nat,i=k/\k<=DB v.aa7/\n=((1+xc (v.aa7.take k):Nat):Int),λ_ i=>DB v.aa7-i.toNat,⟨0,rfl,ω,by simp[xc]⟩,?_⟩;rintro n i ⟨k,rfl,p,rfl⟩;refine⟨λc=>?_,λc=>?_⟩;have b:k<DB v.aa7:=by simp at c;omega
 refine⟨v.aa7[k],⟨ω,Jx b⟩,?_⟩;rw[qw];have j:v.aa7[k]∈v.aa7:=zak b;have f:=qi j;have l:xc (v.aa7.take (k+1))<=xc v.aa7:=by have:=Xs (v.aa7.take (k+1)) (v.aa7.drop (k+1));rw[zbz]at this;omega
 have o:=Iw b;refine Lr (v.aa7[k]) ω ?_;rw[qd b ω,fK ω];grind;grind
termination_by cK v
def AI{gl:Fr}(v:Tr)(q:cK v<=1000000000000){R:ad3}(h:R (cK v:Int)):ab4 gl 102 [up .tree v] [.int .i64] R:=by
 apply zfj;have e:=we v.aa7;have m:=jr v;refine⟨λn i=>∃k:Nat,i=k/\k<=DB v.aa7/\n=((1+xc (v.aa7.take k):Nat):Int),λ_ i=>DB v.aa7-i.toNat,⟨0,rfl,ω,by simp[xc]⟩,?_⟩;rintro n i ⟨k,rfl,p,rfl⟩;refine⟨λc=>?_,λc=>?_⟩;have b:k<DB v.aa7:=by simp at c;omega
 refine⟨v.aa7[k],⟨ω,Jx b⟩,?_⟩;rw[qw];have j:v.aa7[k]∈v.aa7:=zak b;have f:=qi j;have l:xc (v.aa7.take (k+1))<=xc v.aa7:=by have:=Xs (v.aa7.take (k+1)) (v.aa7.drop (k+1));rw[zbz]at this;omega
 have o:=Iw b;refine AI (v.aa7[k]) ω ?_;rw[qd b ω,fK ω];grind;grind
termination_by cK v
def Hw{gl:Fr}(v:Tr)(r:cK v<=1000000000000){R:ad3}(h:R (iB v:Int)):ab4 gl 144 [up .tree v] [.int .i64] R:=by
 apply V3;have e:=we v.aa7;have o:=jr v;have f:=uF v.aa7;have m:=lX v;refine⟨λn i=>∃k:Nat,i=k/\k<=DB v.aa7/\n=((ie (v.aa7.take k):Nat):Int),λ_ i=>DB v.aa7-i.toNat,⟨0,rfl,ω,by simp[ie]⟩,?_⟩;rintro n i ⟨k,rfl,q,rfl⟩;refine⟨λc=>?_,λc=>?_⟩;have b:k<DB v.aa7:=by simp at c;omega
 refine⟨v.aa7[k],⟨ω,Jx b⟩,?_⟩;rw[qw];have l:v.aa7[k]∈v.aa7:=zak b;have j:=qi l;have p:=K9 b;refine Hw (v.aa7[k]) ω ?_;rw[qd b ω];refine⟨⟨k+1,rfl,ω,?_⟩,η⟩;omega;grind [fK]
termination_by cK v
def AL{gl:Fr}(v:Tr)(r:cK v<=1000000000000){R:ad3}(h:R (iB v:Int)):ab4 gl 103 [up .tree v] [.int .i64] R:=by
 apply XD;have e:=we v.aa7;have o:=jr v;have f:=uF v.aa7;have m:=lX v;refine⟨λn i=>∃k:Nat,i=k/\k<=DB v.aa7/\n=((ie (v.aa7.take k):Nat):Int),λ_ i=>DB v.aa7-i.toNat,⟨0,rfl,ω,by simp[ie]⟩,?_⟩;rintro n i ⟨k,rfl,q,rfl⟩;refine⟨λc=>?_,λc=>?_⟩;have b:k<DB v.aa7:=by simp at c;omega
 refine⟨v.aa7[k],⟨ω,Jx b⟩,?_⟩;rw[qw];have l:v.aa7[k]∈v.aa7:=zak b;have j:=qi l;have p:=K9 b;refine AL (v.aa7[k]) ω ?_;rw[qd b ω];refine⟨⟨k+1,rfl,ω,?_⟩,η⟩;omega;grind [fK]
termination_by cK v
def FZ{v:Tr}(b:Sm v)(h:R (xa v)):ab4 gl 86 [up .tree v] [.bool] R:=by
 apply znm;rw[qw];refine Lr v b.sz ⟨λr=>r=(iB v:Int),λ_=>Hw v b.sz rfl,λr c=>?_⟩;have e:(cond (ph ((cK v:Int)<=4096)) (ph (r<=32)) Tc)=xa v:=by
  unfold xa;cases hc:ph ((cK v:Int)<=4096)with
  |false=>grind
  |true=>grind
 rw[e];exact h
end
section
def YI(w:Sl)(x:Int)(h:zc)(R:vvv) (H:let b:=h.push (.map #[] 0);∃(c:ac5) (d:ac7),c 0 b/\∀e:Int,∀f:zc,c e f->((ph (e<w.len)=Ta->∃g,(w.a=Td g/\0<=e/\e<w.len)/\∃i,zd f (g.add (e.toNat*1))=Td (ab5 i)/\∃j,Bk Tp (zcy 213 (.map (Td h.size)) (ab5 i) Tc) f (ab8 j)/\∃k:vvv,((!j)=Ta->ab3 149 #[ab5 i] f (λl m=>∃n,l=.bool n/\k (ab8 n) m))/\((!j)=Tc->∃o,k (ab8 o) f)/\((!j)=Ta->∀p q,k p q->∃r,p=.bool r)/\∀s:Bool,∀t,k (ab8 s) t->((cond j Ta (!s))=Ta->R (ab8 Tc) t)/\((cond j Ta (!s))=Tc->CA Tp (zct 213 (.map (Td h.size)) (ab5 i) (ab8 Ta)) t (λu=>(c (w6 (e+1)) u/\d (w6 (e+1)) u<d e f))))/\(ph (e<w.len)=Tc->R (ab8 ((w.len:Int)==x)) f))):ab3 147 #[.slice w.a w.len w.cap,ab9 x] h R:=XF ⟨[],[(3,[(13,.one (.int .i64))])],[]⟩ [.tmp 4] 32 func147 H
def j8(j:Sl)(f:n4)(e:ac2)(i:ac2)(h:zc)(R:vvv) (H:ab3 208 #[aK j,.func (.func f) e i] h (λb c=>∃d,b=iV d/\R (ab8 (ph (d>=0))) c)):ab3 145 #[.slice j.a j.len j.cap,.func (.func f) e i] h R:=XF ⟨[],[],[]⟩ [.tmp 4] 9 func145 H
def wv(p:Sl)(o:n4)(q:ac2)(r:ac2)(h:zc)(R:vvv) (H:∃(b:ac5) (c:ac7),b 0 h/\∀d:Int,∀e:zc,b d e->((ph (d<p.len)=Ta->∃f,(p.a=Td f/\0<=d/\d<p.len)/\∃g i j k,ze e (f.add (d.toNat*4)) 0 (tL g i j k)/\zy Tp o=Ta/\ab3 o (q++#[tA g i j k]++r) e (λl m=>∃n,l=.bool n/\(n=Ta->R (iV d) m)/\(n=Tc->(b (w6 (d+1)) m/\c (w6 (d+1)) m<c d e))))/\(ph (d<p.len)=Tc->R (iV (-1)) e))):ab3 208 #[.slice p.a p.len p.cap,.func (.func o) q r] h R:=XF ⟨[],[(2,[(8,.one (.int .i64))])],[]⟩ [.tmp 4] 19 func208 H
def Oy(b:Int)(c:Bt)(d:Sl)(e:Sl)(c1:n8)(h:zc)(R:vvv) (H:let f:=h.push (.cells #[iV b,ab5 c,aK d,aK e] 25);∃g i j k,ze f (ab7 h) 0 (tL g i j k)/\∃l:Value,zd f c1=Td l/\ab3 87 #[tA g i j k,l] f (λm n=>∃o,m=.bool o/\R (ab8 (!o)) n)):ab3 146 #[.agg #[ab9 b,ab5 c,.slice d.a d.len d.cap,.slice e.a e.len e.cap],ab6 c1] h R:=XF ⟨[],[],[]⟩ [.tmp 3] 8 func146 H
def MJ(b:Int)(c:Bt)(d:Sl)(e:Sl)(E:n4)(D:ac2)(F:ac2)(h:zc)(R:vvv) (H:let f:=h.push (.cells #[iV b,ab5 c,aK d,aK e] 25);let g:=f.push (.cells #[.func (.func E) D F] 37);∃i:Value,zd g (ab7 f)=Td i/\∃j k l m,ze g (ab7 h) 0 (tL j k l m)/\mG Tp i #[tA j k l m] (λn o=>ab3 n o g (λp q=>∃r,p=.bool r/\∃s,(r=Ta->zd q (zab (ab7 h) 3)=Td (aK s))/\∃t:vvv,(r=Ta->ab3 145 #[aK s,.func (.func 146) #[] #[ab6 (ab7 f)]] q (λu v=>∃w,u=.bool w/\t (ab8 w) v))/\(r=Tc->∃x,t (ab8 x) q)/\(r=Ta->∀y z,t y z->∃A,y=.bool A)/\∀B:Bool,∀C,t (ab8 B) C->R (ab8 (cond r (!B) Tc)) C))):ab3 87 #[.agg #[ab9 b,ab5 c,.slice d.a d.len d.cap,.slice e.a e.len e.cap],.func (.func E) D F] h R:=XF ⟨[],[],[]⟩ [.tmp 4] 15 func87 H
def QQ(b:Int)(c:Bt)(d:Sl)(e:Sl)(h:zc)(R:vvv) (H:let f:=h.push (.cells #[iV b,ab5 c,aK d,aK e] 25);∃g i j k,ze f (ab7 h) 0 (tL g i j k)/\ab3 86 #[tA g i j k] f (λl m=>∃n,l=.bool n/\∃o p q r,(n=Ta->ze m (ab7 h) 0 (tL o p q r))/\∃s:vvv,(n=Ta->ab3 87 #[tA o p q r,.func (.func 89) #[] #[]] m (λt u=>∃v,t=.bool v/\s (ab8 v) u))/\(n=Tc->∃w,s (ab8 w) m)/\(n=Ta->∀x y,s x y->∃z,x=.bool z)/\∀A:Bool,∀B,s (ab8 A) B->R (ab8 (cond n A Tc)) B)):ab3 83 #[.agg #[ab9 b,ab5 c,.slice d.a d.len d.cap,.slice e.a e.len e.cap]] h R:=XF ⟨[],[],[]⟩ [.tmp 2] 9 func83 H
def xj(j:Sl)(f:n4)(e:ac2)(i:ac2)(h:zc)(R:vvv) (H:ab3 206 #[aK j,.func (.func f) e i] h (λb c=>∃d,b=iV d/\R (ab8 (ph (d>=0))) c)):ab3 135 #[.slice j.a j.len j.cap,.func (.func f) e i] h R:=XF ⟨[],[],[]⟩ [.tmp 4] 9 func135 H
def Zw(m:Sl)(l:n4)(n:ac2)(o:ac2)(h:zc)(R:vvv) (H:∃(b:ac5) (c:ac7),b 0 h/\∀d:Int,∀e:zc,b d e->((ph (d<m.len)=Ta->∃f,(m.a=Td f/\0<=d/\d<m.len)/\∃g,zd e (f.add (d.toNat*1))=Td (ab5 g)/\zy Tp l=Ta/\ab3 l (n++#[ab5 g]++o) e (λi j=>∃k,i=.bool k/\(k=Ta->R (iV d) j)/\(k=Tc->(b (w6 (d+1)) j/\c (w6 (d+1)) j<c d e))))/\(ph (d<m.len)=Tc->R (iV (-1)) e))):ab3 206 #[.slice m.a m.len m.cap,.func (.func l) n o] h R:=XF ⟨[],[(2,[(8,.one (.int .i64))])],[]⟩ [.tmp 4] 19 func206 H
def Om(e:Bt)(h:zc)(R:vvv) (H:ab3 137 #[ab5 e] h (λa b=>∃c,a=.bool c/\R (ab8 (!c)) b)):ab3 136 #[ab5 e] h R:=XF ⟨[],[],[]⟩ [.tmp 2] 6 func136 H
def Sq(m:Sl)(h:zc)(R:vvv) (H:∃b:vvv,(ph ((m.len:Int)<=64)=Ta->ab3 135 #[aK m,.func (.func 136) #[] #[]] h (λc d=>∃e,c=.bool e/\b (ab8 e) d))/\(ph ((m.len:Int)<=64)=Tc->∃f,b (ab8 f) h)/\(ph ((m.len:Int)<=64)=Ta->∀g i,b g i->∃j,g=.bool j)/\∀k:Bool,∀l,b (ab8 k) l->R (ab8 (cond (ph ((m.len:Int)<=64)) (!k) Tc)) l):ab3 78 #[.slice m.a m.len m.cap] h R:=XF ⟨[],[],[]⟩ [.tmp 2] 11 func78 H
def Sp(b:Int)(c:Bt)(d:Sl)(e:Sl)(h:zc)(R:vvv) (H:let f:=h.push (.cells #[iV b,ab5 c,aK d,aK e] 25);let g:=f.push (.cells tC 25);∃i,zd g (zab (ab7 h) 2)=Td (aK i)/\∃j,zd g (zab (ab7 h) 3)=Td (aK j)/\ab3 210 #[aK i] g (λk l=>∃m,k=aK m/\hZ l g (zab (ab7 h) 3)/\ab3 211 #[aK j] l (λn o=>∃p,n=aK p/\CA Tp (zae 22 (.pointer (Td (zab (ab7 h) 2))) (aK m)) o (λq=>CA Tp (zae 23 (.pointer (Td (zab (ab7 h) 3))) (aK p)) q (λr=>∃s,zd r (zab (ab7 h) 3)=Td (aK s)/\∃(t:ac5) (u:ac7),t 0 r/\∀v:Int,∀w:zc,t v w->((ph (v<s.len)=Ta->∃x,(s.a=Td x/\0<=v/\v<s.len)/\∃y z A B,ze w (x.add (v.toNat*4)) 0 (tL y z A B)/\let C:=w.push (.cells tC 25);CA Tp (zae 25 (ab6 (ab7 w)) (tA y z A B)) C (λD=>∃E,zd D (zab (ab7 h) 3)=Td (aK E)/\∃F G I J,ze D (ab7 w) 0 (tL F G I J)/\ab3 151 #[tA F G I J] D (λL M=>∃N O P Q,L=tA N O P Q/\∃S,(E.a=Td S/\0<=v/\v<E.len)/\hZ M D (zab (ab7 h) 3)/\CA Tp (zae 25 (.pointer (Td (S.add (v.toNat*4)))) (tA N O P Q)) M (λT=>(t (w6 (v+1)) T/\u (w6 (v+1)) T<u v w)))))/\(ph (v<s.len)=Tc->∃U V W X,ze w (ab7 h) 0 (tL U V W X)/\CA Tp (zae 25 (ab6 (ab7 f)) (tA U V W X)) w (λY=>∃Z aa ab ac,ze Y (ab7 f) 0 (tL Z aa ab ac)/\R (tA Z aa ab ac) Y)))))))):ab3 151 #[.agg #[ab9 b,ab5 c,.slice d.a d.len d.cap,.slice e.a e.len e.cap]] h R:=XF ⟨[(1,8000),(5,8000)],[(3,[(16,.one (.int .i64))])],[]⟩ [.cell 2 25] 29 func151 H
def Q5(f:Sl)(h:zc)(R:vvv) (H:(f.a.isNone=Ta->R (.slice Te 0 0) h)/\(f.a.isNone=Tc->let b:=h.push (.cells #[] 9);qq Tp (zaj #[22,22] 22 #[.slice (Td (ab7 h)) 0 0,aK f]) b (λc d=>∃e,c=aK e/\R (aK e) d))):ab3 210 #[.slice f.a f.len f.cap] h R:=XF ⟨[],[],[]⟩ [.tmp 2] 8 func210 H
def Zc(f:Sl)(h:zc)(R:vvv) (H:(f.a.isNone=Ta->R (.slice Te 0 0) h)/\(f.a.isNone=Tc->let b:=h.push (.cells #[] 25);qq Tp (zaj #[23,23] 23 #[.slice (Td (ab7 h)) 0 0,aK f]) b (λc d=>∃e,c=aK e/\R (aK e) d))):ab3 211 #[.slice f.a f.len f.cap] h R:=XF ⟨[],[],[]⟩ [.tmp 2] 8 func211 H
def RJ(b:Int)(c:Bt)(d:Sl)(e:Sl)(h:zc)(R:vvv) (H:let f:=h.push (.cells #[iV b,ab5 c,aK d,aK e] 25);let g:=f.push (.cells tC 25);∃i j k l,ze g (ab7 h) 0 (tL i j k l)/\ab3 83 #[tA i j k l] g (λm n=>∃o,m=.bool o/\((!o)=Ta->CA Tp (zae 25 (ab6 (ab7 f)) (tZ)) n (λp=>∃q r s t,ze p (ab7 f) 0 (tL q r s t)/\R (tA q r s t) p))/\((!o)=Tc->∃u v w x,ze n (ab7 h) 0 (tL u v w x)/\ab3 151 #[tA u v w x] n (λy z=>∃A B C D,y=tA A B C D/\CA Tp (zae 25 (ab6 (ab7 f)) (tA A B C D)) z (λE=>∃F G I J,ze E (ab7 f) 0 (tL F G I J)/\R (tA F G I J) E))))):ab3 90 #[.agg #[ab9 b,ab5 c,.slice d.a d.len d.cap,.slice e.a e.len e.cap]] h R:=XF ⟨[],[],[]⟩ [.cell 2 25] 9 func90 H
def zd5(b:Int)(c:Bt)(d:Sl)(e:Sl)(h:zc)(R:vvv) (H:let f:=h.push (.cells #[iV b,ab5 c,aK d,aK e] 25);∃(g:ac5) (i:ac7),g 0 f/\∀j:Int,∀k:zc,g j k->(∃l,zd k (zab (ab7 h) 2)=Td (aK l)/\(ph (j<l.len)=Ta->∃m,zd k (zab (ab7 h) 2)=Td (aK m)/\∃n,(m.a=Td n/\0<=j/\j<m.len)/\CA Tp (zae 9 (.pointer (Td (n.add (j.toNat*1)))) (ab5 (⟨#[115,112,111,105,108,116]⟩:Bt))) k (λo=>(g (w6 (j+1)) o/\i (w6 (j+1)) o<i j k)))/\(ph (j<l.len)=Tc->∃(p:ac5) (q:ac7),p 0 k/\∀r:Int,∀s:zc,p r s->(∃t,zd s (zab (ab7 h) 3)=Td (aK t)/\(ph (r<t.len)=Ta->∃u,zd s (zab (ab7 h) 3)=Td (aK u)/\∃v,(u.a=Td v/\0<=r/\r<u.len)/\∃w x y z,ze s (v.add (r.toNat*4)) 0 (tL w x y z)/\ab3 36 #[tA w x y z] s (λA B=>A=.tuple #[]/\∃C,zd B (zab (ab7 h) 3)=Td (aK C)/\∃D,(C.a=Td D/\0<=r/\r<C.len)/\CA Tp (zae 3 (.pointer (Td (zab (D.add (r.toNat*4)) 0))) (iV (-7))) B (λE=>(p (w6 (r+1)) E/\q (w6 (r+1)) E<q r s))))/\(ph (r<t.len)=Tc->R (.tuple #[]) s))))):ab3 36 #[.agg #[ab9 b,ab5 c,.slice d.a d.len d.cap,.slice e.a e.len e.cap]] h R:=XF ⟨[],[(2,[(2,.one (.int .i64))]),(6,[(3,.one (.int .i64))])],[]⟩ [] 33 func36 H
def wh(b0:Option n8)(c1:Int)(h:zc)(R:vvv) (H:ab3 123 #[.pointer b0] h (λb c=>b=.tuple #[]/\∃d,b0=Td d/\∃e,zd c (zab d 1)=Td (aK e)/\let f:=c.push (.cells #[.int .u8 c1] 5);qq Tp (zaj #[87,87] 87 #[aK e,.slice (Td (ab7 c)) 1 1]) f (λg i=>∃j,g=aK j/\∃k,b0=Td k/\CA Tp (zae 87 (.pointer (Td (zab k 1))) (aK j)) i (λl=>R (.nilIface) l)))):ab3 133 #[.pointer b0,.int .u8 c1] h R:=XF ⟨[],[],[]⟩ [.tmp 4] 17 func133 H
def js(b0:Option n8)(s1:Bt)(h:zc)(R:vvv) (H:ab3 123 #[.pointer b0] h (λb c=>b=.tuple #[]/\∃d,b0=Td d/\∃e,zd c (zab d 1)=Td (aK e)/\qq Tp (zaj #[87,9] 87 #[aK e,ab5 s1]) c (λf g=>∃i,f=aK i/\∃j,b0=Td j/\CA Tp (zae 87 (.pointer (Td (zab j 1))) (aK i)) g (λk=>R (.tuple #[iV (s1.size:Int),.nilIface]) k)))):ab3 68 #[.pointer b0,ab5 s1] h R:=XF ⟨[],[],[]⟩ [.tmp 4,.tmp 5] 19 func68 H
def PN(C:Sl)(h:zc)(R:vvv) (H:ab3 78 #[aK C] h (λb c=>∃d,b=.bool d/\((!d)=Ta->R (.tuple #[ab5 (⟨#[]⟩:Bt),iV 1]) c)/\((!d)=Tc->let e:=c.push (.cells #[.pointer Te,.slice Te 0 0] 89);∃(f:ac5) (g:ac7),f 0 e/\∀i:Int,∀j:zc,f i j->((ph (i<C.len)=Ta->∃k,(C.a=Td k/\0<=i/\i<C.len)/\∃l,zd j (k.add (i.toNat*1))=Td (ab5 l)/\ab3 133 #[ab6 (ab7 c),.int .u8 47] j (λm n=>∃o:Value,m=o/\ab3 134 #[ab5 l,ab5 (⟨#[126]⟩:Bt),ab5 (⟨#[126,48]⟩:Bt)] n (λp q=>∃r,p=.string r/\ab3 134 #[ab5 r,ab5 (⟨#[47]⟩:Bt),ab5 (⟨#[126,49]⟩:Bt)] q (λs t=>∃u,s=.string u/\ab3 68 #[ab6 (ab7 c),ab5 u] t (λv w=>∃x,∃y:Value,v=.tuple #[iV x,y]/\(f (w6 (i+1)) w/\g (w6 (i+1)) w<g i j))))))/\(ph (i<C.len)=Tc->ab3 70 #[ab6 (ab7 c)] j (λz A=>∃B,z=.string B/\R (.tuple #[ab5 B,iV 0]) A)))))):ab3 75 #[.slice C.a C.len C.cap] h R:=XF ⟨[],[(5,[(12,.one (.int .i64))])],[]⟩ [.tmp 2,.tmp 3] 23 func75 H
end
section
variable {gl M:Fr} {F:n4} {A C:Array Value} {h:zc}
def Lb:MapT Tp 213 9 4 (ab8 Tc):=⟨κ,κ,⟨Tryz.t4,κ,κ⟩⟩
def UD(hg:GL gl){ks:List Bt}{n:Int}(hk:∀k∈ks,(lb k).length<=1048576){R:ad2}(h:R (yj ks&&ph ((DB ks:Int)=n))):ab4 gl 147 [up (.row .str) ks,up PJ n] [.bool] R:=by
 intro j M vs hM ag ha
 match vs,ha with
 |[u,w],⟨h1,h2,_⟩=>
  obtain⟨s,rfl,O⟩:=jU h1;have hw:=Zu h2;subst hw;have O:Rd M (.row .str) ks [aK s]:=O;have⟨aa,aj,ah⟩:=CD O;apply PX.of;apply YI s n;intro g0;have kg:BT j.size j g0:=ur _ _ (zac _);have sg:g0.size=j.size+1:=zau _;have mg:RW g0 j.size []:=RW.new j;clear_value g0;refine⟨λi L=>∃k:Nat,i=k/\k<=DB ks/\j.size<L.size/\(∃J,At j M L J/\J j.size=Te)/\(∃l,RW L j.size l/\∀x,jX l x (ab8 Tc)=.bool (ph (x∈ks.take k)))/\yj (ks.take k)=Ta,λi _=>DB ks-i.toNat,⟨0,rfl,ω,ω,⟨M,At.same ag kg,ag.none (zac _)⟩,⟨[],mg,λx=>rfl⟩,by simp[yj]⟩,?_⟩;rintro i L ⟨k,rfl,ae,z,⟨J,y,I⟩,⟨l,A,C⟩,E⟩;refine⟨λU=>?_,λU=>?_⟩;have p:k<DB ks:=by simp at U;omega
  have V:=Rd.mono y.le O;refine ke y.ag V p rfl rfl ?_;have D:=Yu Lb A ks[k] Tc;rw[C]at D;refine⟨ph (ks[k]∈ks.take k),D,?_⟩;have f:=Io hg.tabs (l:=lb ks[k]) (R:=λb=>b=Q2 (lb ks[k])) η rfl;rw[Xl]at f;generalize hd:ph (ks[k]∈ks.take k)=d;refine⟨λv B=>∃b,v=.bool b/\(d=Tc->b=Q2 (lb ks[k]))/\j.size<B.size/\(∃t,At j M B t/\t j.size=Te)/\RW B j.size l,λhn=>?_,λhn=>⟨Ta,Ta,rfl,λe=>θ,z,⟨J,y,I⟩,A⟩,λ_ v B ⟨b,e,_⟩=>⟨b,e⟩,?_⟩;refine f.go (vs:=[ab5 ks[k]]) (hM.trans y.le) y.ag (zo (GE _) qc) λv B t r q G P=>⟨r,Jb G,r,rfl,λ_=>P,χ q.ab0.size,⟨t,y.trans q,by rw[q.old _ z,I]⟩,A.ab0 (q.ab0.get _ z)⟩;rintro b B ⟨b',e,hb,ab,⟨t,q,S⟩,Y⟩;cases e;have H:ks.take (k+1)=ks.take k++[ks[k]]:=zai p;have Z:yj (ks.take (k+1))=(!d&&Q2 (lb ks[k])):=by
   have o:=E;unfold yj at o ⊢;rw[zaw,zG]at o;rw[H,zd4,o.1,<-hd];have:ph (List.take k ks++[ks[k]]).Nodup=!ph (ks[k]∈ks.take k):=by rw[zbd];simp only[zG,zd6,decide_eq_false_iff_not,zdg];constructor;grind;grind
   rw[this];simp[Bool.and_comm]
  refine⟨λN=>?_,λN=>?_⟩;refine⟨t,_,q,Qr.2 (GS _),?_⟩;have hf:yj (ks.take (k+1))=Tc:=by
   rw[Z];cases d with
   |true=>rfl
   |false=>simp_all
  have ai:yj ks=Tc:=by
   cases hks:yj ks with
   |false=>rfl
   |true=>unfold yj at hks hf;grind
  simp_all;have F:d=Tc:=by cases d with
   |true=>simp at N
   |false=>rfl
  have af:Q2 (lb ks[k])=Ta:=by rw[<-hb F];rw[F]at N;simpa using N
  refine Pe Lb Y ks[k] (ab8 Ta) λh6 m6 s6 o6=>?_;rw[qd p ω];refine⟨⟨k+1,rfl,ω,ω,⟨t,⟨⟨ω,λi hi=>by rw[o6 i ω];exact q.ab0.get i hi⟩,q.le,q.old,?_⟩,S⟩,⟨_,m6,λx=>?_⟩,θ⟩,η⟩;intro b c e;have ac:b≠j.size:=λe2=>θ
  have⟨T,m,e'⟩:=q.ag b c e;simp_all;unfold jX;rw[TK,H];by_cases Q:ks[k]=x;simp_all;rw[zv Q];have:=C x;unfold jX at this;grind;have p:k=DB ks:=by simp at U;omega
  subst p;rw[za2]at E;refine⟨J,_,y,Qr.2 (GS _),?_⟩;grind
def FF(gl:Fr)(F:n4)(A C:Array Value)(h:zc)(M:Fr)(t:Ty)(x:El t)(b:Bool):Prop:=
 zy Tp F=Ta/\∀h' M' u,At h M h' M'->RdV M' t x u->PX Tp F (A++#[u]++C) h' M' [.bool] (λr=>r=b)
def U6(ag:AgM M h){xs:List Tr}{s:Sl}(t:Rd M (.row .tree) xs [aK s]){p:Tr->Bool}(hb:∀x∈xs,FF gl F A C h M .tree x (p x)):PX Tp 145 #[aK s,.func (.func F) A C] h M [.bool] (λr=>r=xs.any p):=by
 apply PX.of;apply j8 s F A C;apply wv s F A C;have⟨q,G,y⟩:=CD t;refine⟨λi l=>∃k:Nat,i=k/\k<=DB xs/\(∃j,At h M l j)/\(xs.take k).any p=Tc,λi _=>DB xs-i.toNat,⟨0,rfl,ω,⟨M,At.refl ag⟩,ξ⟩,?_⟩;rintro i l ⟨k,rfl,H,⟨j,e⟩,c⟩;refine⟨λm=>?_,λm=>?_⟩;have b:k<DB xs:=by simp at m;omega
 have⟨a,sk,si,B,w,D,E⟩:=Qs e.ag (Rd.mono e.le t) b;refine⟨a,⟨B,ω,ω⟩,xs[k].aa6,xs[k].aa9,sk,si,by rw[zag];exact w,(hb _ (zak b)).1,?_⟩;refine((hb _ (zak b)).2 l j _ e (zw D E)).go λv I n r o f u=>⟨r,Jb f,λz=>?_,λz=>?_⟩;refine⟨(k:Int),rfl,n,_,e.trans o,Qr.2 (GS _),?_⟩;grind;rw[qd b ω];refine⟨⟨k+1,rfl,ω,⟨n,e.trans o⟩,?_⟩,η⟩;rw[zai b,List.any_append,c];simp_all;have b:k=DB xs:=by simp at m;omega
 subst b;rw[za2]at c;refine⟨-1,rfl,j,_,e,Qr.2 (GS _),?_⟩;rw[c];rfl
def Ug(ag:AgM M h){xs:List Bt}{s:Sl}(t:Rd M (.row .str) xs [aK s]){p:Bt->Bool}(hb:∀x∈xs,FF gl F A C h M .str x (p x)):PX Tp 135 #[aK s,.func (.func F) A C] h M [.bool] (λr=>r=xs.any p):=by
 apply PX.of;apply xj s F A C;apply Zw s F A C;have⟨q,z,w⟩:=CD t;refine⟨λi l=>∃k:Nat,i=k/\k<=DB xs/\(∃j,At h M l j)/\(xs.take k).any p=Tc,λi _=>DB xs-i.toNat,⟨0,rfl,ω,⟨M,At.refl ag⟩,ξ⟩,?_⟩;rintro i l ⟨k,rfl,B,⟨j,e⟩,c⟩;refine⟨λm=>?_,λm=>?_⟩;have b:k<DB xs:=by simp at m;omega
 refine ke e.ag (Rd.mono e.le t) b rfl rfl ⟨(hb _ (zak b)).1,?_⟩;refine((hb _ (zak b)).2 l j _ e (GE _)).go λv D n r o f u=>⟨r,Jb f,λy=>?_,λy=>?_⟩;refine⟨(k:Int),rfl,n,_,e.trans o,Qr.2 (GS _),?_⟩;grind;rw[qd b ω];refine⟨⟨k+1,rfl,ω,⟨n,e.trans o⟩,?_⟩,η⟩;rw[zai b,List.any_append,c];simp_all;have b:k=DB xs:=by simp at m;omega
 subst b;rw[za2]at c;refine⟨-1,rfl,j,_,e,Qr.2 (GS _),?_⟩;rw[c];rfl
end
section
variable {l ks:List Bt} {k:Nat} {gl:Fr} {v:Tr} {R:Bool -> Prop} {F:n4}
theorem Fc:ph (((DB l:Nat):Int)>0)=!l.isEmpty:=by cases l <;> simp
theorem Fl{l:List Tr}:ph (((DB l:Nat):Int)>0)=!l.isEmpty:=by cases l <;> simp
theorem CX(s:Bt)(l:Bs):(s.toList==(bl l).toList)=(lb s==l):=by have:=kR (lb s) l;rw[Xl]at this;grind
theorem uf{k n:Int}:(k==n)=ph (k=n):=η
def Fh(i:GL gl)(A:Sm v)(h:R (zm v)):ab4 gl 89 [up .tree v] [.bool] R:=by
 apply T8;have n:(lb v.aa9).length<=1152921504606846976:=χ A.aa9
 have key:∀b,b=zm v->R b:=λb hb=>η
 have B:=A1 i (s:=lb v.aa9) (R:=λr=>R r.2\/v.aa6≠3) n;have f:=Io i.tabs (l:=lb v.aa9) (R:=λr=>r=Q2 (lb v.aa9)) ω rfl;have j:=Sx i (s:=lb v.aa9) (R:=λr=>r=vR (lb v.aa9)) n rfl;have m:=A1 i (s:=lb v.aa9) (R:=λr=>r.2=(iZ (lb v.aa9)).2) n rfl;rw[Xl]at f j m;simp only[uf,Fc,Fl,show(⟨#[116,114,117,101]⟩:Bt)=bl [116,114,117,101]from rfl,show(⟨#[102,97,108,115,101]⟩:Bt)=bl [102,97,108,115,101]from rfl,CX];unfold zm at key;refine⟨λw=>key _ ?_,λw=>⟨λq=>?_,λq=>⟨λz=>key _ ?_,λz=>?_⟩⟩⟩;grind;have c:v.aa6=6:=ψ q
 refine UD i (λk p=>A.key p) (key _ ?_);simp only[c];grind;grind;have o:v.aa6≠5:=ψ w
 have c:v.aa6≠6:=ψ q
 have e:v.aa8.isEmpty=Ta/\v.aa7.isEmpty=Ta:=by cases p:v.aa8.isEmpty <;> cases hi:v.aa7.isEmpty <;> simp[p,hi]at z ⊢
 simp only[o,c,if_false,e.1,e.2,zev]at key;refine⟨λh1=>key _ ?_,λh1=>⟨λh2=>key _ ?_,λh2=>⟨λy=>?_,λy=>⟨λt=>?_,λt=>⟨λu=>?_,λu=>key _ ?_⟩⟩⟩⟩⟩;grind;grind;have:v.aa6=3:=ψ y
 exact m.mono λr x=>key _ η;have:v.aa6=4:=ψ t
 exact f.mono λr x=>key _ η;have:v.aa6=7:=ψ u
 exact j.mono λr x=>key _ η;simp_all
def mM(h:k<DB l):l[((k:Int)).toNat]?=Td l[k]:=ξ
theorem Au(b:k<DB ks):yj (ks.take (k+1))=(yj (ks.take k)&&(Q2 (lb ks[k]) && !ph (ks[k]∈ks.take k))):=by unfold yj;rw[zai b,zd4];grind
def Fq(k:Nat)(h:yj (ks.take k)=Tc):yj ks=Tc:=by
 cases hks:yj ks with
 |false=>rfl
 |true=>unfold yj at hks h;grind
def Se(hg:GL gl)(N:Sm v)(h:R (zm v)):ab4 gl 163 [up .tree v] [.bool] R:=by
 refine PC.bd λA=>?_;have aa:v.aa8.length<=140737488355328:=(A ⟨.tree,v⟩ ξ).1;apply XV;have G:(lb v.aa9).length<=1152921504606846976:=χ N.aa9
 have key:∀b,b=zm v->R b:=λb hb=>η
 have q:=Mm (gl:=gl) (l:=lb v.aa9) (R:=λr=>r=Q2 (lb v.aa9)) ω rfl;have p:=PK (gl:=gl) (s:=lb v.aa9) (R:=λr=>r=(kQ (iZ (lb v.aa9)).1,(iZ (lb v.aa9)).2)) G rfl;rw[Xl]at q p;simp only[uf,Fc,Fl,show(⟨#[116,114,117,101]⟩:Bt)=bl [116,114,117,101]from rfl,show(⟨#[102,97,108,115,101]⟩:Bt)=bl [102,97,108,115,101]from rfl,CX];have x:∀n:Int,(v.aa6 != n)=!ph (v.aa6=n):=λn=>by rw[bne,uf]
 simp only[x];refine⟨λM=>key _ ?_,λM=>?_⟩;unfold zm;grind;intro K hK;have f:(v.aa6≠6->v.aa8.isEmpty=Ta)/\(v.aa6≠6->v.aa6≠5->v.aa7.isEmpty=Ta):=by obtain D|D:=Bool.eq_false_or_eq_true v.aa8.isEmpty <;> obtain hi|hi:=Bool.eq_false_or_eq_true v.aa7.isEmpty <;> simp[D,hi]at M ⊢ <;> grind
 unfold zm at key;have H:∀b,(b=Ta↔v.aa6=1\/v.aa6=5)->K b:=by
  intro b hb;refine hK b ⟨λY=>key _ ?_,λZ=>?_⟩;grind;have V:v.aa6≠1/\v.aa6≠5:=by constructor;grind;grind
  refine⟨λh2=>key _ ?_,λh2=>⟨λL=>?_,λL=>⟨λI=>?_,λI=>⟨λS=>?_,λS=>⟨λT=>?_,λT=>key _ ?_⟩⟩⟩⟩⟩;grind;have:v.aa6=3:=ψ L
  have a:=f.1 ω;have c:=f.2 ω ω;exact p.mono λr w=>key _ η;have:v.aa6=4:=ψ I
  have a:=f.1 ω;have c:=f.2 ω ω;exact q.mono λr w=>key _ η;have:v.aa6=7:=ψ S
  have a:=f.1 ω;have c:=f.2 ω ω;refine p.mono λr w=>?_;rw[w];refine Uz (n:=(iZ (lb v.aa9)).1) (Qu _ G) (key _ ?_);simp only[zcq];rw[zv ω,zv ω,zv ω,zv ω,zv ω,zv ω,zA this,a,c,zev,zev];unfold vR;rfl;have F:v.aa6=6:=ψ T
  simp only[F]at key;have o:∀b,b=(yj v.aa8&&ph (DB v.aa8=DB v.aa7)&&lb v.aa9==[])->R b:=key;refine⟨λi=>∃k:Nat,i=k/\k<=DB v.aa8/\yj (v.aa8.take k)=Ta,λi=>DB v.aa8-i.toNat,⟨0,rfl,ω,by simp[yj]⟩,?_⟩;rintro i ⟨k,rfl,D,y⟩;refine⟨λO=>?_,λO=>?_⟩;have m:k<DB v.aa8:=by simp at O;omega
  refine⟨v.aa8[k],⟨ω,mM m⟩,?_⟩;have J:=Mm (gl:=gl) (l:=lb v.aa8[k]) (R:=λr=>r=Q2 (lb v.aa8[k])) (χ (N.key (zak m))) rfl;rw[Xl]at J;refine J.mono λr w=>⟨λQ=>o _ ?_,λQ=>?_⟩;have:yj v.aa8=Tc:=Fq (k+1) (by grind [Au]);simp[this];have E:Q2 (lb v.aa8[k])=Ta:=by rw[<-w];simpa using Q
  refine⟨λi=>∃j:Nat,i=j/\j<=k/\v.aa8[k]∉v.aa8.take j,λi=>k-i.toNat,⟨0,rfl,ω,ξ⟩,?_⟩;rintro i ⟨j,rfl,hj,t⟩;refine⟨λB=>?_,λB=>?_⟩;have z:j<k:=by simp at B;omega
  refine⟨v.aa8[j],⟨ω,mM ω⟩,v.aa8[k],⟨ω,mM m⟩,λu=>o _ ?_,λu=>?_⟩;have U:v.aa8[j]=v.aa8[k]:=by have:=CX v.aa8[j] (lb v.aa8[k]);rw[Xl]at this;rw[this]at u;exact o7.1 (ψ u)
  have:yj v.aa8=Tc:=Fq (k+1) (by grind [Au,List.mem_take_iff_getElem]);simp[this];have P:v.aa8[j]≠v.aa8[k]:=by intro e;rw[e]at u;simp at u
  rw[qd z ω];refine⟨⟨j+1,rfl,ω,?_⟩,η⟩;rw[zai ω,zav,zbh];grind;have C:j=k:=by simp at B;omega
  subst C;rw[qd m ω];refine⟨⟨j+1,rfl,ω,?_⟩,η⟩;rw[Au m,y,E,decide_eq_false t];rfl;grind;grind
 grind
def Di{gl:Fr}(l:GL gl)(b:Bool)(v:Tr)(j:Sm v){R:ad2}(h:R (Zo (λx=>zm x&&(b||decide (x.aa6≠7))) v)):ab4 gl 104 [up .tree v,up .bool b] [.bool] R:=by
 apply MU;rw[qw];have r:=j.aa7;rw[Zb,jl]at h;refine Se l j ⟨λe=>?_,λe=>?_⟩;grind;have q:(zm v&&(b||decide (v.aa6≠7)))=Ta:=by rw[uf]at e;cases hn:zm v <;> cases b <;> simp[hn]at e ⊢;exact e
 rw[q,zce]at h;refine⟨λi=>∃k:Nat,i=k/\k<=DB v.aa7/\(v.aa7.take k).all (Zo (λx=>zm x&&(b||decide (x.aa6≠7))))=Ta,λi=>DB v.aa7-i.toNat,⟨0,rfl,ω,ξ⟩,?_⟩;rintro i ⟨k,rfl,t,f⟩;refine⟨λo=>?_,λo=>?_⟩;have c:k<DB v.aa7:=by simp at o;omega
 refine⟨v.aa7[k],⟨ω,Jx c⟩,?_⟩;rw[qw];have m:v.aa7[k]∈v.aa7:=zak c;have p:=qi m;refine Di l b v.aa7[k] (j.item m) ⟨λn=>?_,λn=>?_⟩;grind;rw[qd c ω];refine⟨⟨k+1,rfl,ω,?_⟩,η⟩;rw[zai c,zd4,f,zce,zel,List.all_nil,zev];simpa using n;grind
termination_by cK v
def Fp{p q:Tr->Bool}(h:∀x,p x=q x)(v:Tr):Zo p v=Zo q v:=by have:p=q:=funext h;rw[this]
def yM(f:GL gl)(c:Sm v)(h:R (wm v)):ab4 gl 106 [up .tree v] [.bool] R:=by
 apply Vk;rw[qw];refine AI v c.sz ⟨λr=>r=(iB v:Int),λ_=>AL v c.sz rfl,λr i=>⟨λb=>b=Zo zm v,λ_=>Di f Ta v c (Fp (λx=>ξ) v),λb hb=>?_⟩⟩;have e:(cond (ph ((cK v:Int)<=4096)) (ph (r<=32)) Tc)=xa v:=by
  unfold xa;cases hc:ph ((cK v:Int)<=4096)with
  |false=>grind
  |true=>grind
 rw[e]at hb ⊢;unfold wm at h;grind
def Vb(hF:zy Tp F=Ta){p:Tr->Bool}(hp:∀x,Sm x->ab4 gl F [up .tree x] [.bool] (λr=>r=p x))(n:Nat):∀(v:Tr),cK v<=n->Sm v->∀{h:zc} {M:Fr} {u:Value},Fr.le gl M->AgM M h->RdV M .tree v u ->PX Tp 87 #[u,.func (.func F) #[] #[]] h M [.bool] (λr=>r=Zo p v):=by
 induction n with
 |zero=>intro v hn;have:=wa v;omega
 |succ n ih=>
 intro v hn hv h M u Y ag Z;have P:=Z;obtain⟨sk,si,rfl,rk,ri⟩:=qh Z;apply PX.of;apply MJ v.aa6 v.aa9 sk si F #[] #[];intro h1 h2;have L1:At h M h1 M:=At.push ag _;have f:At h1 M h2 (Mx M h1.size #[.func (.func F) #[] #[]]):=At.frz L1.ag _ _;have s1:h1.size=h.size+1:=zau _;have s2:h2.size=h1.size+1:=zau _;have q:ze h2 (ab7 h) 0 [ab9 v.aa6,ab5 v.aa9,aK sk,aK si]:=tf (h':=h2) (by have:=f.ab0;rw[s1]at this;exact this);have U:∀h':zc,BT h2.size h2 h'->zd h' (zab (ab7 h) 3)=Td (aK si):=λh' k=>by refine QP (h:=h) (T:=25) (cs:=[ab9 v.aa6,ab5 v.aa9,aK sk,aK si]) ?_ rfl;have:=f.ab0.trans k ω;rw[s1]at this;exact this
 have m:zd h2 (ab7 h1)=Td (.func (.func F) #[] #[]):=f.ag.cell (vY _ _ _) rfl;have O:(Mx M h1.size #[.func (.func F) #[] #[]]) h1.size=Td #[.func (.func F) #[] #[]]:=vY _ _ _;have B:=L1.trans f;clear_value h1 h2;generalize (Mx M h1.size #[.func (.func F) #[] #[]])=M2 at *;refine⟨_,m,v.aa6,v.aa9,sk,si,q,hF,?_⟩;refine(hp v hv).go (vs:=[.agg #[ab9 v.aa6,ab5 v.aa9,aK sk,aK si]]) (Y.trans B.le) B.ag (zo (RdV.mono B.le P) qc) λw h3 I r z t hr=>?_;refine⟨r,Jb t,si,λ_=>U h3 z.ab0,?_⟩;have i:=B.trans z;refine⟨λw A=>∃b,w=.bool b/\(r=Ta->b=!(mZ p v.aa7))/\∃y,At h M A y,λab=>?_,λaa=>⟨Ta,Ta,rfl,λe=>θ,I,i⟩,λ_ w A ⟨b,e,_⟩=>⟨b,e⟩,?_⟩;have Q:Rd I (.row .tree) v.aa7 [aK si]:=Rd.mono i.le ri;have J:I h1.size=Td #[.func (.func F) #[] #[]]:=z.le _ _ O;refine(U6 (gl:=gl) z.ag Q (p:=λx=>!(Zo p x)) λx hx=>⟨κ,λh' M' u' L' L=>?_⟩).go λw A y b C l S=>⟨b,Jb l,b,rfl,λ_=>?_,y,i.trans C⟩;have ac:=qi hx;obtain⟨c,j,rfl,E,D⟩:=qh L;apply PX.of;show ab3 146 #[.agg #[ab9 x.aa6,ab5 x.aa9,aK c,aK j],ab6 (ab7 h1)] h' _;apply Oy x.aa6 x.aa9 c j;intro g1;have H:At h' M' g1 M':=At.push L'.ag _;have G:ze g1 ⟨h'.size,0,Te⟩ 0 [ab9 x.aa6,ab5 x.aa9,aK c,aK j]:=tf (BT.refl _ _);have V:zd g1 (ab7 h1)=Td (.func (.func F) #[] #[]):=H.ag.cell (L'.le _ _ J) rfl;clear_value g1;refine⟨x.aa6,x.aa9,c,j,G,_,V,?_⟩;refine(ih x ω (hv.item hx) (h:=g1) (M:=M') ((Y.trans i.le).trans L'.le) H.ag (zw E D)).go λw h5 M5 b L5 o N=>⟨b,Jb o,M5,_,H.trans L5,Qr.2 (GS _),ϕ N⟩;rw[S,jl,zbd];simp;rintro b A ⟨b',e,hb,y,C⟩;cases e;refine⟨y,_,C,Qr.2 (GS _),?_⟩;grind [Zb]
def HG(i:zy Tp F=Ta){p:Tr->Bool}(b:∀x,Sm x->ab4 gl F [up .tree x] [.bool] (λr=>r=p x))(v:Tr)(c:Sm v){h:zc}{M:Fr}{u:Value}(e:Fr.le gl M)(ag:AgM M h)(f:RdV M .tree v u):PX Tp 87 #[u,.func (.func F) #[] #[]] h M [.bool] (λr=>r=Zo p v):=Vb i b (cK v) v (zac _) c e ag f
def vQ(C:GL gl)(B:Sm v)(O:R (wm v)):ab4 gl 83 [up .tree v] [.bool] R:=by
 intro h M vs A ag N
 match vs,N with
 |[u],⟨m,_⟩=>have m:RdV M .tree v u:=m;have l:=m;obtain⟨sk,si,rfl,P,T⟩:=qh m;apply PX.of;apply QQ v.aa6 v.aa9 sk si;intro h1;have n:At h M h1 M:=At.push ag _;have s1:h1.size=h.size+1:=zau _;have f:∀h':zc,BT h1.size h1 h'->ze h' (ab7 h) 0 [ab9 v.aa6,ab5 v.aa9,aK sk,aK si]:=λh' k=>tf (h':=h') (by rw[s1]at k;exact k);clear_value h1;refine⟨v.aa6,v.aa9,sk,si,f h1 (BT.refl _ _),?_⟩;have q:ab4 gl 86 [up .tree v] [.bool] (λr=>r=xa v):=FZ B rfl;refine q.go (vs:=[.agg #[ab9 v.aa6,ab5 v.aa9,aK sk,aK si]]) (A.trans n.le) n.ag (zo (RdV.mono n.le l) qc) λw h2 I r t j Q=>?_;refine⟨r,Jb j,v.aa6,v.aa9,sk,si,λ_=>f h2 t.ab0,?_⟩;have c:=n.trans t;refine⟨λw o=>∃b,w=.bool b/\(r=Ta->b=Zo zm v)/\∃z,At h M o z,λL=>?_,λH=>⟨Ta,Ta,rfl,λe=>θ,I,c⟩,λ_ w o ⟨b,e,_⟩=>⟨b,e⟩,?_⟩;refine(HG (F:=89) κ (p:=zm) (λx J=>Fh C J rfl) v B (A.trans c.le) t.ag (RdV.mono c.le l)).go λw S E b D i y=>⟨b,Jb i,b,rfl,λ_=>y,E,c.trans D⟩;rintro b o ⟨b',e,hb,z,G⟩;cases e;refine⟨z,_,G,Qr.2 (GS _),?_⟩;unfold wm at O;grind
end
section
variable {h:zc} {e:Nw} {M:Fr} {K:Value -> zc -> Prop} {cs:Array Value} {k:Nat} {vs:List Value}
def pM:JT Tp 22 9 (ab5 ⟨#[]⟩) 1 16:=⟨κ,⟨Tryz.t9,κ,κ,κ,κ⟩,rfl,ω⟩
def uU:JT Tp 23 25 (.agg #[ab9 0,ab5 ⟨#[]⟩,.slice Te 0 0,.slice Te 0 0]) 4 72:=⟨κ,⟨Tryz.t25,κ,κ,κ,κ⟩,rfl,ω⟩
def LW{h h':zc}{sz:Nat}(k:BT (h.size+1) (h.push (.cells #[] e)) h')(base:Nat)(hb:base<=h.size):Fd h' base e sz ⟨Td (ab7 h),0,0⟩ []:=by refine⟨ξ,.inr ⟨h.size,0,#[],rfl,hb,?_,zac _,zar _,ξ,ξ⟩⟩;show h'[h.size]?=_;rw[k.get _ ω];simp
def WJ(ag:AgM M h){ks:List Bt}{s:Sl}(q:Rd M (.row .str) ks [aK s])(D:ks.length*16<=140737488355328)(r:∀(c:Sl) (h':zc),BT h.size h h'->c.len=DB ks->Fd h' h.size 9 1 c (ks.map za0)->K (aK c) h'):ab3 210 #[aK s] h K:=by
 have⟨e,z,u⟩:=CD q;have⟨s2,f,_,_,cells,A,l⟩:=Rd.rowC ag q;simp only[aK,zbc]at f;have j:s2.a=s.a:=f.1.symm;have:=Vo A;subst this;rw[j]at l;apply Q5 s;refine⟨λw=>?_,λw=>?_⟩;have k:ks=[]:=by obtain h0|⟨b,o,x,_⟩:=l;simpa using h0;simp_all
 subst k;exact r ⟨Te,0,0⟩ h (BT.refl _ _) rfl (Fd.nil _ _ _ _);intro g;have⟨m,F,_⟩:=jo (g:=g) rfl;have t:Fd g h.size 9 1 ⟨Td (ab7 h),0,0⟩ []:=LW (BT.refl _ _) _ (zac _);clear_value g;refine Zh pM t (src:=⟨s.a,s.len,s.cap⟩) (news:=ks.map za0) (n:=h.size) (l.ab0 m) (ϑ e) (by simp[pi]) η η ω λc h' x f y E C=>⟨c,rfl,r c h' ?_ η (ψ f)⟩;refine⟨ω,λi hi=>(y i ω λp B=>?_).trans (m.get i hi)⟩;grind
def SA(ag:AgM M h){xs:List Tr}{s:Sl}(u:Rd M (.row .tree) xs [aK s])(F:xs.length*72<=140737488355328)(t:∀(c:Sl) (h':zc) (cells:ac1),BT h.size h h'->c.len=DB xs->Fd h' h.size 25 4 c cells->KK M .tree xs cells->K (aK c) h'):ab3 211 #[aK s] h K:=by
 have⟨e,B,x⟩:=CD u;have⟨s2,j,_,_,cells,k,q⟩:=Rd.rowC ag u;simp only[aK,zbc]at j;have m:s2.a=s.a:=j.1.symm;rw[m]at q;have f:cells.length=DB xs*4:=k.1;apply Zc s;refine⟨λy=>?_,λy=>?_⟩;have l:cells=[]:=by obtain h0|⟨b,o,z,_⟩:=q;exact h0;simp_all
 subst l;have:xs.length=0:=ν f
 exact t ⟨Te,0,0⟩ h [] (BT.refl _ _) (by simp[this]) (Fd.nil _ _ _ _) k;intro g;have⟨r,D,_⟩:=jo (g:=g) rfl;have w:Fd g h.size 25 4 ⟨Td (ab7 h),0,0⟩ []:=LW (BT.refl _ _) _ (zac _);clear_value g;refine Zh uU w (src:=⟨s.a,s.len,s.cap⟩) (news:=cells) (n:=h.size) (q.ab0 r) (by rw[f,e]) k.one η η ω λc h' z j A G C=>⟨c,rfl,t c h' cells ?_ η (ψ j) k⟩;refine⟨ω,λi hi=>(A i ω λp E=>?_).trans (r.get i hi)⟩;grind
theorem Fd.blk{base:Nat}{sz:Nat}{s:Sl}{cells:ac1}(H:Fd h base e sz s cells):(s.len=0/\cells=[]/\s.cap=0)\/∃b cs,s.a=Td ⟨b,0,Te⟩/\base<=b/\Blk h b cs/\s.cap*sz<=cs.size/\cut cs 0 (s.len*sz)=cells/\s.len<=s.cap:=by obtain⟨f,h0⟩|⟨g,cap,c,f,hb,i,j,m,k,l⟩:=H.2;left;have:=H.1;simp_all;right;simp only[zbc]at f;refine⟨g,c,f.1,hb,⟨e,i⟩,?_,by unfold cut;simp_all,ω⟩;simp_all
theorem Pi{n i k:Nat}(h:i+k<=n):(List.drop i (cut cs 0 n)).take k=cut cs i k:=by unfold cut;rw[zcn,List.drop_take,List.take_take,zew ω]
def ow{h:zc}{b:Nat}{cs:ac2}(H:Blk h b cs):∀{vs:ac1} {o i:Nat},cut cs (o+i) (DB vs)=vs->ze h ⟨b,o,Te⟩ i vs
 |[],_,_,_=>trivial
 |v::vs,o,i,e=>by
  unfold cut at e;have c:o+i<DB cs.toList:=by obtain f|f:=zbv (o+i) (DB cs.toList);exact f;grind
  rw[zbg c,za1,List.take_succ_cons]at e;injection e with e1 e2;refine⟨?_,ow H (i:=i+1) e2⟩;refine H.ab1 ?_;grind
def Ah:cut vs.toArray 0 (DB vs)=vs:=by unfold cut;simp
def EY:yf Tp 25=Ta:=κ
def JN:yo Tp 25=4:=κ
def Bo:yf Tp 22=Ta:=κ
def AH:yo Tp 22=1:=κ
def WC:yf Tp 23=Ta:=κ
def Pa:yo Tp 23=1:=κ
def zl(k:Int)(s:Bt)(sk si:Sl):List Value:=[.int .i64 k,.string s,aK sk,aK si]
def Gu(k:Int)(s:Bt)(sk si:Sl):∀u∈zl k s sk si,u.oneCell'=Ta:=by intro u b;simp[zl]at b;obtain rfl|rfl|rfl|rfl:=b <;> simp[pi,aK]
def Hm(k:Int)(s:Bt)(sk si:Sl):(Value.agg #[ab9 k,ab5 s,aK sk,aK si]).cells.toList=zl k s sk si:=rfl
theorem Hv(h:cs.size=DB vs):iS cs 0 vs=vs.toArray:=by unfold iS;simp_all
def xm{b:Nat}(H:Blk h b cs)(e:cs.size=4)(k:Int)(s:Bt)(sk si:Sl){K:zc->Prop}(i:∀h':zc,Blk h' b (zl k s sk si).toArray->h'.size=h.size->(∀j,j≠b->h'[j]?=h[j]?)->K h'):CA Tp (zae 25 (ab6 ⟨b,0,Te⟩) (.agg #[ab9 k,ab5 s,.slice sk.a sk.len sk.cap,.slice si.a si.len si.cap])) h K:=
 X9 (vs:=zl k s sk si) EY H (Hm k s sk si) JN (by rw[e];exact zac _) (Gu k s sk si) λh' c l f=>i h' (by rw[Hv (π e)]at c;exact c) l f
def pR{bf:Nat->List Nat}{k x:Nat}:x∈(za7 k).flatMap bf↔∃j,j<k/\x∈bf j:=ξ
structure CI (h2 h':zc) (M:Fr) (v:Tr) (b1 b2:Nat) (s1 s2:Sl) (bk bb:List Nat) (b:Nat) (cs:Array Value) (bf:Nat->List Nat) (k:Nat):Prop where
 ag:AgM M h'
 box1:Blk h' b1 (zl v.aa6 v.aa9 s1 s2).toArray
 box2:∃c2:Array Value,Blk h' b2 c2/\c2.size=4
 aa8:OKeys h' v.aa8 bk s1
 hz:(v.aa7=[]/\bb=[]/\s2.cap=0)\/(bb=[b]/\s2.a=Td ⟨b,0,Te⟩/\Blk h' b cs/\s2.cap*4<=cs.size)
 did:∀i (hx:i<v.aa7.length),i<k->OT h' v.aa7[i] (bf i) (cut cs (i*4) 4)
 todo:∀i (hx:i<v.aa7.length),k<=i->RdV M .tree v.aa7[i] (.agg (cut cs (i*4) 4).toArray)
 nd:(bk++(bb++(za7 k).flatMap bf)).Nodup
 big:∀x∈bk++(bb++(za7 k).flatMap bf),h2.size<=x
def MS(n:Nat):∀(v:Tr),cK v<=n->Sm v->∀{h:zc} {M:Fr} {u:Value},AgM M h->RdV M .tree v u ->ab3 151 #[u] h λw h'=>BT h.size h h'/\∃bs sk si,w=.agg #[ab9 v.aa6,ab5 v.aa9,aK sk,aK si]/\OT h' v bs (zl v.aa6 v.aa9 sk si)/\∀b∈bs,h.size<=b:=by
 induction n with
 |zero=>intro v hn;have:=wa v;omega
 |succ n ih=>
 intro v hn hv h M u ag hu;obtain⟨sk,si,rfl,rk,ri⟩:=qh hu;have aT:=hv.aa7;have aQ:=hv.aa8;apply Sp v.aa6 v.aa9 sk si;intro h1 h2;have kh:BT h.size h h2:=(ur h (.cells (zl v.aa6 v.aa9 sk si).toArray 25) (zac _)).trans (ur h1 _ (zac _)) η;have s1:h1.size=h.size+1:=zau _;have s2:h2.size=h1.size+1:=zau _;have b1:Blk h2 h.size (zl v.aa6 v.aa9 sk si).toArray:=by have:Blk h1 h.size (zl v.aa6 v.aa9 sk si).toArray:=Blk.new _ _ _;exact this.ab2 (ur _ _ (zac _))
 have b2:Blk h2 h1.size (zl 0 ⟨#[]⟩ ⟨Te,0,0⟩ ⟨Te,0,0⟩).toArray:=Blk.new _ _ _;clear_value h1 h2;have Q:=ag.ab0 kh;refine⟨sk,b1.ab1 (o:=0) (k:=2) rfl,si,b1.ab1 (o:=0) (k:=3) rfl,?_⟩;refine WJ Q rk ω λc1 h3 O l3 o3=>⟨c1,rfl,O.get _ (by grind [zh]),?_⟩;have aE:=Q.ab0 O;refine SA aE ri ω λc2 h4 cells k4 l4 o4 rc=>⟨c2,rfl,?_⟩;have ae:=(b1.ab2 O).ab2 k4;have Y:=(b2.ab2 O).ab2 k4;have z3:=O.size;have z4:=k4.size;rw[show zab (ab7 h) 2=⟨h.size,2,Te⟩from zh _ _ _,show zab (ab7 h) 3=⟨h.size,3,Te⟩from zh _ _ _];refine X9 (vs:=[aK c1]) Bo ae rfl AH (by simp[zl]) (by simp[pi,aK]) λh5 ac z5 f5=>?_;refine X9 (vs:=[aK c2]) WC ac rfl Pa (by simp[zl,iS]) (by simp[pi,aK]) λh6 A z6 f6=>?_;have ax:iS (iS (zl v.aa6 v.aa9 sk si).toArray 2 [aK c1]) 3 [aK c2]=(zl v.aa6 v.aa9 c1 c2).toArray:=by simp[iS,zl]
 rw[ax]at A;have z:∀j,j≠h.size->h6[j]?=h4[j]?:=λj t=>(f6 j t).trans (f5 j t);refine⟨c2,A.cell (o:=3) rfl,?_⟩;have ai:BT h.size h h6:=⟨ω,λi hi=>by rw[z i ω,k4.get i ω,O.get i ω];exact kh.get i hi⟩;obtain⟨bk,D,aI,aJ,aH⟩:∃bk,OKeys h6 v.aa8 bk c1/\bk.Nodup/\(∀x∈bk,h2.size<=x)/\(∀x∈bk,x<h3.size):=by obtain⟨h0,P,N⟩|⟨b,cs,H,e2,e3,e4,e5,e6⟩:=Fd.blk o3;exact⟨[],⟨l3,ω,ω,.inl ⟨ψ P,rfl,N⟩⟩,zee,ξ,ξ⟩;refine⟨[b],⟨l3,ω,ω,.inr ⟨b,cs,rfl,H,(e3.ab2 k4).ab0 (z b ω),ω,θ⟩⟩,ξ,ψ e2,ψ e3.lt⟩
 obtain⟨bb,b,cs,Z,p,J,aG,af⟩:∃(bb:ac0) (b:Nat) (cs:ac2),DB v.aa7<=c2.cap/\((v.aa7=[]/\bb=[]/\c2.cap=0)\/(bb=[b]/\c2.a=Td ⟨b,0,Te⟩/\Blk h6 b cs/\c2.cap*4<=cs.size))/\(∀i,i<DB v.aa7->cut cs (i*4) 4=(cells.drop (i*4)).take 4)/\bb.Nodup/\∀x∈bb,h3.size<=x:=by
  obtain⟨h0,P,N⟩|⟨b,cs,H,e2,e3,e4,e5,e6⟩:=Fd.blk o4;have:v.aa7.length=0:=ω
  exact⟨[],0,#[],ω,.inl ⟨List.eq_nil_of_length_eq_zero this,rfl,N⟩,λi hi=>ω,zee,ξ⟩;refine⟨[b],b,cs,ω,.inr ⟨rfl,H,e3.ab0 (z b ω),e4⟩,λi hi=>?_,ξ,ψ e2⟩;grind [Pi]
 have ab:CI h2 h6 M v h.size h1.size c1 c2 bk bb b cs (λ_=>[]) 0:={
  ag:=ag.ab0 ai,box1:=A,box2:=⟨_,Y.ab0 (z _ ω),rfl⟩,aa8:=D,hz:=p,did:=λi _ hi=>ω
  todo:=λi f _=>by rw[J i f];have:=rc.2 i f;unfold RdV;simp only[ig,if_true];exact⟨_,rfl,this⟩
  nd:=η
  big:=by grind }
 refine⟨λi h'=>∃(k:Nat) (cs:ac2) (bf:Nat->List Nat),i=(k:Int)/\k<=DB v.aa7/\BT h.size h h'/\h2.size<=h'.size/\CI h2 h' M v h.size h1.size c1 c2 bk bb b cs bf k,λi _=>DB v.aa7-i.toNat,⟨0,cs,_,rfl,ω,ai,ω,ab⟩,?_⟩;clear ab J p D A ac ae Y z f5 f6 o3 o4 rc;rintro i h7 ⟨k,cs,bf,rfl,hk,k7,z7,I⟩;refine⟨λP=>?_,λP=>?_⟩;have r:k<DB v.aa7:=ν P
 obtain⟨h0,_⟩|⟨p,H,hb,am⟩:=I.hz;rw[h0]at r;simp at r;have J:v.aa7.length*4<=cs.size:=ω
 have aF:=I.todo k r (zac _);have⟨tk,ti,q,az,au⟩:=qh aF;have S:cut cs (k*4) 4=zl v.aa7[k].aa6 v.aa7[k].aa9 tk ti:=by injection q with q;exact congrArg Array.toList q
 refine⟨⟨b,0,Te⟩,⟨H,ω,ω⟩,v.aa7[k].aa6,v.aa7[k].aa9,tk,ti,?_,?_⟩;rw[zh,zag,zax];exact ow hb (vs:=zl v.aa7[k].aa6 v.aa7[k].aa9 tk ti) (o:=k*4) (i:=0) S;intro h8;have⟨k8,z8,b8⟩:=jo (g:=h8) rfl;clear_value h8;refine xm b8 rfl _ _ _ _ λh9 b9 z9 f9=>?_;have k9:BT h7.size h7 h9:=⟨ω,λj t=>by rw[f9 j ω];exact k8.get j t⟩;have box1:=I.box1.ab2 k9;refine⟨c2,box1.cell (o:=3) rfl,v.aa7[k].aa6,v.aa7[k].aa9,tk,ti,ow b9 (vs:=zl v.aa7[k].aa6 v.aa7[k].aa9 tk ti) (o:=0) (i:=0) Ah,?_⟩;have hm:v.aa7[k]∈v.aa7:=zak r;have aN:=qi hm;refine(ih v.aa7[k] ω (hv.item hm) (I.ag.ab0 k9) (zw az au)).mono ?_;rintro w d ⟨B,bs,dk,di,rfl,ot,aL⟩;refine⟨v.aa7[k].aa6,v.aa7[k].aa9,dk,di,rfl,⟨b,0,Te⟩,⟨H,ω,ω⟩,B.get _ box1.lt,?_⟩;have aj:=(hb.ab2 k9).ab2 B;have aM:=B.size;rw[zh,zag,zax];refine X9 (vs:=zl v.aa7[k].aa6 v.aa7[k].aa9 dk di) EY aj (Hm _ _ _ _) JN (by show k*4+4<=cs.size;omega) (Gu _ _ _ _) λay ar aV aa=>?_;have ah:BT h7.size h7 d:=k9.trans B ω;have aP:=hb.lt;have fr:∀x,x≠b->x<h7.size->ay[x]?=h7[x]?:=λx f hl=>by rw[aa x f];exact ah.get x hl
 have al:∀x∈bk++(bb++(za7 k).flatMap bf),h2.size<=x:=I.big;have af:h2.size<=b:=al b (υ p);have V:=I.nd;rw[zdg]at V;have⟨aO,U,aA⟩:=V;rw[zdg]at U;have⟨aU,aS,aB⟩:=U;have G:∀x∈bk++(bb++(za7 k).flatMap bf),x<h7.size:=by intro x f;rw[zav,zav]at f;obtain f|f|f:=f;have⟨_,_,_,q4⟩:=I.aa8;obtain⟨_,rfl,_⟩|⟨b',cs',rfl,_,e,_⟩:=q4;cases f;simp at f;subst f;exact e.lt;grind;have⟨j,t,f⟩:=pR.1 f;exact(I.did j ω t).lt x f
 have D:∀x∈bk,x≠b:=λx f e=>aA x f b (υ p) e;have an:∀j,j<k->∀x∈bf j,x≠b:=λj t x f e=>aB b (υ p) x (pR.2 ⟨j,t,f⟩) e.symm;have ak:∀x∈bs,x≠b:=λx f e=>η
 have E:(za7 (k+1)).flatMap (λj=>ite (j=k) bs (bf j))=(za7 k).flatMap bf++bs:=by
  rw[List.range_succ,zdu];congr 1;have:∀(l:ac0),(∀x∈l,x<k)->l.flatMap (λj=>ite (j=k) bs (bf j))=l.flatMap bf:=by
   intro l;induction l with
   |nil=>intro _;rfl
   |cons a l aD=>intro hl;rw[zc0,zc0,zv (χ (hl a ξ)),aD λx f=>hl x (ϑ f)]
  exact this _ λx f=>ψ f
  simp
 rw[qd r ω];refine⟨⟨k+1,iS cs (k*4) (zl v.aa7[k].aa6 v.aa7[k].aa9 dk di),λj=>ite (j=k) bs (bf j),rfl,ω,⟨ω,λx f=>by rw[fr x ω ω];exact k7.get x f⟩,ω,{
  ag:=λx c e=>?_,box1:=I.box1.ab0 (fr _ ω ω),box2:=?_,aa8:=I.aa8.frame λx f=>fr x (D x f) (G x (ϑ f)),hz:=.inr ⟨p,H,ar,by rw[vL (by show k*4+4<=cs.size;omega)];exact am⟩,did:=?_,todo:=?_,nd:=?_,big:=?_ }⟩,φ⟩
 have f:=ag.lt e;have⟨T,m,e'⟩:=I.ag x c e;grind;have⟨q,C,L⟩:=I.box2;exact⟨q,C.ab0 (fr _ ω C.lt),L⟩;intro j t aC;by_cases F:j=k;subst F;simp only[if_true];have:=Vg (cs:=cs) (o:=j*4) (vs:=zl v.aa7[j].aa6 v.aa7[j].aa9 dk di) (by show j*4+4<=cs.size;omega);rw[show(zl v.aa7[j].aa6 v.aa7[j].aa9 dk di).length=4 from rfl]at this;rw[this];exact ot.frame λx f=>aa x (ak x f);simp only[F,if_false];rw[zW (by show k*4+4<=cs.size;omega) (by left;omega)];exact(I.did j t ω).frame λx f=>fr x (an j ω x f) (G x (by rw[zav,zav];exact .inr (.inr (pR.2 ⟨j,ω,f⟩))));intro j t aC;rw[zW (by show k*4+4<=cs.size;omega) (by right;show k*4+4<=j*4;omega)];exact I.todo j t ω;rw[E,<-za3,<-za3,zdg];refine⟨η,ot.nodup,λx f y hy e=>?_⟩;grind;intro x f;rw[E,<-za3,<-za3,zav]at f;grind;have r:k=DB v.aa7:=ν P
 subst r;refine⟨v.aa6,v.aa9,c1,c2,ow I.box1 (vs:=zl v.aa6 v.aa9 c1 c2) (o:=0) (i:=0) Ah,?_⟩;have⟨q,C,L⟩:=I.box2;refine xm C L _ _ _ _ λh8 b8 z8 f8=>?_;refine⟨v.aa6,v.aa9,c1,c2,ow b8 (vs:=zl v.aa6 v.aa9 c1 c2) (o:=0) (i:=0) Ah,⟨ω,λx f=>by rw[f8 x ω];exact k7.get x f⟩,_,c1,c2,rfl,?_,λx f=>χ (I.big x f)⟩;have ot:OT h7 (.mk v.aa6 v.aa9 v.aa8 v.aa7) (bk++(bb++(za7 (DB v.aa7)).flatMap bf)) (zl v.aa6 v.aa9 c1 c2):=by exact OT.mk (b:=b) (cs:=cs) I.aa8 ⟨l4,ω,Z⟩ I.hz (λi f=>I.did i f f) I.nd
 rw[qw]at ot;exact ot.frame λx f=>f8 x (χ (I.big x f))
end
end
section
open Go.Lib
mutual
def iK:Tr->Nat | .mk _ _ ks xs=>1+ks.length+iN xs
def iN:List Tr->Nat | []=>0|x::l=>iK x+iN l
end
theorem qlj(v:Tr):iK v=1+DB v.aa8+iN v.aa7:=by cases v;rw[iK]
theorem Gw:∀a b:List Tr,iN (a++b)=iN a+iN b
 |[],b=>by simp[iN]
 |x::l,b=>by rw[zbs,iN,iN,Gw l b];omega
theorem XS{l:List Tr}{k:Nat}(b:k<DB l):iN (l.take (k+1))=iN (l.take k)+iK l[k]:=by rw[zai b,Gw];simp[iN]
mutual
def uL:∀v:Tr,cK v<=iK v
 |.mk k s ks xs=>by rw[cK,iK];have:=LB xs;omega
def LB:∀l:List Tr,xc l<=iN l
 |[]=>by simp[xc,iN]
 |x::l=>by rw[xc,iN];have:=uL x;have:=LB l;omega
end
mutual
def iT:Tr->Prop | .mk _ s ks xs=>(s.size<=2048/\∀k∈ks,k.size<=1024)/\jC xs
def jC:List Tr->Prop | []=>True|x::l=>iT x/\jC l
end
def QG(v:Tr):iT v↔(v.aa9.size<=2048/\∀k∈v.aa8,k.size<=1024)/\jC v.aa7:=by cases v;rw[iT]
theorem F6:∀{l:List Tr},jC l↔∀x∈l,iT x
 |[]=>by simp[jC]
 |x::l=>by rw[jC,F6];simp
mutual
def EJ:∀(v:Tr),iK v<=1000000->iT v->kn 1048576 v
 |.mk k s ks xs,h,g=>by rw[iK]at h;rw[iT]at g;rw[kn];exact⟨⟨ω,ω,λk b=>η⟩,KE xs ω g.2⟩
def KE:∀(l:List Tr),iN l<=1000000->jC l->m3 1048576 l
 |[],_,_=>by rw[m3];trivial
 |x::l,h,g=>by rw[iN]at h;rw[jC]at g;rw[m3];exact⟨EJ x ω g.1,KE l ω g.2⟩
end
theorem Sm.few{v:Tr}(h:iK v<=1000000)(g:iT v):Sm v:=⟨χ (uL v),EJ v h g⟩
structure PS (l:List Bt):Prop where
 n:l.length<=200
 s:∀x∈l,(lb x).length<=1024
def Y2(l:List Bt):Bool:=ph (l.length<=64)&&l.all λs=>Q2 (lb s)
def oY(c:UInt8):Bs:=if c=126 then [126,48]else if c=47 then [126,49]else [c]
def mu(l:Bs):Bs:=l.flatMap oY
def jp(l:List Bs):Bs:=l.flatMap λs=>47::mu s
theorem qif(l:Bs):replaceAll (replaceAll l [126] [126,48]) [47] [126,49]=mu l:=by rw[zN ξ ξ,zN ξ ξ,uP,uP,List.flatMap_assoc,mu];congr 1;funext x;by_cases h:x=126;subst h;simp[oY];by_cases h2:x=47;subst h2;simp[oY];simp[oY,h,h2]
def Er(l:Bs):(mu l).length<=2*DB l:=by
 induction l with
 |nil=>simp[mu]
 |cons c t b=>
  rw[mu,zc0,zah];have:(oY c).length<=2:=by by_cases h:c=126;simp[oY,h];by_cases h2:c=47 <;> simp[oY,h,h2]
  unfold mu at b;grind
theorem I8(a b:List Bs):jp (a++b)=jp a++jp b:=by unfold jp;simp
theorem YL(x:Bs):jp [x]=47::mu x:=by simp[jp]
end
section
variable {gl:Fr} {l:List Tr} {R:Tr -> Prop}
def FO{gl:Fr}(v:Tr)(l d:Int)(x:0<=l/\l<=1000)(u:0<=d/\d<=61){R:ad3}(h:∀r,-1000000000000000<=r->r<=l->(0<=r->r+iK v<=l)->R r):ab4 gl 53 [up .tree v,up PJ l,up PJ d] [.int .i64] R:=by
 refine PC.bd λe=>?_;have hb:v.aa8.length<=140737488355328/\DB v.aa7<=140737488355328:=e ⟨.tree,v⟩ ξ;apply Pr;refine⟨λj=>h _ ω ω ω,λj=>?_⟩;have t:d<=60:=by simp at j;omega
 rw[fK (n:=l-1) ω,fK ω];refine⟨λc i=>∃k:Nat,i=k/\k<=DB v.aa7/\-1000000000000000<=c/\c<=l/\(0<=c->c+(1+DB v.aa8+iN (v.aa7.take k))<=l),λc i=>DB v.aa7-i.toNat,⟨0,rfl,ω,ω,ω,λ_=>by simp[iN];omega⟩,?_⟩;rintro c i ⟨k,rfl,w,h1,h2,q⟩;refine⟨λf=>?_,λf=>h c h1 h2 λh0=>?_⟩;have b:k<DB v.aa7/\0<=c:=by simp at f;omega
 refine⟨v.aa7[k],⟨ω,Jx b.1⟩,?_⟩;rw[qw,fK ω];have m:=qi (zak b.1);refine FO v.aa7[k] c (d+1) ⟨b.2,ω⟩ ω λr p y o=>?_;rw[qd b.1 ω];refine⟨⟨k+1,rfl,ω,p,ω,λh0=>?_⟩,η⟩;have:=o h0;have:=q b.2;rw[XS b.1];omega;grind [qlj]
termination_by cK v
def E2{gl:Fr}(v:Tr){R:ad2}(h:∀b,(b=Ta->iT v)->R b):ab4 gl 54 [up .tree v] [.bool] R:=by
 refine PC.bd λn=>?_;have hb:v.aa8.length<=140737488355328/\DB v.aa7<=140737488355328:=n ⟨.tree,v⟩ ξ;apply Sz;refine⟨λo=>h _ (λe=>by cases e),λo=>?_⟩;have l:v.aa9.size<=2048:=by simp at o;omega
 refine⟨λi=>∃k:Nat,i=k/\k<=DB v.aa8/\∀x∈v.aa8.take k,x.size<=1024,λi=>DB v.aa8-i.toNat,⟨0,rfl,ω,ξ⟩,?_⟩;rintro i ⟨k,rfl,t,h1⟩;refine⟨λm=>?_,λm=>?_⟩;have f:k<DB v.aa8:=by simp at m;omega
 refine⟨v.aa8[k],⟨ω,mM f⟩,λ_=>h _ (λe=>by cases e),λp=>?_⟩;have r:v.aa8[k].size<=1024:=by simp at p;omega
 rw[qd f ω];refine⟨⟨k+1,rfl,ω,?_⟩,η⟩;rw[zai f];grind;have f:k=DB v.aa8:=by simp at m;omega
 subst f;rw[za2]at h1;refine⟨λi=>∃k:Nat,i=k/\k<=DB v.aa7/\∀x∈v.aa7.take k,iT x,λi=>DB v.aa7-i.toNat,⟨0,rfl,ω,ξ⟩,?_⟩;rintro i ⟨k,rfl,t,h2⟩;refine⟨λj=>?_,λj=>h _ λ_=>?_⟩;have c:k<DB v.aa7:=by simp at j;omega
 refine⟨v.aa7[k],⟨ω,Jx c⟩,?_⟩;rw[qw];have q:=qi (zak c);refine E2 v.aa7[k] λb hb=>⟨λ_=>h _ (λe=>by cases e),λp=>?_⟩;rw[qd c ω];refine⟨⟨k+1,rfl,ω,?_⟩,η⟩;rw[zai c];grind;have c:k=DB v.aa7:=by simp at j;omega
 subst c;rw[za2]at h2;exact(QG v).2 ⟨⟨l,h1⟩,F6.2 h2⟩
termination_by cK v
def RR(h:R (.mk 5 ⟨#[]⟩ [] l)):ab4 gl 52 [up (.row .tree) l] [.tree] R:=by apply Uu;exact h
def qlm{ks:List Bt}(h:R (.mk 6 ⟨#[]⟩ ks l)):ab4 gl 47 [up (.row .str) ks,up (.row .tree) l] [.tree] R:=by apply zho;exact h
def G7(b:GL gl){n:Int}(h1:-1000000<=n)(h2:n<=1000000)(h:R (.mk 3 (bl (Qa (qm (Lib.itoa n)).1)) [] [])):ab4 gl 51 [up PJ n] [.tree] R:=by apply zt6;refine UW b.pow ω ω ?_;exact Gj b.pow (Qu _ (χ (Go.X.RM n))) h
def um{gl:Fr}(a b:Tr){R:ad2}(h:∀r,(r=Ta↔a=b)->R r):ab4 gl 17 [up .tree a,up .tree b] [.bool] R:=by
 refine PC.bd λu=>?_;have hb:a.aa8.length<=140737488355328/\DB a.aa7<=140737488355328:=u ⟨.tree,a⟩ ξ;apply zdq;have x:∀s t:Bt,(s.toList==t.toList)=ph (s=t):=λs t=>by rw[y8,y8,zbd,beq_iff_eq,zG];exact o7
 simp only[x];refine⟨λo=>h _ ⟨λe=>(by cases e),λe=>?_⟩,λo=>?_⟩;simp_all;have l:a.aa6=b.aa6/\a.aa9=b.aa9/\DB a.aa8=DB b.aa8/\DB a.aa7=DB b.aa7:=by simp at o;have⟨⟨⟨h1,h2⟩,D⟩,E⟩:=o;exact⟨h1,h2,ω,ω⟩
 have⟨F,G,B,C⟩:=l;refine⟨λi=>∃k:Nat,i=k/\k<=DB a.aa8/\a.aa8.take k=b.aa8.take k,λi=>DB a.aa8-i.toNat,⟨0,rfl,ω,ξ⟩,?_⟩;rintro i ⟨k,rfl,A,h1⟩;refine⟨λq=>?_,λq=>?_⟩;have c:k<DB a.aa8:=by simp at q;omega
 have m:k<DB b.aa8:=ω
 refine⟨a.aa8[k],⟨ω,mM c⟩,b.aa8[k],⟨ω,mM m⟩,λj=>h _ ⟨λe=>(by cases e),λe=>?_⟩,λj=>?_⟩;simp_all;have p:a.aa8[k]=b.aa8[k]:=ψ j
 rw[qd c ω];refine⟨⟨k+1,rfl,ω,?_⟩,η⟩;grind [zai];have c:k=DB a.aa8:=by simp at q;omega
 subst c;rw[za2,B,za2]at h1;refine⟨λi=>∃k:Nat,i=k/\k<=DB a.aa7/\a.aa7.take k=b.aa7.take k,λi=>DB a.aa7-i.toNat,⟨0,rfl,ω,ξ⟩,?_⟩;rintro i ⟨k,rfl,A,h2⟩;refine⟨λw=>?_,λw=>h _ ⟨λ_=>?_,λ_=>rfl⟩⟩;have f:k<DB a.aa7:=by simp at w;omega
 have n:k<DB b.aa7:=ω
 refine⟨a.aa7[k],⟨ω,Jx f⟩,b.aa7[k],⟨ω,Jx n⟩,?_⟩;rw[qw,qw];have y:=qi (zak f);refine um a.aa7[k] b.aa7[k] λr z=>⟨λj=>h _ ⟨λe=>(by cases e),λe=>?_⟩,λj=>?_⟩;simp_all;have p:a.aa7[k]=b.aa7[k]:=z.1 (ψ j);rw[qd f ω];grind [zag,zai];grind
termination_by cK a
def VU(a b:Tr)(c:cK a<=1000000000000){R:ad2}(h:∀r,(r=Ta↔a=b)->R r):ab4 gl 17 [up .tree a,up .tree b] [.bool] R:=um a b h
end
section
open Go.Lib
variable {α:Type}
structure IsCmp {α:Type} (c:α->α->Int):Prop where
 rng:∀a b,c a b=-1\/c a b=0\/c a b=1
 eq0:∀a b,c a b=0↔a=b
 swap:∀a b,c b a=-c a b
 tr:∀a b d,c a b<=0->c b d<=0->c a d<=0
def iF{α:Type}(c:α->α->Int):List α->List α->Int
 |[],[]=>0
 |[],_::_=>-1
 |_::_,[]=>1
 |a::l,b::m=>if c a b=0 then iF c l m else c a b
def Fa{c:α->α->Int}(H:IsCmp c):IsCmp (iF c) where
 rng:=by
  intro a;induction a with
  |nil=>intro b;cases b <;> simp[iF]
  |cons x a ih=>
   intro b;cases b with
   |nil=>simp[iF]
   |cons y b=>rw[iF];by_cases h:c x y=0;simp_all;rw[zv h];exact H.rng x y
 eq0:=by
  intro a;induction a with
  |nil=>intro b;cases b <;> simp[iF]
  |cons x a ih=>
   intro b;cases b with
   |nil=>simp[iF]
   |cons y b=>rw[iF,zcv,<-H.eq0 x y];grind
 swap:=by
  intro a;induction a with
  |nil=>intro b;cases b <;> simp[iF]
  |cons x a ih=>
   intro b;cases b with
   |nil=>simp[iF]
   |cons y b=>rw[iF,iF,H.swap x y];grind
 tr:=by
  intro a;induction a with
  |nil=>intro b d h1 h2;cases d <;> simp[iF]
  |cons x a ih=>
   intro b d h1 h2;cases b with
   |nil=>simp[iF]at h1
   |cons y b=>
    cases d with
    |nil=>simp[iF]at h2
    |cons z d=>rw[iF]at h1 h2 ⊢;by_cases e:c x y=0;have:=(H.eq0 x y).1 e;grind;rw[zv e]at h1;by_cases f:c y z=0;have:=(H.eq0 y z).1 f;simp_all;rw[zv f]at h2;have h3:=H.tr x y z h1 h2;by_cases g:c x z=0;have:=(H.eq0 x z).1 g;subst this;have:=H.swap x y;omega;omega
def NC{c:α->α->Int}(H:IsCmp c)(p x y:List α):iF c (p++x) (p++y)=iF c x y:=by
 induction p with
 |nil=>rfl
 |cons a p b=>rw[zbs,zbs,iF,zA ((H.eq0 a a).2 rfl),b]
def my(a b:UInt8):Int:=if a.toNat<b.toNat then -1 else if a.toNat=b.toNat then 0 else 1
def cmpU_is:IsCmp my where
 rng:=λa b=>by unfold my;omega
 eq0:=λa b=>by unfold my;rw[<-zdt];omega
 swap:=λa b=>by unfold my;omega
 tr:=λa b d=>by unfold my;omega
def jR:Bs->Bs->Int:=iF my
def Wf:IsCmp jR:=Fa cmpU_is
theorem KO:∀a b:Bs,zcz a b=ph (jR a b=-1)
 |[],[]=>by simp[zcz,jR,iF]
 |[],_::_=>by simp[zcz,jR,iF]
 |_::_,[]=>by simp[zcz,jR,iF]
 |a::l,b::m=>by
  have c:=KO l m;unfold jR at c ⊢;rw[iF,zcz,c];by_cases h:a<b;have:my a b=-1:=by unfold my;rw[zA (UInt8.lt_iff_toNat_lt.1 h)]
  simp[h,this];by_cases h2:a=b;subst h2;simp[(cmpU_is.eq0 a a).2 rfl,h];have:my a b=1:=by unfold my;rw[zv (λe=>h (UInt8.lt_iff_toNat_lt.2 e)),zv (λe=>h2 (zdt.1 e))]
  grind
def cmpL:List Bs->List Bs->Int:=iF jR
def cmpL_is:IsCmp cmpL:=Fa Wf
theorem qig{a b:List Bs}{k:Nat}(h:a.take k=b.take k):cmpL a b=cmpL (a.drop k) (b.drop k):=by have:=NC Wf (a.take k) (a.drop k) (b.drop k);rw[zbz,h,zbz]at this;exact this
end
section
section
variable {k:Nat} {a b:List Bt} {gl:Fr}
structure SL (l:List Bt):Prop where
 n:l.length<=1000000
 s:∀x∈l,(lb x).length<=1048576
theorem PS.sl{l:List Bt}(h:PS l):SL l:=⟨χ h.n,λx b=>χ (h.s x b)⟩
theorem Oc{α:Type}{p:α->Bool}{l:List α}(b:k<DB l):(l.take (k+1)).all p=((l.take k).all p&&p l[k]):=by rw[zai b,zd4,zel,List.all_nil,zev]
theorem xH(s t:Bt):zcz s.toList t.toList=ph (jR (lb s) (lb t)=-1):=by rw[y8,y8,KO]
theorem FL(s t:Bt):(s.toList==t.toList)=ph (jR (lb s) (lb t)=0):=by rw[y8,y8,zbd,beq_iff_eq,zG,Wf.eq0]
def me(a b:List Bt):Int:=cmpL (a.map lb) (b.map lb)
theorem D7(h:a.take k=b.take k):me a b=me (a.drop k) (b.drop k):=by unfold me;rw[qig (k:=k),List.map_drop,List.map_drop];rw[<-List.map_take,<-List.map_take,h]
theorem YD(x y:Bt)(a b:List Bt):me (x::a) (y::b)=ite (jR (lb x) (lb y)=0) (me a b) (jR (lb x) (lb y)):=rfl
theorem qc9(h:a.take k=b.take k)(hk:k=DB a\/k=DB b):me a b=ite (DB a<DB b) (-1) (ite (DB b<DB a) 1 0):=by
  have hl:=congrArg zbu h;simp only [zbt] at hl;rw [D7 h];obtain rfl | rfl:=hk;rw [zed];cases hd:b.drop (DB a) with
  | nil=>have:=List.drop_eq_nil_iff.1 hd;(rw [zv ω,zv ω];rfl)
  | cons y t => have : (DB a) < (DB b) := by
                  obtain q | q:=zbv (DB a) (DB b);exact q;rw [zde q] at hd;cases hd
                rw [zA this];rfl
  rw [zed];cases hd:a.drop (DB b) with
  | nil=>have:=List.drop_eq_nil_iff.1 hd;(rw [zv ω,zv ω];rfl)
  | cons y t => have : (DB b) < (DB a) := by
                  obtain q | q:=zbv (DB b) (DB a);exact q;rw [zde q] at hd;cases hd
                rw [zv ω,zA this];rfl
def z8j(h:a.take k=b.take k)(e:k<DB a)(hb:k<DB b)(c:jR (lb a[k]) (lb b[k])≠0):me a b=jR (lb a[k]) (lb b[k]):=by rw[D7 h,zbg e,zbg hb,YD,zv c]
def N8(h:a.take k=b.take k)(c:k<DB a)(hb:k<DB b)(e:jR (lb a[k]) (lb b[k])=0):a.take (k+1)=b.take (k+1):=by rw[zai c,zai hb,h,o7.1 ((Wf.eq0 _ _).1 e)]
def Rv(t:a.length<=1000000){R:ad3}(h:R (me a b)):ab4 gl 74 [up (.row .str) a,up (.row .str) b] [.int .i64] R:=by
 apply za5;refine⟨λi=>∃k:Nat,i=k/\k<=DB a/\k<=DB b/\a.take k=b.take k,λi=>DB a-i.toNat,⟨0,rfl,ω,ω,ξ⟩,?_⟩;rintro i ⟨k,rfl,w,r,m⟩;refine⟨λl=>?_,λl=>?_⟩;have c:k<DB a/\k<DB b:=by simp at l;omega
 have p:=mM c.1;have q:=mM c.2;have o:=z8j m c.1 c.2;have u:=Wf.rng (lb a[k]) (lb b[k]);refine⟨a[k],⟨ω,p⟩,b[k],⟨ω,q⟩,λj=>?_,λj=>⟨a[k],⟨ω,p⟩,b[k],⟨ω,q⟩,λe=>?_,λe=>?_⟩⟩;rw[xH]at j;have f:jR (lb a[k]) (lb b[k])=-1:=ψ j
 rw[o ω,f]at h;exact h;rw[xH,FL]at e;have f:jR (lb a[k]) (lb b[k])=1:=by simp at e;omega
 rw[o ω,f]at h;exact h;rw[xH]at j;rw[xH,FL]at e;have f:jR (lb a[k]) (lb b[k])=0:=by simp at j e;omega
 have n:=qd c.1 ω;rw[n];exact⟨⟨k+1,rfl,ω,ω,N8 m c.1 c.2 f⟩,by have:=c.1;simp only[zag];omega⟩;have c:k=DB a\/k=DB b:=by simp at l;by_cases j:k<DB a;right;have:=l j;omega;left;omega
 rw[qc9 m c]at h;refine⟨λj=>?_,λj=>⟨λe=>?_,λe=>?_⟩⟩;have:a.length<DB b:=ν j
 rw[zA this]at h;exact h;have:b.length<DB a:=by simp at e;omega
 rw[zv ω,zA this]at h;exact h;have h1:¬a.length<DB b:=ν j
 have h2:¬b.length<DB a:=by simp at e;omega
 rw[zv h1,zv h2]at h;exact h
theorem OJ(a b:List Bt):me a b=0↔a=b:=by unfold me;rw[cmpL_is.eq0];constructor;intro h;have:=congrArg (List.map bl) h;rw[zbo,zbo]at this;have e:(bl ∘ lb)=(id:Bt->Bt):=funext λx=>Xl x;rw[e,List.map_id,List.map_id]at this;exact this;rintro rfl;rfl
def Ds(c:a.length<=1000000){R:ad2}(h:∀r,(r=Ta↔a=b)->R r):ab4 gl 40 [up (.row .str) a,up (.row .str) b] [.bool] R:=by apply Pj;refine Rv c (h _ ?_);rw[<-OJ];simp
end
section
def iL(l:Bs):List Int:=l.map λc=>(c.toNat:Int)
theorem JM(a b:Bs):iL (a++b)=iL a++iL b:=zbf
def JY{l:List Bs}{m:Nat}(h:∀x∈l,DB x<=m):(jp l).length<=DB l*(2*m+1):=by
 induction l with
 |nil=>simp[jp]
 |cons x l b=>rw[show x::l=[x]++l from rfl,I8,YL,zah,za1,zah,zcj,zc7,Nat.one_mul];have h1:=b λy c=>h y (ϑ c);have h2:=Er x;have e:=h x ξ;omega
end
end
section
open Go.Shelf Go.RowKit
def ES:Go.Shelf.Ren:=⟨fun|169=>70|n=>n,fun|70=>86|9=>9|0=>0|72=>89|37=>87|127=>133|3=>3|5=>5|n=>n,fun|n=>n⟩
def WX:Go.Proofs.Lays.n169 Tp ES:=by constructor <;> intros <;> kernel_rfl
def RN:Builder.Extra Tp ES:={
 sizeBuilder:=κ
 liesBuilder:=κ
 t5:=zeq
 a5:=Tryz.isAgg5
 z5:=Tryz.sizeOf5
 v5:=Tryz.zeroValue5
 infoByte:=κ
 cellsByte:=κ
 sizeByte:=κ
 neB5:=by decide }
def WN(B b:Nat)(l:List UInt8)(w:Nd)(h:Lib.IsBuilder 89 5 B b (Lib.byteCells l) w)(c:B<=w.heap.size):Calls Tp 70 #[ab6 ⟨b,0,Te⟩] w λe w'=>e=.returned (ab5 ⟨l.toArray⟩)/\Below B w w':=Any.Builder_String_any WX RN B b l w h c
end
section
open Go.RowKit
variable {h h':zc} {b:Nat} {l:Bs} {cs:Array Value} {K:Value -> zc -> Prop}
def Bld(h:zc)(b:Nat)(l:Bs):Prop:=∃(p:Option n8) (s:Sl),h[b]?=Td (.cells #[.pointer p,aK s] 89 (0,0))/\(p=Te\/p=Td ⟨b,0,Te⟩)/\Fd h (b+1) 5 1 s (Lib.byteCells l)
theorem Bld.lt(H:Bld h b l):b<h.size:=by have⟨p,s,e,_⟩:=H;grind
theorem Bld.ab0(H:Bld h b l)(k:BT h.size h h'):Bld h' b l:=by have c:=H.lt;have⟨p,s,e,f,i⟩:=H;exact⟨p,s,by rw[k.get b c];exact e,f,i.keepN k⟩
theorem Bld.new(h:zc):Bld (h.push (.cells #[.pointer Te,.slice Te 0 0] 89)) h.size []:= ⟨Te,⟨Te,0,0⟩,ye _ _,.inl rfl,Fd.nil _ _ _ _⟩
def DY:(zbe.info? 89).map (·.size)=Td 2:=κ
theorem MQ:liesAt Tp zbe.depth 89 (2 / zbe.cellsOf 89) 0 89 1=Ta:=κ
theorem rR:zbe.underlying 86=Td (.pointer 89):=κ
theorem vz:zbe.underlying 199=Td .unsafePointer:=κ
def Mi(b:Nat)(w:Nd)(h0:w.cell? ⟨b,0,Te⟩=Td (ab6 ⟨b,0,Te⟩)):Calls Tp 123 #[ab6 ⟨b,0,Te⟩] w λe w'=>e=.returned (.tuple #[])/\w'=w:=by
 have⟨j,c,_⟩:=zc5.1 DY;have mixed:=Tryz.mixed
 go_enter func123,Tryz.ntmps123
 go_wp2
 rw[Lib.run_neq_ptr_same w _ rR c]
 go_wp2
 go_end0
 simp
def VR(b:Nat)(w:Nd)(h0:w.cell? ⟨b,0,Te⟩=Td (.pointer Te))(c:w.shape? b=Td (89,2))(h:w.frozen? ⟨b,0,Te⟩=Tc):Calls Tp 123 #[ab6 ⟨b,0,Te⟩] w λe w'=>e=.returned (.tuple #[])/\w'=w.setCell ⟨b,0,Te⟩ (ab6 ⟨b,0,Te⟩):=by
 have⟨j,f,i⟩:=zc5.1 DY;have mixed:=Tryz.mixed
 go_enter func123,Tryz.ntmps123
 go_wp2
 rw[Lib.run_to_unsafe w ⟨b,0,Te⟩ rR vz f ω c (Nat.zero_lt_succ 1)];simp only[Result.andThen];rw[Oper.upon_value]
 go_wp2
 rw[run_callFunc_extern func195 κ κ κ (e:=zfd) κ];rw[Lib.run_noEscape];simp only[Result.andThen];rw[Oper.upon_value]
 go_wp2
 rw[Lib.run_from_unsafe w ⟨b,0,Te⟩ vz rR f c MQ];simp only[Result.andThen];rw[Oper.upon_value]
 go_wp2
 go_end0
 simp
theorem JV{b o:Nat}{T:Nw}(e:h[b]?=Td (.cells cs T (0,0)))(v:Value)(B:Nd)(d:Nat):(mk B d h).setCell ⟨b,o,Te⟩ v=mk B d (h.setIfInBounds b (.cells (cs.setIfInBounds o v) T (0,0))):=by unfold World.setCell mk;simp only;congr 1;grind
theorem BT.ne(e:h'.size=h.size)(c:∀i,i≠b->h'[i]?=h[i]?):BT b h h':=⟨ω,λi hi=>c i ω⟩
def Itk(h h':zc):Prop:=∀(i:Nat) (s:Bt) (p:Nat),h[i]?=Td (.stringIter s p)->h'[i]?=Td (.stringIter s p)
theorem Itk.trans{a b c:zc}(x:Itk a b)(y:Itk b c):Itk a c:=λi s p e=>y i s p (x i s p e)
theorem Itk.ab0(k:BT h.size h h'):Itk h h':=λi s p e=>by have hi:i<h.size:=(zaq.1 e).1;rw[k.get i hi];exact e
theorem Itk.ne{T:Nw}{m:Nat×Nat}(e:h[b]?=Td (.cells cs T m))(f:∀i,i≠b->h'[i]?=h[i]?):Itk h h':=λi s p c=>η
theorem Itk.own{base:Nat}{e:Nw}{sz:Nat}{s:Sl}{xs:ac1}(H:Fd h base e sz s xs)(f:∀i,i<h.size->(∀p,s.a=Td p->i≠p.block)->h'[i]?=h[i]?):Itk h h':=λi t p j=>by have hi:i<h.size:=(zaq.1 j).1;rw[f i hi λq m l=>?_];exact j;obtain⟨k,_⟩|⟨g,cap,b,k,_,c,_⟩:=H.2;simp_all;have c:h[g]?=Td (.cells b e (0,0)):=c;simp_all
def y7(H:Bld h b l)(j:∀h',Bld h' b l->BT b h h'->h'.size=h.size->Itk h h'->K (.tuple #[]) h'):ab3 123 #[ab6 ⟨b,0,Te⟩] h K:=by
 have n:=H.lt;have⟨p,s,e,k,f⟩:=H;have c:∀B d,(mk B d h).cell? ⟨b,0,Te⟩=Td (.pointer p):=λB d=>by have:(mk B d h).heap[b]?=Td (.cells #[.pointer p,aK s] 89 (0,0)):=e;simp[World.cell?,this]
 obtain rfl|rfl:=k;refine XC.of_calls λB d=>(VR b (mk B d h) (c B d) ?_ ?_).mono ?_
 have:(mk B d h).heap[b]?=Td (.cells #[.pointer Te,aK s] 89 (0,0)):=e;simp[World.shape?,this];exact zR ⟨_,e⟩ B d;rintro e' w' ⟨rfl,rfl⟩;rw[JV e];refine⟨_,rfl,rfl,rfl,rfl,?_⟩;show K _ (h.setIfInBounds b _);refine j _ ⟨_,s,?_,.inr rfl,?_⟩ ?_ ξ (Itk.ne e λi hi=>zc1 (Ne.symm hi));simp_all;refine f.ab0 λq m=>?_;have:=f.base_le q m;grind;exact BT.setBlk _ (zac _);refine XC.of_calls λB d=>(Mi b (mk B d h) (c B d)).mono ?_;rintro e' w' ⟨rfl,rfl⟩;exact⟨_,rfl,rfl,rfl,rfl,j _ ⟨_,s,e,.inr rfl,f⟩ (BT.refl _ _) rfl (Itk.ab0 (BT.refl _ _))⟩
def qP:JT Tp 87 5 (.int .u8 0) 1 1:=⟨κ,⟨Tryz.t5,κ,κ,κ,κ⟩,rfl,ω⟩
def DG:zbe.underlying 9=Td .string:=κ
def FJ:yf Tp 87=Ta:=κ
def LO:yo Tp 87=1:=κ
def D6{p:Option n8}{s t:Sl}(e:h[b]?=Td (.cells #[.pointer p,aK t] 89 (0,0)))(k:p=Te\/p=Td ⟨b,0,Te⟩)(i:Fd h (b+1) 5 1 s (Lib.byteCells l)){K:zc->Prop}(r:∀h',Bld h' b l->BT b h h'->h'.size=h.size->Itk h h'->K h'):CA Tp (zae 87 (ab6 ⟨b,1,Te⟩) (.slice s.a s.len s.cap)) h K:=by intro B d;have⟨h',n,j,f,c⟩:=Yy (P:=Tp) FJ LO e (o:=1) (v:=aK s) rfl ξ (by simp[aK,Value.cells,pi]) B d;refine⟨d,h',n,r h' ⟨p,s,?_,k,?_⟩ (BT.ne f c) f (Itk.ne e c)⟩;rw[j];rfl;refine i.ab0 λq m=>?_;have:=i.base_le q m;grind
def Y3(H:Bld h b l)(S:l.length<140737488355328)(c:UInt8)(O:∀h',Bld h' b (l++[c])->BT b h h'->Itk h h'->K .nilIface h'):ab3 133 #[ab6 ⟨b,0,Te⟩,.int .u8 (c.toNat:Int)] h K:=by
 apply wh;refine y7 H λh2 A k2 z2 E=>⟨rfl,_,rfl,?_⟩;have w:=A.lt;have⟨p,s,e,P,m⟩:=A;have f:=m.1;rw[Lib.byteCells_length,zbn]at f;refine⟨s,Blk.ab1 (o:=0) (k:=1) (cs:=#[.pointer p,aK s]) ⟨_,e⟩ rfl,?_⟩;intro r;have⟨j,T,b5⟩:=jo (g:=r) rfl;have C:r[b]?=Td (.cells #[.pointer p,aK s] 89 (0,0)):=by rw[j.get b w];exact e
 have z:=m.keepN j;clear_value r;refine Zh qP z (src:=⟨Td (ab7 h2),1,1⟩) (news:=[.int .u8 (c.toNat:Int)]) (n:=r.size) ?_ rfl (by simp[pi]) η η ω λB y V G t Y Q=>⟨B,rfl,_,rfl,?_⟩;refine .inr ⟨h2.size,0,rfl,ω,λi v u=>?_⟩
 match i,u with
 |0,u=>cases u;exact b5.cell rfl
 have L:y[b]?=Td (.cells #[.pointer p,aK s] 89 (0,0)):=by rw[t b ω λq x=>χ (m.base_le q x)];exact C
 have D:Fd y (b+1) 5 1 B (Lib.byteCells (l++[c])):=by
  have:Lib.byteCells (l++[c])=Lib.byteCells l++[.int .u8 (c.toNat:Int)]:=by unfold Lib.byteCells;rw[zbf];rfl
  rw[this];exact G
 have F:BT b h y:=k2.trans ⟨ω,λi hi=>by rw[t i ω λq x=>χ (m.base_le q x)];exact j.get i ω⟩ (zac _);refine D6 L P D λN I J U M=>O N I (F.trans J (zac _)) (E.trans ((Itk.ab0 j).trans ((Itk.own z t).trans M)))
def zx2(H:Bld h b l)(f:l.length<140737488355328)(c:UInt8)(e:∀h',Bld h' b (l++[c])->BT b h h'->K .nilIface h'):ab3 133 #[ab6 ⟨b,0,Te⟩,.int .u8 (c.toNat:Int)] h K:=
 Y3 H f c λh' a b _=>e h' a b
def EA(H:Bld h b l)(t:Bs)(Y:l.length+DB t<=140737488355328)(M:∀h',Bld h' b (l++t)->BT b h h'->Itk h h'->K (.tuple #[ab9 (DB t:Int),.nilIface]) h'):ab3 68 #[ab6 ⟨b,0,Te⟩,ab5 (bl t)] h K:=by
 apply js;refine y7 H λh2 z k2 z2 E=>⟨rfl,_,rfl,?_⟩;have A:=z.lt;have⟨p,s,e,N,j⟩:=z;have f:=j.1;rw[Lib.byteCells_length,zbn]at f;refine⟨s,Blk.ab1 (o:=0) (k:=1) (cs:=#[.pointer p,aK s]) ⟨_,e⟩ rfl,?_⟩;have c:=zn t;refine Wk qP j (x:=.string (bl t)) (m:=(bl t).size) (news:=Lib.byteCells t) (λB d=>?_) (ο c) (ο c) ω λy u S O r V U=>⟨y,rfl,_,rfl,?_⟩;have:=Src.ofString (P:=Tp) (w:=mk B d h2) DG (bl t);have T:byteCells (bl t)=Lib.byteCells t:=by unfold byteCells Lib.byteCells;have:(bl t).data.toList=t:=Zn t;rw[this]
 simp_all;have G:u[b]?=Td (.cells #[.pointer p,aK s] 89 (0,0)):=by rw[r b ω λq n=>χ (j.base_le q n)];exact e
 have C:Fd u (b+1) 5 1 y (Lib.byteCells (l++t)):=by
  have:Lib.byteCells (l++t)=Lib.byteCells l++Lib.byteCells t:=by unfold Lib.byteCells;rw[zbf]
  rw[this];exact O
 have I:BT b h u:=k2.trans ⟨ω,λi hi=>r i ω λq n=>χ (j.base_le q n)⟩ (zac _);refine D6 G N C λL D F Q J=>?_;rw[c];exact M L D (I.trans F (zac _)) (E.trans ((Itk.own j r).trans J))
def IZ(H:Bld h b l)(t:Bs)(e:l.length+DB t<=140737488355328)(c:∀h',Bld h' b (l++t)->BT b h h'->K (.tuple #[ab9 (DB t:Int),.nilIface]) h'):ab3 68 #[ab6 ⟨b,0,Te⟩,ab5 (bl t)] h K:=
 EA H t e λh' a b _=>c h' a b
def Dz(H:Bld h b l)(m:∀h',BT b h h'->K (ab5 (bl l)) h'):ab3 70 #[ab6 ⟨b,0,Te⟩] h K:=by
 have j:=H.lt;have⟨p,s,e,k,i⟩:=H;refine XC.of_calls λB d=>(WN b b l (mk B d h) ?_ (zer j)).mono ?_;have hb:Lib.BuilderAt 89 5 b b (.pointer p) (Lib.byteCells l) (mk B d h):=by
  refine⟨zac _,aK s,e,?_,?_⟩;have h1:=i.1;rw[zbn]at h1;rw[h1];exact i.base (Nat.le_succ b);intro f;cases ha:s.a with
  |none=>rw[aK,ha]at f;cases f
  |some q=>
   have:=i.base_le q ha;rw[aK,ha]at f;have:q.block=b:=by simpa[Value.ownBlock]using f
   omega
 obtain rfl|rfl:=k;exact .inl hb;exact .inr hb;rintro e' w' ⟨rfl,c⟩;exact⟨_,rfl,c.os,c.tape,c.output,m _ ⟨c.size,c.block⟩⟩
end
section
open Go.Lib
theorem Ui(l:Bs):decodeL l=dec l:=by rw[decodeL_N,dec]
def La{l:Bs}(h:l≠[])(b:jK (dec l)=Tc):encodeRune ((dec l).1:Int)=l.take (dec l).2:=by rw[<-Ui]at b ⊢;refine encode_decode l h λ⟨h1,h2⟩=>?_;unfold jK at b;simp_all
def XQ(l:Bs):(dec l).1<=1114111:=by have h0:=(l.getD 0 0).toNat_lt;have h1:=(l.getD 1 0).toNat_lt;have h2:=(l.getD 2 0).toNat_lt;have b:=(l.getD 3 0).toNat_lt;unfold dec decodeN;grind
def kq(c:UInt8):Bs:=
 if c=34\/c=92 then [92,c]else if c=8 then [92,98]else if c=12 then [92,102]else if c=10 then [92,110]else if c=13 then [92,114]else if c=9 then [92,116]
 else if c.toNat<32 then [92,117,48,48,zcl (48+c.toNat / 16),zcl (if c.toNat % 16<10 then 48+c.toNat % 16 else 87+c.toNat % 16)]else [c]
def hY(l:Bs):Bs:=l.flatMap kq
def io(l:Bs):Bs×Int:=if Q2 l then(34::hY l++[34],0)else([],2)
end
section
open Go.RowKit
def Tt{h:zc}{b:Nat}{l:Bs}(H:Bld h b l){r:Int}(h0:0<=r)(h1:r<=1114111)(Z:l.length+4<=140737488355328){K:vvv}(M:∀h' n,Bld h' b (l++Lib.encodeRune r)->BT b h h'->Itk h h'->K (.tuple #[ab9 n,.nilIface]) h'):ab3 198 #[ab6 ⟨b,0,Te⟩,.int .i32 r] h K:=by
 apply Yc;refine y7 H λh2 A k2 z2 E=>⟨rfl,_,rfl,?_⟩;have m:=A.lt;have⟨p,s,e,Q,u⟩:=A;have t:=u.1;rw[Lib.byteCells_length,zbn]at t;have c1:=Blk.ab1 (o:=0) (k:=1) (v:=aK s) (cs:=#[.pointer p,aK s]) ⟨_,e⟩ rfl;refine⟨s,c1,_,rfl,s,c1,?_⟩;refine XC.of_calls λB d=>(Xn (b+1) (aK s) s.len (Lib.byteCells l) r ω ω (mk B d h2) u ω (show b+1<=h2.size by omega)).mono ?_;rintro e' w' ⟨C,rfl,q,o,f⟩;obtain⟨j,rfl,U⟩:∃j:Sl,C=aK j/\j.len=s.len+(Lib.runeCells r).length:=by obtain⟨rfl,hz⟩|⟨g,cap,S,rfl,_⟩:=q.2;exact⟨⟨Te,0,0⟩,rfl,hz.symm⟩;exact⟨⟨_,_,_⟩,rfl,rfl⟩
 have D:Fd w'.heap (b+1) 5 1 j (Lib.byteCells (l++Lib.encodeRune r)):=by
  have V:Lib.byteCells (l++Lib.encodeRune r)=Lib.byteCells l++Lib.runeCells r:=by rw[<-Lib.byteCells_encodeRune];unfold Lib.byteCells;rw[zbf]
  rw[V];rw[<-U]at q;exact q
 have G:w'.heap[b]?=Td (.cells #[.pointer p,aK s] 89 (0,0)):=by
  have w:=f.block b (by show b<(h2.push o).size;grind) (by
   intro c;cases ha:s.a with
   |none=>rw[aK,ha]at c;cases c
   |some a=>have:=u.base_le a ha;rw[aK,ha]at c;simp only[Value.ownBlock,zad]at c;omega)
  rw[w];show(h2.push o)[b]?=_;rw[Array.getElem?_push_lt m,<-e];simp[m]
 have I:BT b h w'.heap:=by
  refine k2.trans ⟨?_,λi hi=>?_⟩ (zac _);have:=f.size;have h3:(h2.push o).size<=w'.heap.size:=this;grind;have w:=f.block i (by show i<(h2.push o).size;grind) (by
   intro c;cases ha:s.a with
   |none=>rw[aK,ha]at c;cases c
   |some a=>have:=u.base_le a ha;rw[aK,ha]at c;simp only[Value.ownBlock,zad]at c;omega)
  rw[w];show(h2.push o)[i]?=_;grind
 have O:Itk h2 w'.heap:=Itk.own u λi hi x=>by
  have w:=f.block i (by show i<(h2.push o).size;grind) (by
   intro c;cases ha:s.a with
   |none=>rw[aK,ha]at c;cases c
   |some a=>have:=x a ha;rw[aK,ha]at c;simp only[Value.ownBlock,zad]at c;exact this c)
  rw[w];show(h2.push o)[i]?=_;grind
 refine⟨_,rfl,f.os,f.tape,f.output,j,rfl,_,rfl,?_⟩;refine D6 G Q D λL z F Y J=>?_;have N:=z;have⟨P,y,T,_,_⟩:=N;exact⟨_,rfl,y,Blk.ab1 (o:=0) (k:=1) (v:=aK y) (cs:=#[.pointer P,aK y]) ⟨_,T⟩ rfl,M L _ z (I.trans F (zac _)) (E.trans (O.trans J))⟩
end
section
open Go.Lib
def UP(l:Bs):(replaceAll l [126] [126,48]).length<=2*DB l:=by
 rw[zN ξ ξ,uP];induction l with
 |nil=>simp
 |cons c t b=>grind
end
section
variable {gl:Fr} {l:List Bt}
def AP(A:GL gl)(C:SL l){R:ad2}(G:R (Y2 l)):ab4 gl 78 [up (.row .str) l] [.bool] R:=by
 intro h M vs t ag F
 match vs,F with
 |[u],⟨hu,_⟩=>
  obtain⟨s,rfl,k⟩:=jU hu;have k:Rd M (.row .str) l [aK s]:=k;have⟨i,H,D⟩:=CD k;apply PX.of;apply Sq s;have r:ph (((s.len:Nat):Int)<=64)=ph (DB l<=64):=by rw[i,zbd,zG,zG];omega
  rw[r];refine⟨λv h'=>∃b,v=.bool b/\(ph (DB l<=64)=Ta->b=l.any λx=>!(Q2 (lb x)))/\∃M',At h M h' M',λj=>?_,λj=>⟨Ta,Ta,rfl,λe=>(ς e j),M,At.refl ag⟩,λ_ v h' ⟨b,e,_⟩=>⟨b,e⟩,?_⟩;refine(Ug (gl:=gl) ag k (p:=λx=>!(Q2 (lb x))) λx E=>⟨κ,λh' M' N L' m=>?_⟩).go λw J I b B c o=>⟨b,Jb c,b,rfl,λ_=>o,I,B⟩;have:=w5 m;subst this;apply PX.of;show ab3 136 #[ab5 x] h' _;apply Om;have q:=R8 A.tabs (l:=lb x) (R:=λb=>b=Q2 (lb x)) (χ (C.s x E)) rfl;rw[Xl]at q;exact q.go (vs:=[ab5 x]) (t.trans L'.le) L'.ag (zo (GE _) qc) λw L y b z f n=>⟨b,Jb f,y,_,z,Qr.2 (GS _),ϕ n⟩;rintro b h' ⟨b',e,hb,M',L'⟩;cases e;refine⟨M',_,L',Qr.2 (GS _),?_⟩;have:(cond (ph (DB l<=64)) (!b) Tc)=Y2 l:=by
   unfold Y2;cases j:ph (DB l<=64)with
   |false=>rfl
   |true=>rw[hb j,zK,zce,zbd];simp
  rw[this];exact G
def GY(e:GL gl){s old new:Bs}(j:s.length<=4194304)(b:1<=DB old)(f:new.length<=2){R:Bt->Prop}(h:R (bl (Lib.replaceAll s old new))):ab4 gl 134 [up .str (bl s),up .str (bl old),up .str (bl new)] [.str] R:=by have c:=Lib.countB_le (bl old) (by rw[zn];exact b) (bl s).size (bl s) (zac _);rw[zn]at c;have i:Lib.countB (bl s) (bl old)*DB new<=DB s*2:=zcg c f;refine VN e.max (by rw[zn];omega) (by rw[zn];exact b) (by rw[zn,zn];omega) ?_;rw[Zn,Zn,Zn];exact h
def Hx(Q:GL gl)(T:SL l){R:Bt×Int->Prop}(h1:Y2 l=Ta->R (bl (jp (l.map lb)),0))(h2:Y2 l=Tc->R (bl [],1)):ab4 gl 75 [up (.row .str) l] [.str,.int .i64] R:=by
 intro h M vs hM ag ha
 match vs,ha with
 |[u],⟨hu,_⟩=>
  obtain⟨s,rfl,J⟩:=jU hu;have J:Rd M (.row .str) l [aK s]:=J;have⟨ab,ar,ai⟩:=CD J;have ret:∀(M':Fr) (x:Bt) (e:Int),Yx M' [.str,.int .i64] (x,e) (.tuple #[ab5 x,ab9 e]):=λM' x e=>⟨[_,_],⟨_,_,rfl,rfl,_,rfl,rfl⟩,rfl⟩;apply PX.of;apply PN s;have p:ab4 gl 78 [up (.row .str) l] [.bool] (λr=>r=Y2 l):=AP Q T rfl;refine p.go (vs:=[aK s]) hM ag (zo hu qc) λw g t r o C z=>⟨r,Jb C,λA=>⟨t,_,o,ret _ _ _,h2 (by rw[<-z];simpa using A)⟩,λA=>?_⟩;have n:Y2 l=Ta:=by rw[<-z];simpa using A
  have hn:l.length<=64:=by unfold Y2 at n;simp at n;exact n.1
  have tl:∀k,(jp ((l.take k).map lb)).length<=200000000:=by
   intro k;have:=JY (l:=(l.take k).map lb) (m:=1048576) λx A=>by obtain⟨y,hy,rfl⟩:=zbr.1 A;exact T.s y (List.mem_of_mem_take hy)
   have e:((l.take k).map lb).length<=64:=by rw[zas,zbt];omega
   have:((l.take k).map lb).length*(2*1048576+1)<=64*(2*1048576+1):=za6 _ e;omega
  intro E;have L:At g t E t:=At.push o.ag _;have b4:Bld E g.size []:=Bld.new g;have ac:=o.trans L;have af:=b4.lt;clear_value E;refine⟨λi F=>∃k:Nat,i=k/\k<=DB l/\Bld F g.size (jp ((l.take k).map lb))/\BT g.size E F,λi _=>DB l-i.toNat,⟨0,rfl,ω,by simpa[jp]using b4,BT.refl _ _⟩,?_⟩;rintro i F ⟨k,rfl,hk,S,k8⟩;have gz:g.size<=E.size:=L.ab0.size;have q:BT g.size g F:=L.ab0.trans k8 (zac _);have P:AgM t F:=o.ag.ab0 q;refine⟨λO=>?_,λO=>?_⟩;have b:k<DB l:=by simp at O;omega
  refine ke P (Rd.mono o.le J) b rfl rfl ?_;have hT:=tl k;have am:=T.s _ (zak b);refine zx2 S ω 47 λh9 B9 I=>⟨_,rfl,?_⟩;have U:=q.trans I (zac _);have V:AgM t h9:=o.ag.ab0 U;have e1:=Er (lb l[k]);have ae:=UP (lb l[k]);have p1:=GY (gl:=gl) Q (s:=lb l[k]) (old:=[126]) (new:=[126,48]) ω ξ ξ (R:=λr=>r=bl (Lib.replaceAll (lb l[k]) [126] [126,48])) rfl;rw[Xl]at p1;have D:=hM.trans o.le;refine p1.go (vs:=[ab5 l[k],ab5 (bl [126]),ab5 (bl [126,48])]) D V (zo (GE _) (zo (GE _) (zo (GE _) qc))) λv ah al r f c H=>⟨r,kW c,?_⟩;subst H;have p2:=GY (gl:=gl) Q (s:=Lib.replaceAll (lb l[k]) [126] [126,48]) (old:=[47]) (new:=[126,49]) ω ξ ξ (R:=λr=>r=bl (mu (lb l[k]))) (by rw[qif]);refine p2.go (vs:=[ab5 _,ab5 (bl [47]),ab5 (bl [126,49])]) (D.trans f.le) f.ag (zo (GE _) (zo (GE _) (zo (GE _) qc))) λv an aj r N j B=>⟨r,kW j,?_⟩;subst B;have G:=f.ab0.trans N.ab0 f.ab0.size;have Y:=B9.ab0 G;refine IZ Y _ (by simp only[zah,zcj];omega) λak aa Z=>⟨_,_,rfl,?_⟩;have hw:=qd b ω;rw[hw];refine⟨⟨k+1,rfl,ω,?_,?_⟩,by simp only[zag];omega⟩;rw[zai b,zbf,I8];have:jp (List.map lb [l[k]])=[47]++mu (lb l[k]):=by simp[jp]
  rw[this,<-za3];exact aa;have z9:=B9.lt;exact((k8.trans I (zac _)).trans (G.mono ω) (zac _)).trans Z (zac _);have b:k=DB l:=by simp at O;omega
  subst b;rw[za2]at S;refine Dz S λh9 I=>⟨_,rfl,t,_,?_,ret _ _ _,h1 n⟩;exact o.trans (At.same o.ag (q.trans I (zac _)))
end
section
open Go.RowKit
variable {M:Fr} {h:zc} {K:Value -> zc -> Prop} {b o c:Nat}
def Brn(gl:Fr):Prop:=∃cs:Array Value,gl 7=Td cs/\cs[15]?=Td (.int .u8 4)
theorem Brn.mono{gl M:Fr}(h:Brn gl)(le:Fr.le gl M):Brn M:=by have⟨cs,e,h⟩:=h;exact⟨cs,le _ _ e,h⟩
def Rb(c:K (ab8 Ta) h):ab3 354 #[ab9 16] h K:=by apply Z8;exact Eq.mpr (congrArg (λb=>K (ab8 b) h) κ) c
def qpu(hb:Brn M)(ag:AgM M h)(c:K (ab9 4) h):ab3 355 #[.int .u64 16] h K:=by
 have⟨cs,e,f⟩:=hb;apply Jc;refine⟨λb=>(by cases b),λ_=>?_⟩;apply Yb;refine⟨λb=>(by cases b),λ_=>⟨_,⟨rfl,by decide +kernel,by decide +kernel⟩,4,?_,4,rfl,c⟩⟩;have key:∀n:Nat,n=15->zd h (zab ⟨7,0,Te⟩ n)=Td (.int .u8 4):=by rintro n rfl;exact ag.cell e f
 exact key _ κ
def Es:Bs:=[48,49,50,51,52,53,54,55,56,57,97,98,99,100,101,102,103,104,105,106,107,108,109,110,111,112,113,114,115,116,117,118,119,120,121,122]
def mN(k:Nat):UInt8:=Es[k]?.getD 0
theorem JL(k:Nat):zf (ad8:Bt) k=((mN k).toNat:Int):=yb Es k
def ic(c:Nat):Bs:=if c<16 then [mN c]else [mN 1,mN (c % 16)]
def z65:Array Value:=q0
def qpv:yf Tp 5=Ta:=κ
def Rw:yo Tp 5=1:=κ
def Kf{l:Bs}{cap:Nat}(f:∀j (c:j<DB l),zd h ⟨b,o+j,Te⟩=Td (.int .u8 (l[j].toNat:Int)))(e:K (ab5 (bl l)) h):qq Tp (convert 87 9 (.slice (Td ⟨b,o,Te⟩) (DB l) cap)) h K:=by intro B d;refine⟨_,d,h,run_convert_bytes_back (P:=Tp) (mk B d h) 87 9 5 ⟨b,o,Te⟩ cap l Tryz.underlying87 zeq Tryz.underlying9 λj c=>?_,e⟩;rw[CB,zh];exact f j c
theorem Ob(b:c<18446744073709551616):zaa .u64 (((zcd (zbw .u64) (c:Int)) &&& (zcd (zbw .u64) (15:Int))).toNat:Int)=((c % 16:Nat):Int):=by rw[show(15:Int)=((15:Nat):Int)from rfl,OX b ζ];congr 1;exact Nat.and_two_pow_sub_one_eq_mod c 4
def BZ{k:Nat}(h:k<36):0<=(k:Int)/\(k:Int)<(((ad8:Bt)).size:Int):=by have:(((ad8:Bt)).size:Int)=36:=rfl;omega
def Ho{g:zc}{cs:ac2}(B:Blk g b cs)(c:o<cs.size){x:Int}{K:zc->Prop}(e:∀g',Blk g' b (cs.setIfInBounds o (.int .u8 x))->g'.size=g.size->(∀i,i≠b->g'[i]?=g[i]?)->K g'):CA Tp (zae 5 (ab6 ⟨b,o,Te⟩) (.int .u8 x)) g K:= jq qpv Rw B c rfl e
def V2(hc:c<32)(hb:Brn M)(ag:AgM M h)(V:∀h',BT h.size h h'->K (.tuple #[.slice Te 0 0,ab5 (bl (ic c))]) h'):ab3 303 #[.slice Te 0 0,.int .u64 (c:Int),ab9 16,ab8 Tc,ab8 Tc] h K:=by
 refine Qv ⟨Te,0,0⟩ (c:Int) 16 Tc Tc h K ?_;intro K2 G;refine⟨λb=>(by simp at b),λ_=>G _ ?_⟩;intro Q;have⟨P,z3,Y⟩:=jo (g:=Q) rfl;clear_value Q;have I:=ag.ab0 P;intro K6 D;refine⟨λb=>(by cases b),λ_=>D _ _ ?_⟩;intro Z H;have C:zaa .u64 16=16:=ζ
 have J:zaa .u64 (16-1)=15:=ζ
 rw[C,J];refine Rb ⟨Ta,rfl,λ_=>?_,λb=>(by cases b)⟩;refine qpu hb I ⟨_,rfl,?_⟩;have p:z65.size=65:=rfl;have fin:∀(g:zc) (cs:ac2) (u i:Nat),BT h.size h g->Blk g h.size cs->cs.size=65->u<16->1<=i->i<=65->(∀j,j<65-i->∃x:UInt8,(ic c)[j+1]?=Td x/\cs[i+j]?=Td (.int .u8 (x.toNat:Int)))->(ic c).length=66-i->(ic c)[0]?=Td (mN u) ->
  CA Tp (zae 5 (.pointer (Td (zab (ab7 h) (((i-1:Nat):Int).toNat*1)))) (.int .u8 (zf (ad8:Bt) ((u:Int)).toNat))) g (λA=>Z (((i-1:Nat):Int)) A):=by
  intro g cs u i m r z hu S U n w e;rw[zag,zag,zbn,JL];rw[zh,zax];refine Ho r (ο z) λg2 O z2 L=>H _ _ ?_;intro T t;refine⟨λb=>(by cases b),λ_=>t _ _ ?_⟩;refine⟨λb=>(by cases b),λ_=>⟨⟨ω,ω,ω⟩,?_⟩⟩;have F:BT h.size h g2:=⟨χ m.size,λj l=>(L j ω).trans (m.get j l)⟩;have E:zdw (iy (Td (ab7 h)) 1 ((i-1:Nat):Int).toNat 65) ((65:Int).toNat-((i-1:Nat):Int).toNat) (65-((i-1:Nat):Int).toNat)=.slice (Td ⟨h.size,i-1,Te⟩) (ic c).length (65-(i-1)):=by rw[zag,w,show(65:Int).toNat-(i-1)=66-i from ω];congr 1;unfold iy;rw[zv ω];simp only[Option.map_some,zh,zax,zbn]
  rw[E];refine Kf (λj l=>?_) ⟨_,rfl,V _ F⟩;refine O.cell ?_;rw[Array.getElem?_setIfInBounds];cases j with
  |zero=>rw[zej,zA rfl,zA (ο z)];rw[zam l]at e;rw[za9 e]
  |succ j=>rw[zv ω];have⟨x,y,B⟩:=n j ω;rw[show i-1+(j+1)=i+j from ω,B];rw[zam l]at y;rw[za9 y]
 refine⟨λu i g=>BT h.size h g/\((u=(c:Int)/\i=65/\Blk g h.size z65)\/(16<=c/\u=1/\i=64/\Blk g h.size (z65.setIfInBounds 64 (.int .u8 ((mN (c % 16)).toNat:Int))))),λu _ _=>u.toNat,⟨P,.inl ⟨rfl,rfl,Y⟩⟩,?_⟩;rintro u i g ⟨m,⟨rfl,rfl,r⟩|⟨f,rfl,rfl,r⟩⟩;refine⟨λb=>?_,λb=>?_⟩;have f:16<=c:=χ (zH b)
 rw[Ob ω];have fK:w6 ((65:Int)-1)=64:=ζ
 rw[fK];refine⟨BZ ω,_,⟨rfl,ζ,ζ⟩,?_⟩;rw[zag,JL,zh];refine Ho (o:=64) r (ο p) λg2 O z2 L=>⟨ζ,⟨⟨χ m.size,λj l=>(L j ω).trans (m.get j l)⟩,.inr ⟨f,?_,rfl,O⟩⟩,?_⟩;have:(min (zaa .u64 4).toNat 64)=4:=ζ
 rw[this];show(c:Int).fdiv 16=1;rw[Int.fdiv_eq_ediv_of_nonneg _ ζ];omega;have:(min (zaa .u64 4).toNat 64)=4:=ζ
 rw[this];show((c:Int).fdiv 16).toNat<(c:Int).toNat;rw[Int.fdiv_eq_ediv_of_nonneg _ ζ];omega;have f:c<16:=χ (zI b)
 have fK:w6 ((65:Int)-1)=((65-1:Nat):Int):=ζ
 rw[fK];refine⟨BZ ω,_,⟨rfl,ζ,ζ⟩,?_⟩;have q:ic c=[mN c]:=by unfold ic;rw[zA f]
 exact fin g z65 c 65 m r rfl f ω ω (λj l=>ω) (π q) (π q);refine⟨λb=>?_,λb=>?_⟩;exact absurd (zH b) ω;have N:w6 ((64:Int)-1)=((64-1:Nat):Int):=ζ
 rw[N];refine⟨BZ (k:=1) ω,_,⟨rfl,ζ,ζ⟩,?_⟩;have q:ic c=[mN 1,mN (c % 16)]:=by unfold ic;rw[zv ω]
 refine fin g _ 1 64 m r (ϑ p) ω ω ω (λj l=>?_) (π q) (π q);have:j=0:=ω
 subst this;exact⟨_,π q,by rw[Array.getElem?_setIfInBounds,zA rfl,zA (ο p)]⟩
def Rf(f:c<32)(hb:Brn M)(ag:AgM M h)(e:∀h',BT h.size h h'->K (ab5 (bl (ic c))) h'):ab3 199 #[ab9 (c:Int),ab9 16] h K:=by apply WW;apply Q4;refine⟨λj=>(by simp at j),λ_=>?_⟩;have b:zaa .u64 (c:Int)=(c:Int):=qia ω ω;have i:ph ((c:Int)<0)=Tc:=decide_eq_false ω;rw[b,i];exact V2 f hb ag λh' k=>⟨⟨Te,0,0⟩,_,rfl,_,rfl,e h' k⟩
end
end Go.X
namespace Go.Proofs.YtplilfikcimcbaaGreatDoor
section
open Go.ChangeShapes Go.WideShapes Go.ChangeAt Go.RowKit Go.Lib
set_option linter.all false
section
def UF{W:Nd}(h:laidMetH zbe lU W):Brn (Fz W):=by
 have hl:laidMet zbe lU W:=by rw[MakeChecks.laidMetH_plain _ _ _ κ]at h;exact h
 have hv : VarReads Tryz.prog W "math/bits.deBruijn64tab" (tabData .u8 [0, 1, 56, 2, 57, 49, 28, 3, 61, 58, 42, 50, 38, 29, 17, 4, 62, 47, 59, 36, 45, 43, 51, 22, 53, 39, 33, 30, 24, 18, 12, 5, 63, 55, 48, 27, 60, 41, 37, 16, 46, 35, 44, 21, 52, 32, 23, 11, 54, 26, 40, 15, 34, 20, 31, 10, 25, 14, 19, 9, 13, 8, 7, 6]) := by
  have := Go.Lib.laidMet.reads hl (List.mem_of_getElem? (show lU[1]? = some ("math/bits.deBruijn64tab", Rows.laid_math_bits_deBruijn64tab) from rfl));have e:(Rows.laid_math_bits_deBruijn64tab:DataW Unit)=tabData .u8 [0,1,56,2,57,49,28,3,61,58,42,50,38,29,17,4,62,47,59,36,45,43,51,22,53,39,33,30,24,18,12,5,63,55,48,27,60,41,37,16,46,35,44,21,52,32,23,11,54,26,40,15,34,20,31,10,25,14,19,9,13,8,7,6]:=κ
  rw[<-e];exact this
 have⟨cs,h1,h2⟩:=yV (g:=7) (t:=385) (e:=5) (m:=64) κ κ κ κ κ κ hv;exact⟨cs,h1,by rw[<-zb5,h2];rfl⟩
end
end
end Go.Proofs.YtplilfikcimcbaaGreatDoor
namespace Go.X
section
section
section
variable (la lb : Nat -> Nat) (tn : Nat -> Nat -> Nat)
def gF(P:Nat->Nat->Nat)(fa fb:Nat):Nat->Nat->Nat->Nat
 |0,x,y=>x+y
 |_+1,0,y=>y
 |_+1,x+1,0=>x+1
 |f+1,x+1,y+1=>min (1+min (gF P fa fb f x (y+1)) (gF P fa fb f (x+1) y))
   (if la (fa+x)=fa/\lb (fb+y)=fb then gF P fa fb f x y+tn (fa+x) (fb+y)else gF P fa fb f (la (fa+x)-fa) (lb (fb+y)-fb)+P (fa+x) (fb+y))
def gN(P:Nat->Nat->Nat)(fa fb x y:Nat):Nat:=gF la lb tn P fa fb (x+y) x y
end
def Frs(la:Nat->Nat)(fa x:Nat):Prop:=∀k,k<x->fa<=la (fa+k)/\la (fa+k)<=fa+k
theorem Frs.less{la:ad5}{fa x b:Nat}(h:Frs la fa x)(e:b<=x):Frs la fa b:=λk c=>h k ω
variable {la lb : Nat -> Nat} {tn : Nat -> Nat -> Nat} {P P' : Nat -> Nat -> Nat} {fa fb : Nat}
theorem nY:∀(f c x y:Nat),Frs la fa x->Frs lb fb y->x+y<=f->x+y<=c->gF la lb tn P fa fb f x y=gF la lb tn P fa fb c x y
 |f,c,0,y,_,_,_,_=>by cases f <;> cases c <;> simp[gF]
 |f,c,x+1,0,_,_,_,_=>by cases f <;> cases c <;> simp[gF]
 |0,c,x+1,y+1,_,_,h,_=>ω
 |f+1,0,x+1,y+1,_,_,_,h=>ω
 |f+1,c+1,x+1,y+1,ha,hb,h,h'=>by have a:=ha x ω;have b:=hb y ω;unfold gF;rw[nY f c x (y+1) (ha.less ω) hb ω ω,nY f c (x+1) y ha (hb.less ω) ω ω,nY f c x y (ha.less ω) (hb.less ω) ω ω,nY f c (la (fa+x)-fa) (lb (fb+y)-fb) (ha.less ω) (hb.less ω) ω ω]
theorem Y4(y:Nat):gN la lb tn P fa fb 0 y=y:=by unfold gN;cases y <;> simp[gF]
theorem Jm(x:Nat):gN la lb tn P fa fb x 0=x:=by unfold gN;cases x <;> simp[gF]
theorem Jy{x y:Nat}(f:Frs la fa (x+1))(hb:Frs lb fb (y+1)):gN la lb tn P fa fb (x+1) (y+1)=min (1+min (gN la lb tn P fa fb x (y+1)) (gN la lb tn P fa fb (x+1) y))
 (ite (la (fa+x)=fa/\lb (fb+y)=fb) (gN la lb tn P fa fb x y+tn (fa+x) (fb+y)) (gN la lb tn P fa fb (la (fa+x)-fa) (lb (fb+y)-fb)+P (fa+x) (fb+y))):=by
 have a:=f x ω;have b:=hb y ω;have e:=f.less (Nat.le_succ x);have c:=hb.less (Nat.le_succ y);unfold gN;rw[show x+1+(y+1)=(x+y+1)+1 by omega,gF];rw[nY (x+y+1) (x+(y+1)) x (y+1) e hb ω ω,nY (x+y+1) (x+1+y) (x+1) y f c ω ω,nY (x+y+1) (x+y) x y e c ω ω,nY (x+y+1) (la (fa+x)-fa+(lb (fb+y)-fb)) _ _ (f.less ω) (hb.less ω) ω ω]
theorem Jn:∀(n x y:Nat),x+y<=n->Frs la fa x->Frs lb fb y->(∀i j,i<x->j<y->¬(la (fa+i)=fa/\lb (fb+j)=fb)->P (fa+i) (fb+j)=P' (fa+i) (fb+j))->gN la lb tn P fa fb x y=gN la lb tn P' fa fb x y
 |n,0,y,_,_,_,_=>by rw[Y4,Y4]
 |n,x+1,0,_,_,_,_=>by rw[Jm,Jm]
 |0,x+1,y+1,h,_,_,_=>by omega
 |n+1,x+1,y+1,h,ha,hb,H=>by have a:=ha x (by omega);have b:=hb y (by omega);rw[Jy ha hb,Jy ha hb,Jn n x (y+1) (by omega) (ha.less (by omega)) hb (λi j h1 h2=>H i j (by omega) h2),Jn n (x+1) y (by omega) ha (hb.less (by omega)) (λi j h1 h2=>H i j h1 (by omega)),Jn n x y (by omega) (ha.less (by omega)) (hb.less (by omega)) (λi j h1 h2=>H i j (by omega) (by omega)),Jn n (la (fa+x)-fa) (lb (fb+y)-fb) (by omega) (ha.less (by omega)) (hb.less (by omega)) (λi j h1 h2=>H i j (by omega) (by omega))];grind
theorem vx:∀(n x y:Nat),x+y<=n->Frs la fa x->Frs lb fb y->gN la lb tn P fa fb x y<=x+y
 |n,0,y,_,_,_=>by rw[Y4];omega
 |n,x+1,0,_,_,_=>by rw[Jm];omega
 |0,x+1,y+1,h,_,_=>ω
 |n+1,x+1,y+1,h,ha,hb=>by have h1:=vx n x (y+1) ω (ha.less ω) hb;rw[Jy ha hb];omega
end
section
variable {i k:Nat}
def Rt(la:Nat->Nat)(n:Nat):Prop:=∀i,i<n->la i<=i/\∀k,k<i->la i<=k->la i<=la k
theorem Rt.frs{la:ad5}{n i:Nat}(h:Rt la n)(hi:i<n):Frs la (la i) (i+1-la i):=λk c=>by have⟨a,b⟩:=h i hi;have:=(h (la i+k) ω).1;grind
section
variable (la lb : Nat -> Nat) (tn : Nat -> Nat -> Nat)
def DF:Nat->Nat->Nat->Nat
 |0,_,_=>0
 |s+1,i,j=>gN la lb tn (DF s) (la i) (lb j) (i+1-la i) (j+1-lb j)
def DN(i j:Nat):Nat:=DF la lb tn (i+j+2) i j
def mV(P:Nat->Nat->Nat)(c b:Nat):Nat->Nat->Nat:=λi j=>if la i=la c/\lb j=lb b/\i<=c/\j<=b then gN la lb tn P (la c) (lb b) (i+1-la c) (j+1-lb b)else P i j
end
variable {la lb : Nat -> Nat} {tn : Nat -> Nat -> Nat} {n m : Nat}
def JE(c:Rt la n)(rb:Rt lb m):∀(s e i j:Nat),i<n->j<m->(i+1-la i)+(j+1-lb j)<=s->(i+1-la i)+(j+1-lb j)<=e->DF la lb tn s i j=DF la lb tn e i j
 |0,e,i,j,hi,hj,h,h'=>χ ((c i hi).1)
 |s+1,0,i,j,hi,hj,h,h'=>χ ((c i hi).1)
 |s+1,e+1,i,j,hi,hj,h,h'=>by have a:=c i hi;have b:=rb j hj;unfold DF;refine Jn _ _ _ (zac _) (c.frs hi) (rb.frs hj) λp q f k l=>?_;have r:=c.frs hi p f;have o:=rb.frs hj q k;refine JE c rb s e _ _ ω ω ?_ ?_;omega;omega
theorem Ec(c:Rt la n)(rb:Rt lb m){i j:Nat}(hi:i<n)(e:j<m):DN la lb tn i j=gN la lb tn (DN la lb tn) (la i) (lb j) (i+1-la i) (j+1-lb j):=by have a:=c i hi;have b:=rb j e;show DF la lb tn (i+j+1+1) i j=_;rw[DF];refine Jn _ _ _ (zac _) (c.frs hi) (rb.frs e) λp q f h k=>?_;have o:=c.frs hi p f;have l:=rb.frs e q h;refine JE c rb _ _ _ _ ω ω ?_ ω;omega
def i5(la:Nat->Nat)(n k:Nat):Prop:=k<n/\∀j,k<j->j<n->la j≠la k
def s9(la:ad5){n:Nat}:∀(d i:Nat),i<n->n<=i+d->∃k,i5 la n k/\i<=k/\la k=la i
 |0,i,h,h'=>ω
 |d+1,i,h,h'=>by by_cases e:∃j,i<j/\j<n/\la j=la i;have⟨j,h1,h2,b⟩:=e;have⟨k,g1,g2,c⟩:=s9 la d j h2 ω;grind;exact⟨i,⟨h,λj h1 h2 b=>e ⟨j,h1,h2,b⟩⟩,zac _,rfl⟩
def Gn(j:Rt la n){k i b:Nat}(h:i5 la n k)(h1:la k<=i)(h2:i<=k)(m:la k<=la i)(f:i5 la n b)(e:la b=la i):b<=k:=by
 obtain c|c:=zbv k b;have hi:=(j i (χ h.1)).1;have:=(j b f.1).2 k c ω;have l:la b=la k:=ω
 exact absurd l (h.2 b c f.1);exact c
def InvP(la lb:Nat->Nat)(tn:Nat->Nat->Nat)(n m:Nat)(P:Nat->Nat->Nat)(S:Nat->Nat->Prop):Prop:=∀i j c b,i<n->j<m->i5 la n c->i5 lb m b->i<=c->j<=b->la c=la i->lb b=lb j->S c b->P i j=DN la lb tn i j
theorem InvP.step{P:ac6}{S w:Nat->Nat->Prop}(o:Rt la n)(rb:Rt lb m)(H:InvP la lb tn n m P S){k f:Nat}(E:i5 la n k)(hb:i5 lb m f)(M:∀b k2,i5 la n b->i5 lb m k2->b<=k->k2<=f->¬(b=k/\k2=f)->S b k2) (t:∀b k2,w b k2->S b k2\/(b=k/\k2=f)):InvP la lb tn n m (mV la lb tn P k f) w:=by intro i j b k2 hi l h1 h2 C A D B I;unfold mV;by_cases c:la i=la k/\lb j=lb f/\i<=k/\j<=f;rw[zA c];have⟨c1,c2,T,Q⟩:=c;rw[Ec o rb hi l,<-c1,<-c2];refine Jn _ _ _ (zac _) (o.frs hi) (rb.frs l) λp q G F J=>?_;have N:=o.frs hi p G;have O:=rb.frs l q F;have a0:=(o i hi).1;have b0:=(rb j l).1;have⟨u,g1,g2,z⟩:=s9 (n:=n) la n (la i+p) ω ω;have⟨x,r,L,y⟩:=s9 (n:=m) lb m (lb j+q) ω ω;refine H _ _ u x ω ω g1 r g2 L z y (M u x g1 r ?_ ?_ λe=>J ?_);exact Gn (i:=la i+p) o E ω ω ω g1 z;exact Gn (i:=lb j+q) rb hb ω ω ω r y;grind;rw[zv c];obtain h|⟨rfl,rfl⟩:=t b k2 I;exact H i j b k2 hi l h1 h2 C A D B h;omega
def oT(la lb:Nat->Nat)(tn:Nat->Nat->Nat)(e:List Nat)(P:Nat->Nat->Nat)(KA:List Nat):Nat->Nat->Nat:=KA.foldl (λP c=>e.foldl (λP b=>mV la lb tn P c b) P) P
def JO{K A B:ac0}{k x:Nat}(b:K.Pairwise (· < ·))(e:K=A++k::B)(c:x∈K)(h:x<k):x∈A:=by subst e;obtain h1|h1:=zav.1 c;exact h1;rw[List.pairwise_append,zb2]at b;grind
def Ik(p:Rt la n)(rb:Rt lb m){KA i dA:ac0}{f:Nat}(sb:i.Pairwise (· < ·))(l:∀k,k∈i↔i5 lb m k)(q:i5 la n f)(hA:∀k,i5 la n k->k<f->k∈dA):∀(todo dB:ac0) (P:ac6),i=dB++todo->InvP la lb tn n m P (λa b=>a∈dA\/(a=f/\b∈dB))->InvP la lb tn n m (todo.foldl (λP h=>mV la lb tn P f h) P) (λa b=>a∈dA\/(a=f/\b∈i))
 |[],dB,P,e,H=>θ
 |h::todo,dB,P,e,H=>by
  have o:i5 lb m h:=(l h).1 (by rw[e];simp);refine Ik p rb (KA:=KA) sb l q hA todo (dB++[h]) _ (by rw[e];simp) (H.step p rb q o (λj k2 h1 h2 w x u=>?_) λj k2 t=>?_);obtain c|c:=zbv j f;simp_all;have r:j=f:=ω
  refine .inr ⟨r,JO sb e ((l k2).2 h2) ?_⟩;omega;grind
def Is(w:Rt la n)(rb:Rt lb m){KA b:ac0}(sa:KA.Pairwise (· < ·))(t:∀k,k∈KA↔i5 la n k)(sb:b.Pairwise (· < ·))(x:∀k,k∈b↔i5 lb m k):∀(todo dA:ac0) (P:ac6),KA=dA++todo->InvP la lb tn n m P (λa _=>a∈dA)->InvP la lb tn n m (oT la lb tn b P todo) (λa _=>a∈KA)
 |[],dA,P,e,H=>by rw[zbi]at e;subst e;exact H
 |ki::todo,dA,P,e,H=>by have o:i5 la n ki:=(t ki).1 (by rw[e];simp);have h1:=Ik (KA:=KA) (dA:=dA) w rb sb x o (λk z l=>JO sa e ((t k).2 z) l) b [] P rfl (λi j c k2 a1 a2 r f u q p h y=>H i j c k2 a1 a2 r f u q p h θ);refine Is w rb sa t sb x todo (dA++[ki]) _ (by rw[e];simp) λi j c k2 a1 a2 r f u q p h y=>h1 i j c k2 a1 a2 r f u q p h ?_;simp_all
def XM(o:Rt la n)(rb:Rt lb m){KA b:ac0}(sa:KA.Pairwise (· < ·))(f:∀k,k∈KA↔i5 la n k)(sb:b.Pairwise (· < ·))(r:∀k,k∈b↔i5 lb m k){P:ac6}{i j:Nat}(hi:i<n)(e:j<m):oT la lb tn b P KA i j=DN la lb tn i j:=by have⟨c,g1,g2,t⟩:=s9 (n:=n) la n i hi ω;have⟨k2,h,q,l⟩:=s9 (n:=m) lb m j e ω;exact Is o rb sa f sb r KA [] P rfl (λ_ _ _ _ _ _ _ _ _ _ _ _ p=>ε p) i j c k2 hi e g1 h g2 q t l ((f c).2 g1)
end
section
variable {y:Nat}
section
variable (la lb : Nat -> Nat) (tn : Nat -> Nat -> Nat)
def jS:Nat->Nat->Nat->Nat->Nat->Nat
 |0,_,_,_,_=>0
 |f+1,i,k,j,l=>
  if k<=i then l-j else if l<=j then k-i else
   let b:=min (jS f i (k-1) j l) (jS f i k j (l-1))+1
   if i<=la (k-1)/\j<=lb (l-1)then min b (jS f i (la (k-1)) j (lb (l-1))+jS f (la (k-1)) (k-1) (lb (l-1)) (l-1)+tn (k-1) (l-1))else b
end
variable {la lb : Nat -> Nat} {tn : Nat -> Nat -> Nat} {n m : Nat}
section
variable {P : Nat -> Nat -> Nat} {fa fb : Nat}
theorem Um{x y:Nat}(b:Frs la fa x)(hb:Frs lb fb (y+1)):gN la lb tn P fa fb x (y+1)<=gN la lb tn P fa fb x y+1:=by
 cases x with
 |zero=>rw[Y4,Y4];omega
 |succ x=>rw[Jy b hb];omega
theorem TH{x y:Nat}(b:Frs la fa (x+1))(hb:Frs lb fb y):gN la lb tn P fa fb (x+1) y<=gN la lb tn P fa fb x y+1:=by
 cases y with
 |zero=>rw[Jm,Jm];omega
 |succ y=>rw[Jy b hb];omega
end
theorem IU(e:Rt la n)(rb:Rt lb m){i j:Nat}(hi:i<n)(c:j<m):DN la lb tn i j=min (1+min (gN la lb tn (DN la lb tn) (la i) (lb j) (i-la i) (j+1-lb j)) (gN la lb tn (DN la lb tn) (la i) (lb j) (i+1-la i) (j-lb j))) (gN la lb tn (DN la lb tn) (la i) (lb j) (i-la i) (j-lb j)+tn i j):=by have a:=(e i hi).1;have b:=(rb j c).1;rw[Ec e rb hi c];have f:=e.frs hi;have hb:=rb.frs c;rw[show i+1-la i=(i-la i)+1 by omega]at f ⊢;rw[show j+1-lb j=(j-lb j)+1 by omega]at hb ⊢;simp_all[Jy]
theorem og(f:Rt la n)(rb:Rt lb m):∀(N p q x y fa fb:Nat),x+y<=N->fa+p+x<=n->fb+q+y<=m->Frs la fa (p+x)->Frs lb fb (q+y)->Frs la (fa+p) x->Frs lb (fb+q) y ->gN la lb tn (DN la lb tn) fa fb (p+x) (q+y)<=gN la lb tn (DN la lb tn) fa fb p q+gN la lb tn (DN la lb tn) (fa+p) (fb+q) x y
 |N,p,q,0,0,fa,fb,_,_,_,_,_,_,_=>ξ
 |0,p,q,x+1,y,fa,fb,h,_,_,_,_,_,_=>ω
 |0,p,q,0,y+1,fa,fb,h,_,_,_,_,_,_=>ω
 |N+1,p,q,0,y+1,fa,fb,h,hn,hm,c,hb,ha',hb'=>by have I:=og f rb N p q 0 y fa fb ω hn ω c (hb.less ω) ha' (hb'.less ω);grind [Um,Y4]
 |N+1,p,q,x+1,0,fa,fb,h,hn,hm,c,hb,ha',hb'=>by have I:=og f rb N p q x 0 fa fb ω ω hm (c.less ω) hb (ha'.less ω) hb';grind [TH,Jm]
 |N+1,p,q,x+1,y+1,fa,fb,h,hn,hm,c,hb,ha',hb'=>by by_cases h0:p=0/\q=0;simp_all;have o:=og f rb N p q x (y+1) fa fb ω ω hm (c.less ω) hb (ha'.less ω) hb';have r:=og f rb N p q (x+1) y fa fb ω hn ω c (hb.less ω) ha' (hb'.less ω);have a:=ha' x ω;have b:=hb' y ω;have k:=og f rb N p q (la (fa+p+x)-(fa+p)) (lb (fb+q+y)-(fb+q)) fa fb ω ω ω (c.less ω) (hb.less ω) (ha'.less ω) (hb'.less ω);have l:=IU (tn:=tn) f rb (i:=fa+p+x) (j:=fb+q+y) ω ω;have c:Frs la fa (p+x+1):=c;have hb:Frs lb fb (q+y+1):=hb;rw[Jy ha' hb',show p+(x+1)=p+x+1 by omega,show q+(y+1)=q+y+1 by omega,Jy c hb];rw[show p+(x+1)=p+x+1 by omega]at r;rw[show q+(y+1)=q+y+1 by omega]at o;rw[zv η,<-ze6 fa,<-ze6 fb];rw[show p+(la (fa+p+x)-(fa+p))=la (fa+p+x)-fa by omega,show q+(lb (fb+q+y)-(fb+q))=lb (fb+q+y)-fb by omega]at k;split;rename_i e;rw[e.1,e.2]at k l;rw[e.1,e.2];rw[zes,zes,Y4]at k;rw[show fa+p+x-(fa+p)=x by omega,show fb+q+y-(fb+q)=y by omega]at l;omega;omega
theorem sy(c:Rt la n)(rb:Rt lb m):∀(f i k j l:Nat),(k-i)+(l-j)<f->i<=k->j<=l->k<=n->l<=m->Frs la i (k-i)->Frs lb j (l-j)->jS la lb tn f i k j l=gN la lb tn (DN la lb tn) i j (k-i) (l-j)
 |0,i,k,j,l,h,_,_,_,_,_,_=>by omega
 |f+1,i,k,j,l,h,hik,hjl,hn,hm,ha,hb=>by unfold jS;by_cases h1:k<=i;simp_all[Y4];rw[zv h1];by_cases h2:l<=j;simp_all[Jm];rw[zv h2];obtain⟨x,rfl⟩:∃x,k=i+x+1:=⟨k-i-1,by omega⟩;obtain⟨y,rfl⟩:∃y,l=j+y+1:=⟨l-j-1,by omega⟩;rw[show i+x+1-i=x+1 by omega,show j+y+1-j=y+1 by omega]at *;have a:=ha x (by omega);have b:=hb y (by omega);have t:=IU (tn:=tn) c rb (i:=i+x) (j:=j+y) (by omega) (by omega);have o:=c.frs (i:=i+x) (by omega);have p:=rb.frs (i:=j+y) (by omega);simp only[Nat.add_sub_cancel];rw[zA ⟨a.1,b.1⟩];rw[sy c rb f i (i+x) j (j+y+1) (by omega) (by omega) (by omega) (by omega) (by omega) (by rw[show i+x-i=x by omega];exact ha.less (by omega)) (by grind)];rw[sy c rb f i (i+x+1) j (j+y) (by omega) (by omega) (by omega) (by omega) (by omega) (by grind) (by rw[show j+y-j=y by omega];exact hb.less (by omega))];rw[sy c rb f i (la (i+x)) j (lb (j+y)) (by omega) a.1 b.1 (by omega) (by omega) (ha.less (by omega)) (hb.less (by omega))];rw[sy c rb f (la (i+x)) (i+x) (lb (j+y)) (j+y) (by omega) a.2 b.2 (by omega) (by omega) (o.less (by omega)) (p.less (by omega))];rw[show i+x-i=x by omega,show j+y-j=y by omega,show i+x+1-i=x+1 by omega,show j+y+1-j=y+1 by omega,Jy ha hb];have q:=og (tn:=tn) c rb (x+y+2) (la (i+x)-i) (lb (j+y)-j) (i+x-la (i+x)) (j+y+1-lb (j+y)) i j (by omega) (by omega) (by omega) (ha.less (by omega)) (hb.less (by omega)) (by rw[show i+(la (i+x)-i)=la (i+x)by omega];exact o.less (by omega)) (by simp_all);have r:=og (tn:=tn) c rb (x+y+2) (la (i+x)-i) (lb (j+y)-j) (i+x+1-la (i+x)) (j+y-lb (j+y)) i j (by omega) (by omega) (by omega) (ha.less (by omega)) (hb.less (by omega)) (by simp_all) (by rw[show j+(lb (j+y)-j)=lb (j+y)by omega];exact p.less (by omega));rw[show i+(la (i+x)-i)=la (i+x)by omega,show j+(lb (j+y)-j)=lb (j+y)by omega]at q r;rw[show la (i+x)-i+(i+x-la (i+x))=x by omega,show lb (j+y)-j+(j+y+1-lb (j+y))=y+1 by omega]at q;rw[show la (i+x)-i+(i+x+1-la (i+x))=x+1 by omega,show lb (j+y)-j+(j+y-lb (j+y))=y by omega]at r;split;rename_i e;rw[e.1,e.2,zes,zes,Y4,show i+x-i=x by omega,show j+y-j=y by omega];omega;omega
end
section
variable {i k l a b c n m:Nat}
section
variable {la lb : Nat -> Nat} {tn : Nat -> Nat -> Nat}
theorem tR(c:∀x,la x<=x)(hb:∀x,lb x<=x):∀(f b i k j l:Nat),(k-i)+(l-j)<f->(k-i)+(l-j)<b->jS la lb tn f i k j l=jS la lb tn b i k j l
 |0,_,i,k,j,l,h,_=>absurd h (zcb _)
 |_+1,0,i,k,j,l,_,h=>absurd h (zcb _)
 |f+1,b+1,i,k,j,l,h,h'=>by unfold jS;have:=c (k-1);have:=hb (l-1);split;rfl;split;rfl;rw[tR c hb f b i (k-1) j l ω ω,tR c hb f b i k j (l-1) ω ω];dsimp only;split;rw[tR c hb f b i (la (k-1)) j (lb (l-1)) ω ω,tR c hb f b (la (k-1)) (k-1) (lb (l-1)) (l-1) ω ω];rfl
def i8(la lb:Nat->Nat)(tn:Nat->Nat->Nat)(i k j l:Nat):Nat:=jS la lb tn ((k-i)+(l-j)+1) i k j l
theorem A8(b:∀x,la x<=x)(hb:∀x,lb x<=x){f i k j l:Nat}(h:(k-i)+(l-j)<f):jS la lb tn f i k j l=i8 la lb tn i k j l:=tR b hb _ _ _ _ _ _ h ω
theorem NA{i k j l:Nat}(h:k<=i):i8 la lb tn i k j l=l-j:=by unfold i8 jS;rw[zA h]
theorem NF{i k j l:Nat}(h:¬k<=i)(h':l<=j):i8 la lb tn i k j l=k-i:=by unfold i8 jS;simp_all
def XT(b:∀x,la x<=x)(hb:∀x,lb x<=x){i k j l:Nat}(h:¬k<=i)(h':¬l<=j):i8 la lb tn i k j l= if i<=la (k-1)/\j<=lb (l-1)then min (min (i8 la lb tn i (k-1) j l) (i8 la lb tn i k j (l-1))+1) (i8 la lb tn i (la (k-1)) j (lb (l-1))+i8 la lb tn (la (k-1)) (k-1) (lb (l-1)) (l-1)+tn (k-1) (l-1)) else min (i8 la lb tn i (k-1) j l) (i8 la lb tn i k j (l-1))+1:=by have:=b (k-1);have:=hb (l-1);show jS la lb tn ((k-i)+(l-j)+1) i k j l=_;unfold jS;rw[zv h,zv h',A8 b hb ω,A8 b hb ω];grind [A8]
def LX(b:∀x,la x<=x)(hb:∀x,lb x<=x):∀(f i k j l:Nat),(k-i)+(l-j)<f->jS la lb tn f i k j l<=(k-i)+(l-j)
 |0,i,k,j,l,h=>absurd h (zcb _)
 |f+1,i,k,j,l,h=>by unfold jS;split;omega;split;omega;have:=LX b hb f i (k-1) j l ω;grind
def wH(b:∀x,la x<=x)(hb:∀x,lb x<=x)(i k j l:Nat):i8 la lb tn i k j l<=(k-i)+(l-j):=LX b hb _ i k j l ω
end
def kw(n m i k j l:Nat):Nat:=((i*(n+1)+k)*(m+1)+j)*(m+1)+l
theorem wL{a e b b' c:Nat}(h:a*c+b=e*c+b')(hb:b<c)(f:b'<c):a=e/\b=b':=by obtain h1|h1|h1:=Nat.lt_trichotomy a e;have:=za6 c (show a+1<=e from h1);grind;simp_all;have:=za6 c (show e+1<=a from h1);grind
theorem qio{n m i k j l f e b c:Nat}(t:k<=n)(u:j<=m)(r:l<=m)(q:e<=n)(o:b<=m)(p:c<=m)(h:kw n m i k j l=kw n m f e b c):i=f/\k=e/\j=b/\l=c:=by have⟨h1,h2⟩:=wL h ω ω;grind [wL]
def wM{a b c d:Nat}(e:a<d)(hb:b<c):a*c+b<d*c:=by have:=za6 c (show a+1<=d from e);grind
def WU{n m i k j l:Nat}(hi:i<=n)(b:k<=n)(c:j<=m)(e:l<=m):kw n m i k j l<(n+1)*(n+1)*(m+1)*(m+1):=wM (wM (wM ω ω) ω) ω
def bwOk(la lb:Nat->Nat)(tn:Nat->Nat->Nat)(n m:Nat)(H:Nat->Bool)(C:Nat->Nat):Prop:=∀i k j l,i<=n->k<=n->j<=m->l<=m->H (kw n m i k j l)=Ta->C (kw n m i k j l)=i8 la lb tn i k j l
theorem bwOk.set{la lb:ad5}{tn:ac6}{H:Nat->Bool}{C:ad5}(T:bwOk la lb tn n m H C){i k j l:Nat}(hi:i<=n)(p:k<=n)(q:j<=m)(o:l<=m):bwOk la lb tn n m (λx=>ite (x=kw n m i k j l) Ta (H x)) (λx=>ite (x=kw n m i k j l) (i8 la lb tn i k j l) (C x)):=by intro t u f r a b c d h;dsimp only at h ⊢;split;grind [qio];rename_i e;rw[zv e]at h;exact T _ _ _ _ a b c d h
end
end
section
open Go.Lib
section
variable {v:Tr}
def Xt(x:Bt):∀(l:List Bt) (i:Nat),(idxFromS l x i=-1/\x∉l)\/∃k:Nat,idxFromS l x i=((i+k:Nat):Int)/\k<DB l/\l[k]?=Td x
 |[],i=>.inl ⟨rfl,ξ⟩
 |z::l,i=>by unfold idxFromS;by_cases h:z=x;rw[zA h];exact .inr ⟨0,rfl,ξ,ϑ h⟩;rw[zv h];obtain⟨h1,h2⟩|⟨k,h1,h2,b⟩:=Xt x l (i+1);grind;exact .inr ⟨k+1,ω,φ,ψ b⟩
def jm{q:Tr->Bool}{v x:Tr}(h:Zo q v=Ta)(b:x∈v.aa7):Zo q x=Ta:=by rw[Zb,zaw,jl,zbl]at h;exact h.2 x b
theorem xp{q:Tr->Bool}(h:Zo q v=Ta):q v=Ta:=by rw[Zb,zaw]at h;exact h.1
end
section
def vy(r:Nat):Prop:=r<55296\/(57344<=r/\r<=1114111)
theorem Rq{x:Int}(h0:0<=x)(h1:x<256):(x.toNat.toUInt8).toNat=x.toNat:=θ
def RP(l:Bs):vy (dec l).1:=by have h0:=(l.getD 0 0).toNat_lt;have h1:=(l.getD 1 0).toNat_lt;have h2:=(l.getD 2 0).toNat_lt;have b:=(l.getD 3 0).toNat_lt;unfold vy dec decodeN;grind
def ib(x:Tr):Bool:=ph (x.aa6≠7)&&zm x
mutual
def vw{p q:Tr->Bool}(h:∀x,p x=Ta->q x=Ta):∀v:Tr,Zo p v=Ta->Zo q v=Ta
 |.mk k s ks xs,hv=>by rw[Zo,zaw]at hv ⊢;exact⟨h _ hv.1,EK h xs hv.2⟩
def EK{p q:Tr->Bool}(h:∀x,p x=Ta->q x=Ta):∀l:List Tr,mZ p l=Ta->mZ q l=Ta
 |[],_=>rfl
 |x::l,hl=>by rw[mZ,zaw]at hl ⊢;exact⟨vw h x hl.1,EK h l hl.2⟩
end
end
section
theorem FE(a b:Bs):hY (a++b)=hY a++hY b:=by unfold hY;simp
def ZP(c:UInt8):(kq c).length<=6:=by unfold kq;grind
theorem uK:∀l:Bs,(hY l).length<=6*DB l
 |[]=>by simp[hY]
 |c::l=>by have:=uK l;have h1:=ZP c;have e:hY (c::l)=kq c++hY l:=rfl;grind
theorem NI{c:UInt8}(h:128<=c.toNat):kq c=[c]:=by
 have ne:∀n:Nat,n<128->c≠zcl n:=λn b e=>by simp_all;omega
 unfold kq;rw[zv (by rintro(e|e);simp_all;simp_all),zv (show¬c=8 from ne 8 ω),zv (show¬c=12 from ne 12 ω),zv (show¬c=10 from ne 10 ω),zv (show¬c=13 from ne 13 ω),zv (show¬c=9 from ne 9 ω),zv ω]
theorem Ir:∀{l:Bs},(∀c∈l,128<=c.toNat)->hY l=l
 |[],_=>rfl
 |c::l,h=>by have e:hY (c::l)=kq c++hY l:=rfl;rw[e,NI (h c zat),Ir λx b=>h x (zan _ b)];rfl
def SP{r:Nat}(h:vy r)(i:128<=r):∀c∈encodeRune (r:Int),128<=c.toNat:=by
 unfold vy at h;intro c f;unfold encodeRune at f;obtain⟨x,b,rfl⟩:=zbr.1 f;have key:∀y:Int,x=y->128<=y->y<256->128<=x.toNat.toUInt8.toNat:=λy e h1 h2=>φ
 by_cases h2:r<=2047;rw[encodeRuneZ_two ω ω]at b;grind;by_cases j:r<=65535;rw[encodeRuneZ_three ω]at b;grind;rw[encodeRuneZ_four ω ω]at b;grind
def kv(r:Nat):Nat:=if r=34\/r=92 then r else if r=8 then 98 else if r=12 then 102 else if r=10 then 110 else if r=13 then 114 else if r=9 then 116 else 0
def yP(k:Nat):UInt8:=zcl (if k<10 then 48+k else 87+k)
def pU(r:Nat):Bs:=if kv r≠0 then [92,zcl (kv r)]else if 32<=r then encodeRune (r:Int)else [92,117,48,48,zcl (48+r / 16),yP (r % 16)]
def RO:(za7 128).all (λk=>decide (kq (zcl k)=pU k))=Ta:=κ
def PE{l:Bs}(h:l≠[])(f:jK (dec l)=Tc):hY (l.take (dec l).2)=pU (dec l).1:=by
 by_cases b:(dec l).1<128;obtain⟨c,t,rfl⟩:=zdf h;have i:c.toNat<128:=by
  obtain h1|h1:=zbv c.toNat 128;exact h1;exfalso;have h2:=La h f;have m:=(Qt (c::t)).1;have o:encodeRune ((dec (c::t)).1:Int)=[((dec (c::t)).1:Int).toNat.toUInt8]:=by unfold encodeRune;rw[encodeRuneZ_one ω ω];rfl
  obtain⟨n,j⟩:∃n,(dec (c::t)).2=n+1:=⟨(dec (c::t)).2-1,ω⟩;grind [Rq]
 rw[yB i]at b ⊢;have:=zbl.1 RO c.toNat (zcs.2 i);have:=zH this;rw[UInt8.ofNat_toNat]at this;rw[<-this];simp[hY];have b:128<=(dec l).1:=ω
 have e:=La h f;have k:kv (dec l).1=0:=by unfold kv;rw[zv ω,zv ω,zv ω,zv ω,zv ω,zv ω]
 unfold pU;rw[zv ω,zA ω,<-e];exact Ir (SP (RP l) b)
end
section
def Zx(ln:Bool)(nd lv:Nat):Bs:=if ln then 10::zcr (nd*lv) 32 else []
def xq(ln:Bool)(nd lv:Nat):List Bs->Bs
 |[]=>[]
 |p::ps=>Zx ln nd lv++p++ps.flatMap λq=>44::(Zx ln nd lv++q)
def jW(ln:Bool)(nd lv:Nat)(ps:List Bs):Bs:=xq ln nd (lv+1) ps++(if ps=[]then []else Zx ln nd lv)
def jN(ln:Bool)(k:Bt)(p:Bs):Bs:=(io (lb k)).1++58::((if ln then [32]else [])++p)
mutual
def Y5(ln:Bool)(nd:Nat):Tr->Nat->Bs
 |.mk k s ks xs,lv=>if k=1 then [110,117,108,108]else if k=4 then(io (lb s)).1 else if k=5 then 91::jW ln nd lv (tm ln nd xs (lv+1))++[93]
  else if k=6 then 123::jW ln nd lv (List.zipWith (jN ln) ks (tm ln nd xs (lv+1)))++[125]else lb s
def tm(ln:Bool)(nd:Nat):List Tr->Nat->List Bs
 |[],_=>[]
 |x::l,lv=>Y5 ln nd x lv::tm ln nd l lv
end
theorem ID(ln:Bool)(nd:Nat)(lv:Nat):∀l:List Tr,tm ln nd l lv=l.map λx=>Y5 ln nd x lv
 |[]=>rfl
 |x::l=>by rw[tm,ID ln nd lv l];rfl
theorem Q7(ln:Bool)(nd:Nat)(v:Tr)(lv:Nat):Y5 ln nd v lv=if v.aa6=1 then [110,117,108,108]else if v.aa6=4 then(io (lb v.aa9)).1 else if v.aa6=5 then 91::jW ln nd lv (v.aa7.map λx=>Y5 ln nd x (lv+1))++[93] else ite (v.aa6=6) (123::jW ln nd lv (List.zipWith (jN ln) v.aa8 (v.aa7.map λx=>Y5 ln nd x (lv+1)))++[125]) (lb v.aa9):=by
 cases v with
 |mk k s ks xs=>rw[Y5,ID]
theorem Rs(ln:Bool)(nd lv:Nat)(ps:List Bs)(p:Bs):xq ln nd lv (ps++[p])=xq ln nd lv ps++((ite (ps=[]) [] [44])++(Zx ln nd lv++p)):=by
 cases ps with
 |nil=>simp[xq]
 |cons q b=>rw[zbs,xq,xq,zdu,zv ξ];simp
theorem v6(ln:Bool)(nd lv:Nat){ps:List Bs}{n:Nat}(h:n<DB ps):xq ln nd lv (ps.take (n+1))=xq ln nd lv (ps.take n)++((ite (n=0) [] [44])++(Zx ln nd lv++ps[n])):=by rw[zai h,Rs];congr 2;by_cases h0:n=0;grind;rw[zv h0,zv (by grind [List.take_eq_nil_iff])]
def uv(ln:Bool)(nd lv:Nat){ps:List Bs}:∀{n:Nat},n<=DB ps->(xq ln nd lv (ps.take n)).length<=(xq ln nd lv ps).length:=by
 have step:∀k n,n+k=DB ps->(xq ln nd lv (ps.take n)).length<=(xq ln nd lv ps).length:=by
  intro k;induction k with
  |zero=>simp
  |succ k b=>intro n h;have h1:=b (n+1) ω;grind [v6]
 intro n h;exact step (DB ps-n) n ω
theorem Hu:∀n:Nat,repeatL [32] n=zcr n 32
 |0=>rfl
 |n+1=>by rw[show repeatL [32] (n+1)=[32]++repeatL [32] n from rfl,Hu n];rfl
def Ei:∀{l:List Tr} {y:Tr},y∈l->iB y<=ie l
 |x::l,y,h=>by rw[ie];obtain rfl|h:=zal.1 h;omega;have:=Ei h;omega
def Aa{v x:Tr}(h:x∈v.aa7):iB x<iB v:=by have:=Ei h;rw[lX v];omega
end
section
variable {ln:Bool} {lv:Nat}
def RQ(ln:Bool)(nd lv:Nat)(ps:List Bs):(xq ln nd lv ps).length<=(ps.map λp=>DB p+(1+(Zx ln nd lv).length)).sum:=by
 cases ps with
 |nil=>exact zac _
 |cons p ps=>
  have:∀b:List Bs,(b.flatMap λq=>44::(Zx ln nd lv++q)).length=(b.map λp=>DB p+(1+(Zx ln nd lv).length)).sum:=by
   intro b;induction b with
   |nil=>rfl
   |cons q b c=>grind
  rw[xq,zah,zah,this,zbk,List.sum_cons];omega
def EO{nd lv:Nat}(h:nd<=8)(b:lv<=100):(Zx ln nd lv).length<=801:=by unfold Zx;have:nd*lv<=800:=zb8 (zcg h b) ω;grind
theorem sI(t:Bs):(io t).1.length<=6*DB t+2:=by unfold io;grind [uK]
def xN{ln:Bool}{N:Nat}(r:N<=8):∀(n:Nat) (v:Tr) (lv:Nat),cK v<=n->Sm v->lv+iB v<=90->(Y5 ln N v lv).length+10000000<=cK v*20000000
 |0,v,lv,h,_,_=>χ (wa v)
 |n+1,v,lv,hz,hsm,hd=>by
  have B:=hsm.aa9;have t:=wa v;have e:∀x∈v.aa7,(Y5 ln N x (lv+1)).length+10000000<=cK x*20000000:=λx q=>by have h1:=qi q;have h2:=Aa q;exact xN r n x (lv+1) ω (hsm.item q) ω
  have A:=EO (ln:=ln) (lv:=lv) r ω;have w:=EO (ln:=ln) (lv:=lv+1) r ω;have f:∀l:List Tr,(∀x∈l,(Y5 ln N x (lv+1)).length+10000000<=cK x*20000000)->(l.map λx=>(Y5 ln N x (lv+1)).length+10000000).sum<=xc l*20000000:=by
   intro l;induction l with
   |nil=>simp
   |cons x l j=>intro h;have h1:=h x zat;have h2:=j λy m=>h y (zan _ m);rw[zbk,List.sum_cons,xc,zc7];omega
  have u:=f v.aa7 e;have b:∀ps:List Bs,(ps.map λp=>DB p+(1+(Zx ln N (lv+1)).length)).sum<=xc v.aa7*20000000->∀o c:UInt8,(o::jW ln N lv ps++[c]).length+10000000<=cK v*20000000:=λps z o c=>by
   have E:=RQ ln N (lv+1) ps;have:(o::jW ln N lv ps++[c]).length<=2+(xq ln N (lv+1) ps).length+(Zx ln N lv).length:=by unfold jW;simp only[za1,zah,zbx];split <;> simp <;> omega
   rw[jr,zc7];omega
  rw[Q7];split;grind;split;grind [sI];split;refine b _ (zb8 ?_ u) 91 93;rw[zbo];have:∀l:List Tr,(l.map ((λp:Bs=>DB p+(1+(Zx ln N (lv+1)).length)) ∘ λx=>Y5 ln N x (lv+1))).sum<=(l.map λx=>(Y5 ln N x (lv+1)).length+10000000).sum:=by
   intro l;induction l with
   |nil=>simp
   |cons x l j=>grind
  exact this _;split;refine b _ (zb8 ?_ u) 123 125;have:∀(ks:List Bt) (l:List Tr),(∀k∈ks,(lb k).length<=1048576)->((List.zipWith (jN ln) ks (l.map λx=>Y5 ln N x (lv+1))).map λp:Bs=>DB p+(1+(Zx ln N (lv+1)).length)).sum<=(l.map λx=>(Y5 ln N x (lv+1)).length+10000000).sum:=by
   intro ks;induction ks with
   |nil=>simp
   |cons k ks j=>
    intro l i;cases l with
    |nil=>simp
    |cons x l=>
     have h1:=j l λy m=>i y (zan _ m);have h2:=i k zat;have D:=sI (lb k);have C:(jN ln k (Y5 ln N x (lv+1))).length<=(io (lb k)).1.length+2+(Y5 ln N x (lv+1)).length:=by unfold jN;rw[zah,za1,zah];split <;> simp <;> omega
     simp only[zbk,List.zipWith_cons_cons,List.sum_cons];omega
  exact this v.aa8 v.aa7 λk i=>hsm.key i;omega
def ME{N:Nat}{v:Tr}(h:ib v=Ta):Y5 ln N v lv≠[]:=by unfold ib at h;rw[zaw]at h;have⟨j,h⟩:=h;unfold zm at h;rw[Q7];by_cases h1:v.aa6=1;simp_all;rw[zv h1]at h ⊢;by_cases b:v.aa6=4;rw[zA b];rw[b]at h;simp at h;unfold io;simp_all;rw[zv b];by_cases f:v.aa6=5;simp_all;rw[zv f];by_cases c:v.aa6=6;simp_all;rw[zv c];by_cases h2:v.aa6=2;grind;rw[zv h2]at h;by_cases i:v.aa6=3;rw[zA i]at h;simp only[zaw]at h;have:=h.1.1;unfold iZ at this;simp only[zaw,beq_iff_eq]at this;intro e;rw[e]at this;exact absurd this.1 ζ;simp_all
end
section
def Cm{v:Tr}(h:ib v=Ta):(v.aa6=1/\lb v.aa9=[]/\v.aa8=[]/\v.aa7=[])\/(v.aa6=2/\(lb v.aa9=[116,114,117,101]\/lb v.aa9=[102,97,108,115,101])/\v.aa8=[]/\v.aa7=[])\/(v.aa6=3/\((qm (lb v.aa9)).2=0/\Qa (qm (lb v.aa9)).1=lb v.aa9)/\v.aa8=[]/\v.aa7=[])\/(v.aa6=4/\Q2 (lb v.aa9)=Ta/\v.aa8=[]/\v.aa7=[]) \/(v.aa6=5/\lb v.aa9=[]/\v.aa8=[])\/(v.aa6=6/\yj v.aa8=Ta/\DB v.aa8=DB v.aa7/\lb v.aa9=[]):=by unfold ib at h;rw[zaw]at h;have⟨b,h⟩:=h;have b:v.aa6≠7:=zH b;unfold zm at h;by_cases h1:v.aa6=1;simp_all;rw[zv h1]at h;by_cases h2:v.aa6=2;simp_all;rw[zv h2]at h;by_cases c:v.aa6=3;rw[zA c]at h;unfold iZ at h;simp_all;grind
end
section
def zt(xs:List Bt):List Bt:=((xs.map lb).mergeSort λx y=>decide (x<=y)).map bl
theorem KR{xs ys:List Bt}(h:xs.Perm ys):zt xs=zt ys:=by unfold zt;rw[mergeSort_of_perm (h.map lb)]
theorem qz(xs:List Bt):(zt xs).Perm xs:=by
 have h:=(List.mergeSort_perm (xs.map lb) λx y=>decide (x<=y)).map bl;rw[zbo]at h;have e:bl ∘ lb=id:=by funext x;exact Xl x
 rw[e,List.map_id]at h;exact h
theorem Bi(xs:List Bt):(zt xs).length=DB xs:=(qz xs).length_eq
end
section
def jB:List (Bt×Tr)->Bt->Tr
 |[],_=>.mk 0 (bl []) [] []
 |p::l,k=>if p.1=k then p.2 else jB l k
mutual
def zj:Tr->Tr
 |.mk k s ks xs=>if k=6 then .mk k s (zt ks) ((zt ks).map λq=>jB (ks.zip (tX xs)) q)else .mk k s [] (tX xs)
def tX:List Tr->List Tr
 |[]=>[]
 |x::l=>zj x::tX l
end
def ym(v:Tr):Tr:=if wm v=Ta then zj v else .mk 0 (bl []) [] []
theorem Iq:∀l:List Tr,tX l=l.map zj
 |[]=>rfl
 |x::l=>by rw[tX,Iq l];rfl
theorem Qh(v:Tr):zj v=ite (v.aa6=6) (.mk v.aa6 v.aa9 (zt v.aa8) ((zt v.aa8).map λq=>jB (v.aa8.zip (v.aa7.map zj)) q)) (.mk v.aa6 v.aa9 [] (v.aa7.map zj)):=by
 cases v with
 |mk k s ks xs=>rw[zj,Iq]
def uT(k:Bt):∀(ks:List Bt) (ys:List Tr),DB ks=DB ys->k∈ks->∃(j:Nat) (h1:j<DB ks) (h2:j<DB ys),ks[j]=k/\jB (ks.zip ys) k=ys[j]/\∀us:List Value,DB us=DB ks->il (ks.zip us) k=us[j]?
 |[],_,_,h=>by cases h
 |z::ks,[],h,_=>by simp at h
 |z::ks,y::ys,h,hk=>by
  by_cases hz:z=k;refine⟨0,ξ,ξ,hz,?_,λus b=>?_⟩;rw[zdm,jB,zA hz];rfl
  match us,b with
  |u::us,_=>rw[zdm,il,zA hz];rfl
  have c:k∈ks:=by obtain e|e:=zal.1 hk;simp_all;exact e
  have⟨j,h1,h2,f,l,i⟩:=uT k ks ys (ψ h) c;refine⟨j+1,φ,φ,ψ f,?_,λus b=>?_⟩;rw[zdm,jB,zv hz,l];rfl
  match us,b with
  |u::us,b=>rw[zdm,il,zv hz,i us (ψ b)];rfl
end
section
variable {xs ys:List Tr} {α:Type} {v:Tr}
theorem Uf(h:xs.Perm ys):xc xs=xc ys:=by
 induction h with
 |nil=>rfl
 |cons x _ c=>rw[xc,xc,c]
 |swap x y l=>simp only[xc];omega
 |trans _ _ a b=>rw[a,b]
theorem Sd(h:xs.Perm ys):ie xs=ie ys:=by
 induction h with
 |nil=>rfl
 |cons x _ c=>rw[ie,ie,c]
 |swap x y l=>simp only[ie];omega
 |trans _ _ a b=>rw[a,b]
theorem Gm{xs ys:ac0}(h:xs.Perm ys):xs.sum=ys.sum:=η
theorem LR{p:α->Bool}{xs ys:List α}(h:xs.Perm ys):xs.all p=ys.all p:=η
theorem BR:∀(ks:List Bt) (ys:List Tr),ks.Nodup->DB ks=DB ys->(ks.map λq=>(q,jB (ks.zip ys) q))=ks.zip ys
 |[],ys,_,_=>ξ
 |k::ks,[],_,h=>by simp at h
 |k::ks,y::ys,hn,h=>by rw[List.nodup_cons]at hn;rw[zbk,zdm];congr 1;rw[jB,zA rfl];rw[<-BR ks ys hn.2 (ψ h)];refine zdj λq b=>?_;have:k≠q:=λe=>hn.1 (e ▸ b);rw[jB,zv this];congr 2;exact BR ks ys hn.2 (ψ h)
structure SrtF (v w:Tr):Prop where
 k:w.aa6=v.aa6
 t:w.aa9=v.aa9
 kp:w.aa8.Perm v.aa8
 ip:w.aa7.Perm (v.aa7.map zj)
 zp:(w.aa8.zip w.aa7).Perm (v.aa8.zip (v.aa7.map zj))
def OP(b:zm v=Ta)(c:v.aa6≠6):v.aa8=[]:=by unfold zm at b;grind
def BX(b:zm v=Ta)(c:v.aa6=6):v.aa8.Nodup/\DB v.aa8=DB v.aa7:=by unfold zm yj at b;simp_all
def Gg(h:zm v=Ta):SrtF v (zj v):=by
 rw[Qh];by_cases b:v.aa6=6;rw[zA b];have⟨i,k⟩:=BX h b;have hz:=BR v.aa8 (v.aa7.map zj) i θ;have c:=(qz v.aa8).map λq=>(q,jB (v.aa8.zip (v.aa7.map zj)) q);rw[hz]at c;have e:∀l:List Bt,l.zip (l.map λq=>jB (v.aa8.zip (v.aa7.map zj)) q)=l.map λq=>(q,jB (v.aa8.zip (v.aa7.map zj)) q):=by
  intro l;induction l with
  |nil=>rfl
  |cons x l j=>simp_all
 refine⟨rfl,rfl,qz _,?_,?_⟩;have:=c.map (·.2);rw[zbo,List.map_snd_zip θ]at this;exact this;simp_all;rw[zv b];have f:=OP h b;exact⟨rfl,rfl,ϕ f,.refl _,ϕ f⟩
theorem Ow{a:List α}:a.isEmpty=ph (DB a=0):=η
def zx6{a b:List Bt}(h:a.Perm b):yj a=yj b:=by unfold yj;grind
def zux{v w:Tr}(h1:w.aa6=v.aa6)(h2:w.aa9=v.aa9)(c:w.aa8.length=DB v.aa8)(e:w.aa7.length=DB v.aa7)(b:yj w.aa8=yj v.aa8):zm w=zm v:=by unfold zm;grind [Ow]
def GK(ln:Bool)(nd lv:Nat)(ps:List Bs):(xq ln nd lv ps).length+(ite (ps=[]) 0 1)=(ps.map λp=>DB p+(1+(Zx ln nd lv).length)).sum:=by
 cases ps with
 |nil=>rfl
 |cons p ps=>
  have:∀b:List Bs,(b.flatMap λq=>44::(Zx ln nd lv++q)).length=(b.map λp=>DB p+(1+(Zx ln nd lv).length)).sum:=by
   intro b;induction b with
   |nil=>rfl
   |cons q b c=>grind
  rw[xq,zah,zah,this,zbk,List.sum_cons,zv ξ];omega
def F4{ln:Bool}{nd lv:Nat}{ps b:List Bs}(h:(ps.map zbu).Perm (b.map zbu)):(jW ln nd lv ps).length=(jW ln nd lv b).length:=by
 have e:(ps=[])↔(b=[]):=by have:=h.length_eq;rw[zas,zas]at this;rw[<-zdr,<-zdr,this]
 have h1:=GK ln nd (lv+1) ps;have h2:=GK ln nd (lv+1) b;have c:=Gm (h.map λn=>n+(1+(Zx ln nd (lv+1)).length));rw[zbo,zbo]at c;have c:(ps.map λp=>DB p+(1+(Zx ln nd (lv+1)).length)).sum=(b.map λp=>DB p+(1+(Zx ln nd (lv+1)).length)).sum:=c;unfold jW;grind
theorem FI{α β γ:Type}(f:α->β->γ):∀(a:List α) (b:List β),List.zipWith f a b=(a.zip b).map λp=>f p.1 p.2
 |[],_=>ξ
 |_::_,[]=>ξ
 |x::a,y::b=>by rw[List.zipWith_cons_cons,zdm,zbk,FI f a b]
structure SrtG (v:Tr):Prop where
 sz:cK (zj v)=cK v
 dp:iB (zj v)=iB v
 okv:Zo ib (zj v)=Zo ib v
 nok:Zo zm (zj v)=Ta
 tx:∀m,kn m v->kn m (zj v)
 len:∀(ln:Bool) (N lv:Nat),(Y5 ln N (zj v) lv).length=(Y5 ln N v lv).length
theorem Lm{f:Tr->Tr}:∀{l:List Tr},(∀x∈l,cK (f x)=cK x)->xc (l.map f)=xc l
 |[],_=>rfl
 |x::l,h=>by rw[zbk,xc,xc,h x zat,Lm λy b=>h y (zan _ b)]
theorem Kb{f:Tr->Tr}:∀{l:List Tr},(∀x∈l,iB (f x)=iB x)->ie (l.map f)=ie l
 |[],_=>rfl
 |x::l,h=>by rw[zbk,ie,ie,h x zat,Kb λy b=>h y (zan _ b)]
def D1:∀(n:Nat) (v:Tr),cK v<=n->Zo zm v=Ta->SrtG v
 |0,v,h,_=>χ (wa v)
 |n+1,v,hz,hok=>by
  rw[Zb,zaw,jl,zbl]at hok;have⟨j,e⟩:=hok;have S:=Gg j;have c:∀x∈v.aa7,SrtG x:=λx b=>D1 n x (χ (qi b)) (e x b);have i:zm (zj v)=zm v:=zux S.k S.t S.kp.length_eq (by rw[S.ip.length_eq,zas]) (zx6 S.kp);refine⟨?_,?_,?_,?_,λm h=>?_,λln N lv=>?_⟩;rw[jr,jr v,Uf S.ip,Lm λx b=>(c x b).sz];rw[lX,lX v,Sd S.ip,Kb λx b=>(c x b).dp];rw[Zb,Zb _ v,jl,jl,LR S.ip,List.all_map];have q:ib (zj v)=ib v:=by unfold ib;rw[i,S.k]
  rw[q];congr 1;rw[zbd,zbl,zbl];exact⟨λa x b=>by rw[<-(c x b).okv];exact a x b,λa x b=>by show Zo ib (zj x)=Ta;rw[(c x b).okv];exact a x b⟩;rw[Zb,i,j,zce,jl,LR S.ip,List.all_map,zbl];exact λx b=>(c x b).nok;rw[nF]at h ⊢;have⟨⟨h1,h2,o⟩,r⟩:=h;refine⟨⟨by rw[S.t];exact h1,by rw[S.kp.length_eq];exact h2,λk e=>o k (S.kp.mem_iff.1 e)⟩,sY.2 λx b=>?_⟩;obtain⟨y,f,rfl⟩:=zbr.1 (S.ip.mem_iff.1 b);exact(c y f).tx m (sY.1 r y f);rw[Q7,Q7 (v:=v),S.k,S.t];split;rfl;split;rfl;split;simp only[zah,za1];congr 2;refine F4 ?_;rw[zbo,zbo];have h1:=S.ip.map λx=>(Y5 ln N x (lv+1)).length;rw[zbo]at h1;refine h1.trans ?_;have:v.aa7.map ((λx=>(Y5 ln N x (lv+1)).length) ∘ zj)=v.aa7.map (zbu ∘ λx=>Y5 ln N x (lv+1)):=zdj λx b=>(c x b).len ln N (lv+1);rw[this];split;simp only[zah,za1];congr 2;refine F4 ?_;have d:∀(ks:List Bt) (xs:List Tr),(List.zipWith (jN ln) ks (xs.map λx=>Y5 ln N x (lv+1))).map zbu=(ks.zip xs).map λp=>(jN ln p.1 (Y5 ln N p.2 (lv+1))).length:=by intro ks xs;rw[FI,List.zip_map_right,zbo,zbo];rfl
  rw[d,d];have h1:=S.zp.map λp=>(jN ln p.1 (Y5 ln N p.2 (lv+1))).length;refine h1.trans ?_;rw[List.zip_map_right,zbo];have:(v.aa8.zip v.aa7).map ((λp=>(jN ln p.1 (Y5 ln N p.2 (lv+1))).length) ∘ Prod.map id zj)=(v.aa8.zip v.aa7).map λp=>(jN ln p.1 (Y5 ln N p.2 (lv+1))).length:=zdj λp l=>by have:=(c p.2 (List.of_mem_zip l).2).len ln N (lv+1);show(jN ln p.1 (Y5 ln N (zj p.2) (lv+1))).length=_;unfold jN;simp_all
  rw[this];rfl
def zu0(h:wm v=Ta):zr (zj v)=zr v:=by unfold wm at h;rw[zaw]at h;have S:=D1 (cK v) v (zac _) h.2;have e:∀w:Tr,zr w=(xa w&&Zo ib w):=λw=>rfl;rw[e,e,S.okv];unfold xa;rw[S.sz,S.dp]
theorem LM(h:zr v=Ta):wm v=Ta:=by have e:zr v=(xa v&&Zo ib v):=rfl;rw[e,zaw]at h;unfold wm;rw[h.1,zce];exact vw (λx b=>by unfold ib at b;simp_all) v h.2
def Ky(h:Sm v):Sm (ym v):=by unfold ym;by_cases b:wm v=Ta;rw[zA b];unfold wm at b;rw[zaw]at b;have S:=D1 (cK v) v (zac _) b.2;exact⟨by rw[S.sz];exact h.sz,S.tx _ h.tx⟩;rw[zv b];exact⟨ζ,by rw[nF];exact⟨⟨ζ,ζ,ζ⟩,trivial⟩⟩
theorem Iu:zr (ym v)=zr v:=by
 unfold ym;by_cases b:wm v=Ta;rw[zA b];exact zu0 b;rw[zv b];cases hr:zr v with
 |true=>exact absurd (LM hr) b
 |false=>rfl
end
section
variable {l:List Tr} {m:Nat}
def nT(k:Bt):Bt:=bl (107::(io (lb k)).1)
def kE(v:Tr):Bt:=if v.aa6=5 then bl [91]else if v.aa6=6 then bl [123]else bl (Y5 Tc 0 v 0)
mutual
def ia:Tr->Nat->List (Bt×Int)
 |.mk k s ks xs,n=>(if k=6 then hH xs ks n else if k=5 then iz xs n else [])++[(kE (.mk k s ks xs),(n:Int))]
def iz:List Tr->Nat->List (Bt×Int)
 |[],_=>[]
 |x::l,n=>ia x n++iz l (n+(ia x n).length)
def hH:List Tr->List Bt->Nat->List (Bt×Int)
 |[],_,_=>[]
 |x::l,ks,n=>ia x n++((nT ks.head!,(n:Int))::hH l ks.tail (n+(ia x n).length+1))
end
theorem Ix(v:Tr)(n:Nat):ia v n=(ite (v.aa6=6) (hH v.aa7 v.aa8 n) (ite (v.aa6=5) (iz v.aa7 n) []))++[(kE v,(n:Int))]:=by cases v;rw[ia]
mutual
def iI:Tr->Nat
 |.mk k _ _ xs=>(if k=6 then iu 1 xs else if k=5 then iu 0 xs else 0)+1
def iu(d:Nat):List Tr->Nat
 |[]=>0
 |x::l=>iI x+d+iu d l
end
theorem w3(v:Tr):iI v=(ite (v.aa6=6) (iu 1 v.aa7) (ite (v.aa6=5) (iu 0 v.aa7) 0))+1:=by cases v;rw[iI]
mutual
theorem Zy:∀(v:Tr) (n:Nat),(ia v n).length=iI v
 |.mk k s ks xs,n=>by rw[ia,iI,zah,zcj];congr 1;split;exact yY xs ks n;split;exact t6 xs n;rfl
theorem t6:∀(l:List Tr) (n:Nat),(iz l n).length=iu 0 l
 |[],_=>by rw[iz,iu];rfl
 |x::l,n=>by rw[iz,iu,zah,Zy x n,t6 l];omega
theorem yY:∀(l:List Tr) (ks:List Bt) (n:Nat),(hH l ks n).length=iu 1 l
 |[],_,_=>by rw[hH,iu];rfl
 |x::l,ks,n=>by rw[hH,iu,zah,za1,Zy x n,yY l];omega
end
theorem Gt:∀(l:List Tr) (m:List Tr) (n:Nat),iz (l++m) n=iz l n++iz m (n+(iz l n).length)
 |[],m,n=>by rw[iz];rfl
 |x::l,m,n=>by rw[zbs,iz,iz,Gt l m,za3,zah];congr 3;omega
theorem Cr(h:m<DB l)(n:Nat):iz (l.take (m+1)) n=iz (l.take m) n++ia l[m] (n+(iz (l.take m) n).length):=by rw[zai h,Gt,iz,iz,zbi]
theorem Me:∀(l:List Tr) (m:List Tr) (ks:List Bt) (n:Nat),hH (l++m) ks n=hH l ks n++hH m (ks.drop (DB l)) (n+(hH l ks n).length)
 |[],m,ks,n=>by rw[hH];rfl
 |x::l,m,ks,n=>by rw[zbs,hH,hH,Me l m,za3,zbs,zah,za1,za1,<-List.drop_tail];congr 4;omega
theorem Ls{ks:List Bt}(h:m<DB l)(b:m<DB ks)(n:Nat):hH (l.take (m+1)) ks n=hH (l.take m) ks n++(ia l[m] (n+(hH (l.take m) ks n).length)++[(nT ks[m],((n+(hH (l.take m) ks n).length:Nat):Int))]):=by rw[zai h,Me,hH,hH,zbt,zew ω];congr 4;rw[zbg b];rfl
def iC(X:List (Bt×Int)):List (Bt×Int):=X.take 513
def wE(X:List (Bt×Int)):(iC X).length<=513:=by unfold iC;grind
theorem pe{X:List (Bt×Int)}(h:X.length<=513):iC X=X:=zb0 h
theorem uD(X:List (Bt×Int))(f:Nat->List (Bt×Int)):iC (iC X++f (iC X).length)=iC (X++f (DB X)):=by
 by_cases h:X.length<=513;rw[pe h];have b:(iC X).length=513:=by unfold iC;rw[zbt];omega
 unfold iC at b ⊢;grind
theorem HX{X:List (Bt×Int)}(h:X.length<=513)(p:Bt×Int):(ite (DB X<=512) (X++[p]) X)=iC (X++[p]):=by
 split;simp_all[pe];rename_i b;have:X.length=513:=ω
 unfold iC;simp_all
end
section
variable {n i:Nat}
def cR(L:List Int)(i:Nat):Int:=L.getD i 0
def km(L:List Int)(j:Nat):Bool:=ph (0<=cR L j)&&ph (cR L j<=j)&&(za7 j).all λi=>!(ph (cR L j<=(i:Int))&&ph (cR L i<cR L j))
def jJ(L:List Int)(j:Nat):Bool:=(za7 j).all (km L)
def zx(t:List Bt×List Int):Bool:=ph (t.1.length=t.2.length)&&ph (t.1.length<=512)&&jJ t.2 t.2.length
def jE(L:List Int)(n i:Nat):Int:=match (za7 n).find? λj=>decide (i<j)&&ph (cR L j<=(i:Int))with
 |some j=>(j:Int)
 |none=>-1
def pg(L:List Int):List Int:=(za7 L.length).map (jE L L.length)
def gR(L:List Int)(j:Nat):List Nat:=(za7 j).filter λi=>decide (jE L j i<0)
def Zz{L:ad4}{j:Nat}:km L j=Ta↔0<=cR L j/\cR L j<=j/\∀i,i<j->cR L j<=(i:Int)->cR L j<=cR L i:=by unfold km;grind
theorem Yd{L:ad4}{j:Nat}:jJ L j=Ta↔∀i,i<j->km L i=Ta:=by unfold jJ;simp
def IK{L:ad4}{j:Nat}(h:jJ L j=Ta)(h2:km L j=Ta):jJ L (j+1)=Ta:=by grind [Yd]
def OS{p:Nat->Bool}:∀{n j:Nat},(za7 n).find? p=Td j->j<n/\p j=Ta/\∀i,i<j->p i=Tc:=θ
theorem Yk(L:ad4)(n i:Nat):(jE L n i=-1/\∀j,i<j->j<n->(i:Int)<cR L j)\/∃p:Nat,jE L n i=(p:Int)/\i<p/\p<n/\cR L p<=(i:Int)/\∀j,i<j->j<p->(i:Int)<cR L j:=by
 unfold jE;cases e:(za7 n).find? λj=>decide (i<j)&&ph (cR L j<=(i:Int))with
 |none=>simp_all
 |some p=>have⟨h1,h2,b⟩:=OS e;grind
theorem Ge{L:ad4}{n i p:Nat}(h1:i<p)(h2:p<n)(c:cR L p<=(i:Int))(b:∀j,i<j->j<p->(i:Int)<cR L j):jE L n i=(p:Int):=by grind [Yk]
theorem KS{L:ad4}(h:∀j,i<j->j<n->(i:Int)<cR L j):jE L n i=-1:=by grind [Yk]
theorem Ff(L:ad4)(n i:Nat)(hi:i<n):jE L (n+1) i=ite (jE L n i<0/\cR L n<=(i:Int)) (n:Int) (jE L n i):=by obtain⟨e,h⟩|⟨p,e,a,b,c,d⟩:=Yk L n i;by_cases f:cR L n<=(i:Int);rw[zA ⟨ω,f⟩];grind [Ge];rw[zv (λq=>f q.2),e];grind [KS];rw[zv (λq=>ω),e];exact Ge a ω c d
theorem Fv(L:ad4)(n:Nat):jE L (n+1) n=-1:=KS λj h1 h2=>ω
def IB{L:ad4}{j:Nat}(h:jJ L j=Ta):∀(k i:Nat),j-i<=k->i<j->∃r,r<j/\jE L j r=-1/\i<=r/\cR L r<=cR L i
 |0,i,hk,hi=>ω
 |k+1,i,hk,hi=>by obtain⟨e,_⟩|⟨p,e,a,b,c,_⟩:=Yk L j i;grind;have⟨r,l,m,f,n⟩:=IB h k p ω b;rw[Yd]at h;have:=(Zz.1 (h p b)).2.2 i a c;grind
theorem BF{L:ad4}{j i:Nat}:i∈gR L j↔i<j/\jE L j i=-1:=by unfold gR;rw[List.mem_filter,zcs,zG];grind [Yk]
def VY{L:ad4}{j:Nat}(h:jJ L j=Ta)(h0:0<=cR L j)(h1:cR L j<=j)(h2:∀r∈gR L j,cR L j<=(r:Int)->cR L j<=cR L r):km L j=Ta:=by refine Zz.2 ⟨h0,h1,λi hi k=>?_⟩;have⟨r,c,b,f,e⟩:=IB h (j-i) i (zac _) hi;have:=h2 r (BF.2 ⟨c,b⟩) ω;omega
theorem z9f(L:ad4)(j:Nat):gR L (j+1)=(gR L j).filter (λi:Nat=>decide ((i:Int)<cR L j))++[j]:=by unfold gR;rw[List.range_succ,List.filter_append,List.filter_filter];congr 1;refine List.filter_congr λi hi=>?_;rw[zcs]at hi;rw[Ff L j i hi,zbd,zaw,zG,zG,zG];omega;rw[zef,zA (by rw[Fv];decide)];rfl
def RD(L:ad4)(j:Nat):(gR L j).Pairwise (· < ·):=by unfold gR;exact List.Pairwise.sublist List.filter_sublist List.pairwise_lt_range
def Gf:∀{l:ac0},l.Pairwise (· < ·)->∀{x:Int} {m:Nat},m<=DB l->(∀i (h:i<DB l),i<m->(l[i]:Int)<x)->(∀i (h:i<DB l),m<=i->x<=(l[i]:Int))->l.filter (λi:Nat=>decide ((i:Int)<x))=l.take m
 |[],_,x,m,_,_,_=>ξ
 |a::l,hp,x,m,hm,h1,h2=>by
  cases m with
  |zero=>rw[List.take_zero,List.filter_eq_nil_iff];intro b hb;obtain⟨i,hi,rfl⟩:=zdp.1 hb;simp_all
  |succ m=>rw[zef,zA (by have:=h1 0 ξ ω;grind),List.take_succ_cons];congr 1;exact Gf (zb2.1 hp).2 (ψ hm) (λi h hi=>η) (λi h hi=>by have:=h2 (i+1) (ψ h) ω;grind)
def OY{L:ad4}(h:i<DB L):L[i]?=Td (cR L i):=by unfold cR;simp_all
theorem qdk{L:ad4}(h:i<DB L):(pg L)[i]?=Td (jE L (DB L) i):=by unfold pg;simp_all
theorem z9g(L:ad4):(pg L).length=DB L:=by unfold pg;simp
end
end
section
section
def Dr(P:EM)(t:Nw)(n:Nat)(u:Value)(h:zc)(K:Value->zc->Prop):Prop:=
 nA P (do let x <-Instr.buildSlice t n #[(0,u)];pure (zd8 x)) h λb h'=>match b with
  |.value v=>K v h'
  |.skip=>K undef h'
  |_=>False
end
section
def zu8(b:Int)(c:Bt)(d:Sl)(e:Sl)(h:zc)(R:vvv) (H:let f:=h.push (.cells #[iV b,ab5 c,aK d,aK e] 25);let g:=f.push (.cells #[.slice Te 0 0,.slice Te 0 0] 31);∃i j k l,ze g (ab7 h) 0 (tL i j k l)/\ab3 49 #[tA i j k l] g (λm n=>∃o,m=.bool o/\((!o)=Ta->CA Tp (zae 31 (ab6 (ab7 f)) (.agg #[.slice Te 0 0,.slice Te 0 0])) n (λp=>∃q r,ze p (ab7 f) 0 [aK q,aK r]/\R (.tuple #[.agg #[aK q,aK r],iV 1]) p))/\((!o)=Tc->let s:=n.push (.cells #[.slice Te 0 0,.slice Te 0 0] 69);∃t u v w,ze s (ab7 h) 0 (tL t u v w)/\ab3 56 #[tA t u v w] s (λx y=>∃z A B C,x=tA z A B C/\ab3 55 #[ab6 (ab7 n),tA z A B C] y (λD E=>D=.tuple #[]/\∃F,zd E (zab (zab (ab7 n) 0) 0)=Td (aK F)/\(ph ((F.len:Int)>512)=Ta->CA Tp (zae 31 (ab6 (ab7 f)) (.agg #[.slice Te 0 0,.slice Te 0 0])) E (λG=>∃I J,ze G (ab7 f) 0 [aK I,aK J]/\R (.tuple #[.agg #[aK I,aK J],iV 6]) G))/\(ph ((F.len:Int)>512)=Tc->∃L M,ze E (zab (ab7 n) 0) 0 [aK L,aK M]/\CA Tp (zae 31 (ab6 (ab7 f)) (.agg #[aK L,aK M])) E (λN=>∃O P,ze N (ab7 f) 0 [aK O,aK P]/\R (.tuple #[.agg #[aK O,aK P],iV 0]) N))))))):ab3 14 #[.agg #[ab9 b,ab5 c,.slice d.a d.len d.cap,.slice e.a e.len e.cap]] h R:=XF ⟨[],[],[]⟩ [.cell 2 31,.tmp 3] 20 func14 H
def NB(b:Sl)(c:Sl)(h:zc)(R:vvv) (H:let d:=h.push (.cells #[aK b,aK c] 31);∃e f,ze d (ab7 h) 0 [aK e,aK f]/\ab3 21 #[.agg #[aK e,aK f]] d (λg i=>∃j,g=.bool j/\((!j)=Ta->R (.slice Te 0 0) i)/\((!j)=Tc->let k:=i.push (.map #[] 0);∃l,zd k (zab (ab7 h) 1)=Td (aK l)/\∃(m:ac5) (n:ac7),m 0 k/\∀o:Int,∀p:zc,m o p->((ph (o<l.len)=Ta->∃q,(l.a=Td q/\0<=o/\o<l.len)/\∃r,zd p (q.add (o.toNat*1))=Td (iV r)/\CA Tp (zct 79 (.map (Td i.size)) (iV r) (iV o)) p (λs=>(m (w6 (o+1)) s/\n (w6 (o+1)) s<n o p)))/\(ph (o<l.len)=Tc->qq Tp (zey 79 (.map (Td i.size))) p (λt u=>∃v:Option n8,t=.pointer v/\∃(w:Sl->zc->Prop) (x:Sl->zc->Nat),w (⟨Te,0,0⟩:Sl) u/\∀y:Sl,∀z:zc,w y z->(qq Tp (zdz (.pointer v) Tc 0) z (λA B=>(A=.tuple #[ab8 Tc]/\(Tc=Ta->qq Tp (zen (.pointer v)) B (λC D=>∃E F:Value,C=.tuple #[E,F]/\Dr Tp 29 1 F D (λG I=>qq Tp (zaj #[29,29] 29 #[aK y,G]) I (λJ L=>∃M,J=aK M/\(w M L/\x M L<x y z)))))/\(Tc=Tc->ab3 64 #[aK y] B (λN O=>N=.tuple #[]/\R (aK y) O)))\/∃P Q:Value,A=.tuple #[ab8 Ta,P,Q]/\(Ta=Ta->qq Tp (zen (.pointer v)) B (λS T=>∃U V:Value,S=.tuple #[U,V]/\Dr Tp 29 1 V T (λW X=>qq Tp (zaj #[29,29] 29 #[aK y,W]) X (λY Z=>∃aa,Y=aK aa/\(w aa Z/\x aa Z<x y z)))))/\(Ta=Tc->ab3 64 #[aK y] B (λab ac=>ab=.tuple #[]/\R (aK y) ac)))))))))):ab3 28 #[.agg #[.slice b.a b.len b.cap,.slice c.a c.len c.cap]] h R:=XF ⟨[],[(5,[(16,.one (.int .i64))]),(11,[(6,.one (.sl))])],[]⟩ [.tmp 2] 38 func28 H
def XG(b0:Option n8)(b:Int)(c:Bt)(d:Sl)(e:Sl)(h:zc)(R:vvv) (H:let f:=h.push (.cells #[.pointer b0] 112);let g:=f.push (.cells #[iV b,ab5 c,aK d,aK e] 25);∃i,zd g (zab (ab7 f) 0)=Td (iV i)/\((i==5)=Ta->∃j:Option n8,zd g (ab7 h)=Td (.pointer j)/\ab3 94 #[.pointer j,ab5 (⟨#[91]⟩:Bt),.func (.func 95) #[] #[ab6 (ab7 f),ab6 (ab7 h)]] g (λk l=>k=.tuple #[]/\R (.tuple #[]) l))/\((i==5)=Tc->((i==6)=Ta->∃m:Option n8,zd g (ab7 h)=Td (.pointer m)/\ab3 94 #[.pointer m,ab5 (⟨#[123]⟩:Bt),.func (.func 96) #[] #[ab6 (ab7 f),ab6 (ab7 h)]] g (λn o=>n=.tuple #[]/\R (.tuple #[]) o))/\((i==6)=Tc->∃p:Option n8,zd g (ab7 h)=Td (.pointer p)/\∃q r s t,ze g (ab7 f) 0 (tL q r s t)/\ab3 97 #[tA q r s t] g (λu v=>∃w,u=.string w/\hZ v g (ab7 h)/\ab3 94 #[.pointer p,ab5 w,.func (.func 100) #[] #[]] v (λx y=>x=.tuple #[]/\R (.tuple #[]) y))))):ab3 55 #[.pointer b0,.agg #[ab9 b,ab5 c,.slice d.a d.len d.cap,.slice e.a e.len e.cap]] h R:=XF ⟨[(2,8000)],[],[]⟩ [] 20 func55 H
def zh2(b:Sl)(c:Sl)(d:Int)(e:Bt)(f:Sl)(g:Sl)(h:zc)(R:vvv) (H:let i:=h.push (.cells #[aK b,aK c] 31);let j:=i.push (.cells #[iV d,ab5 e,aK f,aK g] 25);let k:=j.push (.cells #[.slice Te 0 0,.slice Te 0 0] 31);∃l,zd k (zab (ab7 h) 0)=Td (aK l)/\∀m:Bt->zc->Prop,(∀n:Bt,∀o:zc,(∀p:Bt->zc->Prop,(∀q:Bt,∀r:zc,(∃(s:ac5) (t:ac7),s 0 r/\∀u:Int,∀v:zc,s u v->(∃w,zd v (zab (ab7 i) 3)=Td (aK w)/\(ph (u<w.len)=Ta->∃x,zd v (zab (ab7 h) 0)=Td (aK x)/\∃y z,ze v (ab7 h) 0 [aK y,aK z]/\∃A,zd v (zab (ab7 i) 3)=Td (aK A)/\∃B,(A.a=Td B/\0<=u/\u<A.len)/\∃C D E F,ze v (B.add (u.toNat*4)) 0 (tL C D E F)/\ab3 58 #[.agg #[aK y,aK z],tA C D E F] v (λG I=>∃J L,G=.agg #[aK J,aK L]/\CA Tp (zae 31 (ab6 (ab7 h)) (.agg #[aK J,aK L])) I (λM=>∃N,zd M (zab (ab7 i) 0)=Td (iV N)/\((N==6)=Ta->∃O,zd M (zab (ab7 i) 2)=Td (aK O)/\∃P,(O.a=Td P/\0<=u/\u<O.len)/\∃Q,zd M (P.add (u.toNat*1))=Td (ab5 Q)/\ab3 105 #[ab5 Q] M (λS T=>∃U V W X,S=tA U V W X/\ab3 73 #[tA U V W X] T (λY Z=>∃aa ab,Y=.tuple #[ab5 aa,iV ab]/\∃ac,zd Z (zab (ab7 h) 0)=Td (aK ac)/\qg (((⟨#[107]⟩:Bt)).size+aa.size)/\let ad:=Z.push (.cells #[ab5 ((⟨#[107]⟩:Bt)++aa)] 9);qq Tp (zaj #[22,22] 22 #[aK ac,.slice (Td (ab7 Z)) 1 1]) ad (λae af=>∃ag,ae=aK ag/\CA Tp (zae 22 (.pointer (Td (zab (ab7 h) 0))) (aK ag)) af (λah=>∃ai,zd ah (zab (ab7 h) 1)=Td (aK ai)/\let aj:=ah.push (.cells #[iV (x.len:Int)] 3);qq Tp (zaj #[29,29] 29 #[aK ai,.slice (Td (ab7 ah)) 1 1]) aj (λak al=>∃am,ak=aK am/\CA Tp (zae 29 (.pointer (Td (zab (ab7 h) 1))) (aK am)) al (λan=>(s (w6 (u+1)) an/\t (w6 (u+1)) an<t u v))))))))/\((N==6)=Tc->(s (w6 (u+1)) M/\t (w6 (u+1)) M<t u v)))))/\(ph (u<w.len)=Tc->∃ao,zd v (zab (ab7 h) 0)=Td (aK ao)/\let ap:=v.push (.cells #[ab5 q] 9);qq Tp (zaj #[22,22] 22 #[aK ao,.slice (Td (ab7 v)) 1 1]) ap (λaq ar=>∃au,aq=aK au/\CA Tp (zae 22 (.pointer (Td (zab (ab7 h) 0))) (aK au)) ar (λav=>∃aw,zd av (zab (ab7 h) 1)=Td (aK aw)/\let ax:=av.push (.cells #[iV (l.len:Int)] 3);qq Tp (zaj #[29,29] 29 #[aK aw,.slice (Td (ab7 av)) 1 1]) ax (λay az=>∃aA,ay=aK aA/\CA Tp (zae 29 (.pointer (Td (zab (ab7 h) 1))) (aK aA)) az (λaB=>∃aC aD,ze aB (ab7 h) 0 [aK aC,aK aD]/\CA Tp (zae 31 (ab6 (ab7 j)) (.agg #[aK aC,aK aD])) aB (λaE=>∃aF aG,ze aE (ab7 j) 0 [aK aF,aK aG]/\R (.agg #[aK aF,aK aG]) aE))))))))->p q r)->∃aH,zd o (zab (ab7 i) 0)=Td (iV aH)/\∃aI,((aH != 5)=Ta->zd o (zab (ab7 i) 0)=Td (iV aI))/\((cond (aH != 5) (aI != 6) Tc)=Ta->∃aJ aL aM aN,ze o (ab7 i) 0 (tL aJ aL aM aN)/\ab3 73 #[tA aJ aL aM aN] o (λaO aP=>∃aQ aS,aO=.tuple #[ab5 aQ,iV aS]/\p aQ aP))/\((cond (aH != 5) (aI != 6) Tc)=Tc->p n o))->m n o)->∃aT,zd k (zab (ab7 i) 0)=Td (iV aT)/\((aT==6)=Ta->m (⟨#[123]⟩:Bt) k)/\((aT==6)=Tc->m (⟨#[91]⟩:Bt) k)):ab3 58 #[.agg #[.slice b.a b.len b.cap,.slice c.a c.len c.cap],.agg #[ab9 d,ab5 e,.slice f.a f.len f.cap,.slice g.a g.len g.cap]] h R:=XF ⟨[(11,8000)],[(8,[(7,.one (.int .i64))])],[(5,[(6,.one (.str))]),(7,[(6,.one (.str))])]⟩ [.cell 4 31] 86 func58 H
def ZJ(b:Sl)(c:Sl)(h:zc)(R:vvv) (H:let d:=h.push (.cells #[aK b,aK c] 31);∃e,zd d (zab (ab7 h) 0)=Td (aK e)/\∃f,zd d (zab (ab7 h) 1)=Td (aK f)/\∃g,((!((e.len:Int) != (f.len:Int)))=Ta->zd d (zab (ab7 h) 0)=Td (aK g))/\((cond ((e.len:Int) != (f.len:Int)) Ta (ph ((g.len:Int)>512)))=Ta->R (.tuple #[.slice Te 0 0,ab8 Tc]) d)/\((cond ((e.len:Int) != (f.len:Int)) Ta (ph ((g.len:Int)>512)))=Tc->∃i,zd d (zab (ab7 h) 1)=Td (aK i)/\qq Tp (zba 29 (iV (i.len:Int)) (iV (i.len:Int))) d (λj k=>∃l,j=aK l/\∃m,zd k (zab (ab7 h) 1)=Td (aK m)/\∃(n:Sl->Int->zc->Prop) (o:Sl->Int->zc->Nat),n (⟨Te,0,0⟩:Sl) 0 k/\∀p:Sl,∀q:Int,∀r:zc,n p q r->((ph (q<m.len)=Ta->∃s,(m.a=Td s/\0<=q/\q<m.len)/\∃t,zd r (s.add (q.toNat*1))=Td (iV t)/\((cond (ph (t<0)) Ta (ph (t>q)))=Ta->R (.tuple #[.slice Te 0 0,ab8 Tc]) r)/\((cond (ph (t<0)) Ta (ph (t>q)))=Tc->∃(u:Sl->zc->Prop) (w:Sl->zc->Nat),u p r/\∀x:Sl,∀y:zc,u x y->(∃z,(ph ((x.len:Int)>0)=Ta->(x.a=Td z/\0<=(w6 ((x.len:Int)-1))/\(w6 ((x.len:Int)-1))<(x.len:Int)))/\∃A,(ph ((x.len:Int)>0)=Ta->zd y (z.add ((w6 ((x.len:Int)-1)).toNat*1))=Td (iV A))/\((cond (ph ((x.len:Int)>0)) (ph (A>=t)) Tc)=Ta->∃B,(x.a=Td B/\0<=(w6 ((x.len:Int)-1))/\(w6 ((x.len:Int)-1))<(x.len:Int))/\∃C,zd y (B.add ((w6 ((x.len:Int)-1)).toNat*1))=Td (iV C)/\∃D,zd y (zab (ab7 h) 1)=Td (aK D)/\∃E,(D.a=Td E/\0<=C/\C<D.len)/\∃F,zd y (E.add (C.toNat*1))=Td (iV F)/\(ph (F<t)=Ta->R (.tuple #[.slice Te 0 0,ab8 Tc]) y)/\(ph (F<t)=Tc->∃G,(l.a=Td G/\0<=C/\C<l.len)/\let I:zc->Prop:=λ(J:zc)=>((u (⟨iy x.a 1 ((0:Int).toNat) ((x.cap:Int).toNat),(w6 ((x.len:Int)-1)).toNat-(0:Int).toNat,(x.cap:Int).toNat-(0:Int).toNat⟩:Sl) J/\w (⟨iy x.a 1 ((0:Int).toNat) ((x.cap:Int).toNat),(w6 ((x.len:Int)-1)).toNat-(0:Int).toNat,(x.cap:Int).toNat-(0:Int).toNat⟩:Sl) J<w x y));(((Te:Option Value)=Te\/∃v,(Td (iV (w6 ((x.len:Int)-1))):Option Value)=Td v)/\(0<=(0:Int)/\(0:Int)<=(w6 ((x.len:Int)-1))/\(w6 ((x.len:Int)-1))<=(x.cap:Int)/\(x.cap:Int)<=(x.cap:Int))/\CA Tp (zae 3 (.pointer (Td (G.add (C.toNat*1)))) (iV q)) y (λL=>I L))/\(CA Tp (zae 3 (.pointer (Td (G.add (C.toNat*1)))) (iV q)) y (λM=>((Te:Option Value)=Te\/∃v,(Td (iV (w6 ((x.len:Int)-1))):Option Value)=Td v)/\(0<=(0:Int)/\(0:Int)<=(w6 ((x.len:Int)-1))/\(w6 ((x.len:Int)-1))<=(x.cap:Int)/\(x.cap:Int)<=(x.cap:Int))/\I M))))/\((cond (ph ((x.len:Int)>0)) (ph (A>=t)) Tc)=Tc->∃N,(l.a=Td N/\0<=q/\q<l.len)/\CA Tp (zae 3 (.pointer (Td (N.add (q.toNat*1)))) (iV (-1))) y (λO=>let P:=O.push (.cells #[iV q] 3);qq Tp (zaj #[29,29] 29 #[aK x,.slice (Td (ab7 O)) 1 1]) P (λQ S=>∃T,Q=aK T/\(n T (w6 (q+1)) S/\o T (w6 (q+1)) S<o p q r)))))))/\(ph (q<m.len)=Tc->R (.tuple #[aK l,ab8 Ta]) r))))):ab3 60 #[.agg #[.slice b.a b.len b.cap,.slice c.a c.len c.cap]] h R:=XF ⟨[(14,8000)],[(6,[(5,.one (.sl)),(29,.one (.int .i64))]),(10,[(5,.one (.sl))])],[]⟩ [.tmp 2,.tmp 3] 85 func60 H
def PU(b:Int)(c:Bt)(d:Sl)(e:Sl)(f:Int)(g:Bt)(i:Sl)(j:Sl)(h:zc)(R:vvv) (H:let k:=h.push (.cells #[iV b,ab5 c,aK d,aK e] 25);let l:=k.push (.cells #[iV f,ab5 g,aK i,aK j] 25);∀m:Bool->zc->Prop,(∀n:Bool,∀o:zc,((n=Ta->R (ab8 Tc) o)/\(n=Tc->∃p,zd o (zab (ab7 h) 0)=Td (iV p)/\((p != 6)=Ta->∃q,zd o (zab (ab7 h) 3)=Td (aK q)/\∃r,zd o (zab (ab7 k) 3)=Td (aK r)/\ab3 140 #[aK q,aK r,.func (.func 84) #[] #[]] o (λs t=>∃u,s=.bool u/\R (ab8 u) t))/\((p != 6)=Tc->∃v w x y,ze o (ab7 h) 0 (tL v w x y)/\∃z A B C,ze o (ab7 k) 0 (tL z A B C)/\ab3 142 #[tA v w x y] o (λD E=>∃F:Option Nat,D=.map F/\hZ E o (ab7 k)/\ab3 142 #[tA z A B C] E (λG I=>∃J:Option Nat,G=.map J/\ab3 141 #[.map F,.map J,.func (.func 84) #[] #[]] I (λL M=>∃N,L=.bool N/\R (ab8 N) M))))))->m n o)->∃O,zd l (zab (ab7 h) 0)=Td (iV O)/\∃P,zd l (zab (ab7 k) 0)=Td (iV P)/\((O != P)=Ta->m (O != P) l)/\((O != P)=Tc->∃Q,zd l (zab (ab7 h) 1)=Td (ab5 Q)/\∃S,zd l (zab (ab7 k) 1)=Td (ab5 S)/\((!(Q.toList==S.toList))=Ta->m (!(Q.toList==S.toList)) l)/\((!(Q.toList==S.toList))=Tc->∃T,zd l (zab (ab7 h) 3)=Td (aK T)/\∃U,zd l (zab (ab7 k) 3)=Td (aK U)/\m ((T.len:Int) != (U.len:Int)) l))):ab3 84 #[.agg #[ab9 b,ab5 c,.slice d.a d.len d.cap,.slice e.a e.len e.cap],.agg #[ab9 f,ab5 g,.slice i.a i.len i.cap,.slice j.a j.len j.cap]] h R:=XF ⟨[(7,8000)],[],[(4,[(5,.one (.bool))])]⟩ [.tmp 4] 37 func84 H
def MI(b0:Option n8)(O:Bt)(P:n4)(S:ac2)(Q:ac2)(h:zc)(R:vvv) (H:∃b,b0=Td b/\∃c,zd h (zab (zab b 0) 0)=Td (aK c)/\zy Tp P=Ta/\ab3 P (S++#[]++Q) h (λd e=>d=.tuple #[]/\∃f,b0=Td f/\∃g,zd e (zab (zab f 0) 0)=Td (aK g)/\(ph ((g.len:Int)<=512)=Ta->∃i,b0=Td i/\∃j,zd e (zab (zab i 0) 0)=Td (aK j)/\∃k,b0=Td k/\∃l,zd e (zab (zab k 0) 1)=Td (aK l)/\let m:Sl->Sl->zc->Prop:=λ(n:Sl) (o:Sl) (p:zc)=>(qq Tp (zaj #[29,29] 29 #[aK l,aK n]) p (λq r=>∃s,q=aK s/\∃t,b0=Td t/\CA Tp (zae 22 (.pointer (Td (zab (zab t 0) 0))) (aK o)) r (λu=>∃v,b0=Td v/\CA Tp (zae 29 (.pointer (Td (zab (zab v 0) 1))) (aK s)) u (λw=>R (.tuple #[]) w))));let x:Sl->Sl->zc->Prop:=λ(y:Sl) (z:Sl) (A:zc)=>(qq Tp (zaj #[22,22] 22 #[aK j,aK z]) A (λB C=>∃D,B=aK D/\hZ C e ((zab (zab k 0) 1))/\m y D C));(let E:=e.push (.cells #[ab5 O] 9);hZ E e ((zab (zab k 0) 1))/\hZ E e ((zab (zab i 0) 0))/\(qq Tp (zaj #[22,22] 22 #[aK j,.slice (Td (ab7 e)) 1 1]) E (λF G=>∃I,F=aK I/\hZ G e ((zab (zab k 0) 1))/\let J:=G.push (.cells #[iV (c.len:Int)] 3);hZ J e ((zab (zab k 0) 1))/\m (⟨Td (ab7 G),1,1⟩:Sl) I J))/\(let L:=E.push (.cells #[iV (c.len:Int)] 3);hZ L e ((zab (zab k 0) 1))/\hZ L e ((zab (zab i 0) 0))/\x (⟨Td (ab7 E),1,1⟩:Sl) (⟨Td (ab7 e),1,1⟩:Sl) L))/\(let M:=e.push (.cells #[iV (c.len:Int)] 3);hZ M e ((zab (zab k 0) 1))/\hZ M e ((zab (zab i 0) 0))/\let N:=M.push (.cells #[ab5 O] 9);hZ N e ((zab (zab k 0) 1))/\hZ N e ((zab (zab i 0) 0))/\x (⟨Td (ab7 e),1,1⟩:Sl) (⟨Td (ab7 M),1,1⟩:Sl) N))/\(ph ((g.len:Int)<=512)=Tc->R (.tuple #[]) e))):ab3 94 #[.pointer b0,ab5 O,.func (.func P) S Q] h R:=XF ⟨[(3,8000)],[],[]⟩ [] 46 func94 H
def Xu(w:n8)(c1:n8)(h:zc)(R:vvv) (H:∃b,zd h (zab w 3)=Td (aK b)/\∃(c:ac5) (d:ac7),c 0 h/\∀e:Int,∀f:zc,c e f->((ph (e<b.len)=Ta->∃g,(b.a=Td g/\0<=e/\e<b.len)/\∃i j k l,ze f (g.add (e.toNat*4)) 0 (tL i j k l)/\let m:=f.push (.cells tC 25);CA Tp (zae 25 (ab6 (ab7 f)) (tA i j k l)) m (λn=>∃o:Option n8,zd n c1=Td (.pointer o)/\∃p q r s,ze n (ab7 f) 0 (tL p q r s)/\ab3 55 #[.pointer o,tA p q r s] n (λt u=>t=.tuple #[]/\(c (w6 (e+1)) u/\d (w6 (e+1)) u<d e f))))/\(ph (e<b.len)=Tc->R (.tuple #[]) f))):ab3 95 #[ab6 w,ab6 c1] h R:=XF ⟨[],[(1,[(7,.one (.int .i64))])],[]⟩ [] 15 func95 H
def Xv(Y:n8)(c1:n8)(h:zc)(R:vvv) (H:∃b,zd h (zab Y 3)=Td (aK b)/\∃(c:ac5) (d:ac7),c 0 h/\∀e:Int,∀f:zc,c e f->((ph (e<b.len)=Ta->∃g,(b.a=Td g/\0<=e/\e<b.len)/\∃i j k l,ze f (g.add (e.toNat*4)) 0 (tL i j k l)/\let m:=f.push (.cells tC 25);CA Tp (zae 25 (ab6 (ab7 f)) (tA i j k l)) m (λn=>∃o:Option n8,zd n c1=Td (.pointer o)/\∃p,zd n (zab Y 2)=Td (aK p)/\∃q,(p.a=Td q/\0<=e/\e<p.len)/\∃r,zd n (q.add (e.toNat*1))=Td (ab5 r)/\let s:Bt->zc->Prop:=λt (u:zc)=>(ab3 94 #[.pointer o,ab5 t,.func (.func 99) #[] #[ab6 c1,ab6 (ab7 f)]] u (λv w=>v=.tuple #[]/\(c (w6 (e+1)) w/\d (w6 (e+1)) w<d e f)));let x:Int->Bt->Sl->Sl->zc->Prop:=λy z (A:Sl) (B:Sl) (C:zc)=>(ab3 97 #[tA y z A B] C (λD E=>∃F,D=.string F/\qg (((⟨#[107]⟩:Bt)).size+F.size)/\hZ E n c1/\s ((⟨#[107]⟩:Bt)++F) E));(ab3 98 #[ab5 r] n (λG I=>∃J L M N,G=tA J L M N/\hZ I n c1/\(ab3 97 #[tA J L M N] I (λO P=>∃Q,O=.string Q/\qg (((⟨#[107]⟩:Bt)).size+Q.size)/\hZ P n c1/\hZ P n c1/\s ((⟨#[107]⟩:Bt)++Q) P))/\(hZ I n c1/\x J L M N I)))/\(hZ n n ((q.add (e.toNat*1)))/\hZ n n (zab Y 2)/\hZ n n c1/\ab3 98 #[ab5 r] n (λS T=>∃U V W X,S=tA U V W X/\hZ T n c1/\x U V W X T))))/\(ph (e<b.len)=Tc->R (.tuple #[]) f))):ab3 96 #[ab6 Y,ab6 c1] h R:=XF ⟨[(3,8000)],[(1,[(7,.one (.int .i64))])],[]⟩ [] 24 func96 H
def Jz(j:n8)(c1:n8)(h:zc)(R:vvv) (H:∃b:Option n8,zd h j=Td (.pointer b)/\∃c d e f,ze h c1 0 (tL c d e f)/\ab3 55 #[.pointer b,tA c d e f] h (λg i=>g=.tuple #[]/\R (.tuple #[]) i)):ab3 99 #[ab6 j,ab6 c1] h R:=XF ⟨[],[],[]⟩ [] 5 func99 H
def Xw(h:zc)(R:vvv) (H:R (.tuple #[]) h):ab3 100 #[] h R:=XF ⟨[],[],[]⟩ [] 0 func100 H
def yd(F:Sl)(G:Sl)(I:n4)(J:ac2)(L:ac2)(h:zc)(R:vvv) (H:(((F.len:Int) != (G.len:Int))=Ta->R (ab8 Tc) h)/\(((F.len:Int) != (G.len:Int))=Tc->∃(b:ac5) (c:ac7),b 0 h/\∀d:Int,∀e:zc,b d e->((ph (d<F.len)=Ta->∃f,(F.a=Td f/\0<=d/\d<F.len)/\∃g i j k,ze e (f.add (d.toNat*4)) 0 (tL g i j k)/\let l:=e.push (.cells tC 25);CA Tp (zae 25 (ab6 (ab7 e)) (tA g i j k)) l (λm=>∃n,(G.a=Td n/\0<=d/\d<G.len)/\∃o p q r,ze m (n.add (d.toNat*4)) 0 (tL o p q r)/\let s:=m.push (.cells tC 25);CA Tp (zae 25 (ab6 (ab7 m)) (tA o p q r)) s (λt=>∃u v w x,ze t (ab7 e) 0 (tL u v w x)/\∃y z A B,ze t (ab7 m) 0 (tL y z A B)/\zy Tp I=Ta/\ab3 I (J++#[tA u v w x,tA y z A B]++L) t (λC D=>∃E,C=.bool E/\((!E)=Ta->R (ab8 Tc) D)/\((!E)=Tc->(b (w6 (d+1)) D/\c (w6 (d+1)) D<c d e))))))/\(ph (d<F.len)=Tc->R (ab8 Ta) e)))):ab3 140 #[.slice F.a F.len F.cap,.slice G.a G.len G.cap,.func (.func I) J L] h R:=XF ⟨[],[(4,[(17,.one (.int .i64))])],[]⟩ [.tmp 6] 32 func140 H
def qf(aH:ad0)(aG:ad0)(aD:n4)(aF:ac2)(aE:ac2)(h:zc)(R:vvv) (H:∃b,Bk Tp (zdn #[144] 3 #[.map aH]) h (iV b)/\∃c,Bk Tp (zdn #[144] 3 #[.map aG]) h (iV c)/\((b != c)=Ta->R (ab8 Tc) h)/\((b != c)=Tc->qq Tp (zey 144 (.map aH)) h (λd e=>∃f:Option n8,d=.pointer f/\∃(g:zc->Prop) (i:zc->Nat),g e/\∀j:zc,g j->(qq Tp (zdz (.pointer f) Tc 0) j (λk l=>(k=.tuple #[ab8 Tc]/\(Tc=Ta->qq Tp (zen (.pointer f)) l (λm n=>∃o p:Value,m=.tuple #[o,p]/\let q:=n.push (.cells tC 25);CA Tp (zae 25 (ab6 (ab7 n)) p) q (λr=>∃s t u v w,Bk Tp (zcy 144 (.map aG) o Ta) r (.tuple #[tA s t u v,ab8 w])/\let x:=r.push (.cells tC 25);CA Tp (zae 25 (ab6 (ab7 r)) (tA s t u v)) x (λy=>∃z A B C,((!(!w))=Ta->ze y (ab7 n) 0 (tL z A B C))/\∃D E F G,((!(!w))=Ta->ze y (ab7 r) 0 (tL D E F G))/\∃I:vvv,((!(!w))=Ta->zy Tp aD=Ta/\ab3 aD (aF++#[tA z A B C,tA D E F G]++aE) y (λJ L=>∃M,J=.bool M/\I (ab8 M) L))/\((!(!w))=Tc->∃N,I (ab8 N) y)/\((!(!w))=Ta->∀O P,I O P->∃Q,O=.bool Q)/\∀S:Bool,∀T,I (ab8 S) T->((cond (!w) Ta (!S))=Ta->R (ab8 Tc) T)/\((cond (!w) Ta (!S))=Tc->(g T/\i T<i j))))))/\(Tc=Tc->R (ab8 Ta) l))\/∃U V:Value,k=.tuple #[ab8 Ta,U,V]/\(Ta=Ta->qq Tp (zen (.pointer f)) l (λW X=>∃Y Z:Value,W=.tuple #[Y,Z]/\let aa:=X.push (.cells tC 25);CA Tp (zae 25 (ab6 (ab7 X)) Z) aa (λab=>∃ac ad ae af ag,Bk Tp (zcy 144 (.map aG) Y Ta) ab (.tuple #[tA ac ad ae af,ab8 ag])/\let ah:=ab.push (.cells tC 25);CA Tp (zae 25 (ab6 (ab7 ab)) (tA ac ad ae af)) ah (λai=>∃aj ak al am,((!(!ag))=Ta->ze ai (ab7 X) 0 (tL aj ak al am))/\∃an ao ap aq,((!(!ag))=Ta->ze ai (ab7 ab) 0 (tL an ao ap aq))/\∃ar:vvv,((!(!ag))=Ta->zy Tp aD=Ta/\ab3 aD (aF++#[tA aj ak al am,tA an ao ap aq]++aE) ai (λau av=>∃aw,au=.bool aw/\ar (ab8 aw) av))/\((!(!ag))=Tc->∃ax,ar (ab8 ax) ai)/\((!(!ag))=Ta->∀ay az,ar ay az->∃aA,ay=.bool aA)/\∀aB:Bool,∀aC,ar (ab8 aB) aC->((cond (!ag) Ta (!aB))=Ta->R (ab8 Tc) aC)/\((cond (!ag) Ta (!aB))=Tc->(g aC/\i aC<i j))))))/\(Ta=Tc->R (ab8 Ta) l)))))):ab3 141 #[.map aH,.map aG,.func (.func aD) aF aE] h R:=XF ⟨[],[(4,[])],[]⟩ [.tmp 6] 38 func141 H
end
end
section
open Go.RowKit
section
def RL{n:Nat}{bf:Nat->List Nat}:((za7 n).flatMap bf).Nodup↔(∀i,i<n->(bf i).Nodup)/\∀i j,i<j->j<n->∀x∈bf i,∀y∈bf j,x≠y:=by unfold List.Nodup;rw[List.pairwise_flatMap,List.pairwise_iff_getElem];constructor;rintro⟨h1,h2⟩;refine⟨λi hi=>h1 i (ψ hi),λi j b c=>?_⟩;have:=h2 i j φ (ψ c) b;simpa using this;rintro⟨h1,h2⟩;refine⟨λi hi=>h1 i (ψ hi),λi j hi c b=>?_⟩;simp at hi c;simpa using h2 i j b c
end
section
def Y6(v:Tr)(sk si:Sl):List Value:=[.int .i64 v.aa6,.string v.aa9,aK sk,aK si]
end
section
variable {cs:Array Value} {o n b:Nat} {h:zc}
theorem pq(h:o+n<=cs.size):(cut cs o n).length=n:=by unfold cut;simp;omega
def D8(H:Blk h b cs):Arr h.size h (Td ⟨b,o,Te⟩) (cut cs o n):=by refine .inr ⟨b,o,rfl,H.lt,λi v c=>H.cell ?_⟩;rw[qt]at c;split at c;rw[<-zb5];exact c;cases c
def YH{P:EM}(H:Blk h b cs){vs:ac1}(k:o+DB vs<=cs.size)(h1:∀u∈vs,u.oneCell'=Ta)(B:Nd)(d:Nat):∃h',(storeCells ⟨b,o,Te⟩ vs 0).run P (mk B d h)=.ok () (mk B d h')/\Blk h' b (iS cs o vs)/\h'.size=h.size/\∀j,j≠b->h'[j]?=h[j]?:=by have⟨T,e⟩:=H;have⟨h',l,c,i,f⟩:=Ku (P:=P) e k h1 B d;exact⟨h',l,⟨T,c⟩,i,f⟩
end
section
variable {cs:Array Value} {vs:List Value}
structure RowO (h:zc) (s:Sl) (b:Nat) (cs:Array Value) (sz:Nat):Prop where
 le:s.len<=s.cap
 at_:(s.len=0/\s.cap=0)\/(s.a=Td ⟨b,0,Te⟩/\Blk h b cs/\s.cap*sz<=cs.size)
structure RowN (h h':zc) (s':Sl) (b b':Nat) (cs':Array Value) (sz n:Nat) (cells:List Value):Prop where
 a:s'.a=Td ⟨b',0,Te⟩
 len:s'.len=n
 cap:n<=s'.cap
 blk:Blk h' b' cs'
 size:s'.cap*sz<=cs'.size
 cut:cut cs' 0 (n*sz)=cells
 new:b'=b\/h.size<=b'
 grow:h.size<=h'.size
 old:∀j,j<h.size->j≠b'->h'[j]?=h[j]?
def WE{n m:Nat}(f:n+DB vs<=cs.size)(c:m=n+DB vs):cut (iS cs n vs) 0 m=cut cs 0 n++vs:=by subst c;have b:(cut cs 0 n).length=n:=pq ω;apply zbm;intro q;rw[qt];split;rename_i e;rw[zax,Dl f];split;rename_i h1;rw[zd2 (ϖ b h1),qt,zA h1,zax];rename_i h1;rw[List.getElem?_append_right (ο b),b];rename_i e;rw[zco];rw[zah,b];omega
def Bb{P:EM}{t e:Nw}{z:Value}{sz bytes:Nat}(T:JT P t e z sz bytes){ty:Nw}{h:zc}{s:Sl}{b:Nat}(H:RowO h s b cs sz){bv x:Nat}(V:Blk h bv vs.toArray)(i:vs.length=sz)(h1:∀u∈vs,u.oneCell'=Ta)(hb:(s.len+1)*bytes<=140737488355328)(S:s.len+1<=140737488355328){K:vvv} (A:∀(w:Sl) (h':zc) (b':Nat) (cs':ac2),RowN h h' w b b' cs' sz (s.len+1) (cut cs 0 (s.len*sz)++vs)->K (.slice w.a w.len w.cap) h'):qq P (zaj #[t,t] ty #[.slice s.a s.len s.cap,.slice (Td ⟨bv,0,Te⟩) 1 x]) h K:=by
 intro B d;have m:Arr h.size h (Td ⟨bv,0,Te⟩) vs:=by have:=D8 V (o:=0) (n:=DB vs);rw[show cut vs.toArray 0 (DB vs)=vs by unfold cut;simp]at this;exact this
 have E:∀B d,Src P sz t (.slice (Td ⟨bv,0,Te⟩) 1 x) 1 vs (mk B d h):=λB d=>Mp (P:=P) (s:=⟨Td ⟨bv,0,Te⟩,1,x⟩) m (ϑ i) T.pos h1 T.slice B d;have N:(s.len+1)*sz=s.len*sz+sz:=zc4 _ _;by_cases y:s.len+1<=s.cap;obtain⟨_,h0⟩|⟨r,k,F⟩:=H.at_;omega;have O:(s.len+1)*sz<=s.cap*sz:=za6 _ y;have⟨h',G,Q,Z,I⟩:=YH (P:=P) k (o:=s.len*sz) (vs:=vs) (ο i) h1 B d;have q:=Y0 (P:=P) (ty:=ty) T (s:=s) (h':=h') (E B d) y (λp C=>by rw[r]at C;cases C;rw[zh,zax];exact G) (λD=>by rw[r]at D;cases D);refine⟨_,d,h',q,A ⟨s.a,s.len+1,s.cap⟩ h' b _ ⟨r,rfl,y,Q,by rw[vL (ο i)];exact F,WE (ο i) (ϖ i N),.inl rfl,ω,λj U l=>I j l⟩⟩;have f:Arr h.size h s.a (cut cs 0 (s.len*sz))/\(cut cs 0 (s.len*sz)).length=s.len*sz:=by obtain⟨h0,_⟩|⟨r,k,F⟩:=H.at_;rw[h0,Nat.zero_mul];exact⟨.inl (by unfold cut;simp),by unfold cut;simp⟩;have O:s.len*sz<=s.cap*sz:=za6 _ H.le;rw[r];exact⟨D8 k,pq ω⟩
 have⟨c,blk,J,Y,q3,M,L⟩:=Xc (P:=P) (ty:=ty) (base:=0) T f.2 (λB d=>Yz f.1 f.2 T.pos B d) E hb S (zar _) ω B d;refine⟨_,d+1,_,J,A ⟨Td (ab7 h),s.len+1,c⟩ _ h.size blk ⟨rfl,rfl,Y,Blk.new _ _ _,by rw[M];exact zac _,by unfold cut;rw[zcn];exact L,.inr (zac _),ξ,λj U l=>by rw[Array.getElem?_push,zv ω]⟩⟩
end
end
section
variable {lo:Nat} {h h':zc} {M M':Fr} {bs:List Nat}
def GT(lo:Nat)(h:zc)(M:Fr)(T:Ty)(xs:List (El T))(s:Sl)(bs:List Nat):Prop:=
 (xs=[]/\s.len=0/\s.cap=0/\bs=[])\/∃(b:Nat) (cs:Array Value),bs=[b]/\s.a=Td ⟨b,0,Te⟩/\s.len=xs.length/\s.len<=s.cap/\Blk h b cs/\s.cap*sz T<=cs.size/\lo<=b/\M b=Te/\∀i (hi:i<xs.length),Rd M T xs[i] (cut cs (i*sz T) (sz T))
theorem GT.nil{T:Ty}:GT lo h M T [] ⟨Te,0,0⟩ []:=.inl ⟨rfl,rfl,rfl,rfl⟩
theorem GT.len{T:Ty}{xs:List (El T)}{s:Sl}(H:GT lo h M T xs s bs):s.len=DB xs:=by obtain⟨rfl,h1,_⟩|⟨b,cs,_,_,h1,_⟩:=H;exact h1;exact h1
theorem GT.own{T:Ty}{xs:List (El T)}{s:Sl}(H:GT lo h M T xs s bs):∀c∈bs,lo<=c/\c<h.size/\M c=Te:=by obtain⟨_,_,_,rfl⟩|⟨b,cs,rfl,_,_,_,e,_,h1,h2,_⟩:=H;intro c f;cases f;intro c f;rw[zbh.1 f];exact⟨h1,e.lt,h2⟩
theorem GT.frame{T:Ty}{xs:List (El T)}{s:Sl}(H:GT lo h M T xs s bs)(f:∀c∈bs,h'[c]?=h[c]?)(le:Fr.le M M')(k:∀c∈bs,M' c=Te):GT lo h' M' T xs s bs:=by obtain H|⟨b,cs,rfl,h1,h2,l,e,n,m,o,j⟩:=H;exact .inl H;refine .inr ⟨b,cs,rfl,h1,h2,l,?_,n,m,k b ξ,λi hi=>Rd.mono le (j i hi)⟩;unfold Blk at e ⊢;rw[f b ξ];exact e
theorem GT.call{T:Ty}{xs:List (El T)}{s:Sl}(H:GT lo h M T xs s bs)(L:At h M h' M'):GT lo h' M' T xs s bs:=by refine H.frame (λc b=>L.ab0.get c (H.own c b).2.1) L.le λc b=>?_;rw[L.old c (H.own c b).2.1];exact(H.own c b).2.2
theorem GT.rd{T:Ty}{xs:List (El T)}{s:Sl}{bs all:ac0}(H:GT lo h M T xs s bs)(ag:AgM M h)(j:∀c∈bs,c∈all)(m:xs.length<=1000000):Rd (MxL M h all) (.row T) xs [aK s]:=by obtain⟨rfl,h1,h2,rfl⟩|⟨b,cs,rfl,h1,h2,l,k,p,n,o,e⟩:=H;refine⟨_,rfl,s.a,s.cap,?_,⟨ξ,ξ⟩,.inl rfl⟩;show aK s=_;unfold aK;rw[h1];rfl;refine⟨_,rfl,s.a,s.cap,?_,⟨ω,ω⟩,?_⟩;unfold aK;rw[h2];by_cases f:xs=[];exact .inl f;refine .inr ⟨b,0,cs,h1,MxL.at (j b ξ) k,λi hi=>?_⟩;rw[zax];exact Rd.mono (oN ag all) (e i hi)
theorem GT.app{t e:Nw}{z:Value}{bytes:Nat}{T:Ty}(E:JT Tp t e z (sz T) bytes)(F:bytes<=1000){ty:Nw}{xs:List (El T)}{s:Sl}(ag:AgM M h)(H:GT lo h M T xs s bs)(af:lo<=h.size){bv Y:Nat}{vs:ac1}{x:El T}(hv:Blk h bv vs.toArray)(G:Rd M T x vs)(Q:xs.length<=1000000){K:vvv} (hK:∀(n:Sl) (h':zc) (bs':ac0),GT lo h' M T (xs++[x]) n bs'->h.size<=h'.size->(∀c∈bs',c∈bs\/h.size<=c)->(∀j,j<h.size->j∉bs->h'[j]?=h[j]?)->K (.slice n.a n.len n.cap) h'):qq Tp (zaj #[t,t] ty #[.slice s.a s.len s.cap,.slice (Td ⟨bv,0,Te⟩) 1 Y]) h K:=by
 have B:vs.length=sz T:=Rd.len G;have h1:∀u∈vs,u.oneCell'=Ta:=Rd.one G;have m:=H.len;have y:∀c,h.size<=c->M c=Te:=by
  intro c S;cases e:M c with
  |none=>rfl
  |some cs=>have:=ag.lt e;omega
 obtain⟨b,cs,f,hb,C⟩:∃b cs,RowO h s b cs (sz T)/\((bs=[b]/\lo<=b/\M b=Te)\/(b=h.size/\bs=[]))/\∀i (hi:i<DB xs),i*sz T+sz T<=cs.size/\Rd M T xs[i] (cut cs (i*sz T) (sz T)):=by obtain⟨rfl,I,P,rfl⟩|⟨b,cs,rfl,I,P,e3,e4,U,Z,V,e8⟩:=H;exact⟨h.size,#[],⟨ω,.inl ⟨I,P⟩⟩,.inr ⟨rfl,rfl⟩,λi hi=>ι hi⟩;refine⟨b,cs,⟨e3,.inr ⟨I,e4,U⟩⟩,.inl ⟨rfl,Z,V⟩,λi hi=>⟨?_,e8 i hi⟩⟩;have:(i+1)*sz T<=s.cap*sz T:=za6 _ ω;rw[zc4]at this;omega
 have r:(s.len+1)*bytes<=140737488355328:=by have:(s.len+1)*bytes<=1000001*1000:=zcg ω F;omega
 refine Bb E f hv B h1 r ω λn h' b' d N=>?_;have l:(b'∈bs/\lo<=b'/\M b'=Te)\/h.size<=b':=by obtain e|e:=N.new;obtain⟨p,O,D⟩|⟨p,_⟩:=hb;subst e;exact .inl ⟨υ p,O,D⟩;exact .inr ω;exact .inr e
 refine hK n h' [b'] (.inr ⟨b',d,rfl,N.a,by rw[N.len,zah,m];rfl,by rw[N.len];exact N.cap,N.blk,N.size,?_,?_,λi hi=>?_⟩) N.grow (λc S=>?_) λj hj Q=>N.old j hj λe=>?_;obtain q|q:=l;exact q.2.1;omega;obtain q|q:=l;exact q.2.2;exact y b' q;have w:=N.cut;have aa:i<DB xs+1:=ψ hi
 have hm:(i+1)*sz T<=(s.len+1)*sz T:=za6 _ ω;have ac:(i+1)*sz T=i*sz T+sz T:=zc4 _ _;have ae:(s.len+1)*sz T=s.len*sz T+sz T:=zc4 _ _;have key:∀q,q<sz T->(cut d (i*sz T) (sz T))[q]?=(cut cs 0 (s.len*sz T)++vs)[i*sz T+q]?:=by intro q k;rw[qt,zA k,<-w,qt,zA ω,zax]
 by_cases o:i<DB xs;rw[zc9 o];have⟨g1,g2⟩:=C i o;have ab:(i+1)*sz T<=s.len*sz T:=za6 _ ω;have e:cut d (i*sz T) (sz T)=cut cs (i*sz T) (sz T):=by
  apply zbm;intro q;by_cases k:q<sz T;rw[key q k,zd2 ?_,qt,qt,zA k,zA ω,zax];have A:s.len*sz T<=cs.size:=by obtain⟨p,O⟩|⟨_,_,D⟩:=f.at_;omega;have:s.len*sz T<=s.cap*sz T:=za6 _ f.le;omega
  rw[pq ω];omega;rw[qt,qt,zv k,zv k]
 rw[e];exact g2;have J:i=DB xs:=ω
 subst J;rw[zc6 (zac _)];have L:(cut cs 0 (s.len*sz T)).length=DB xs*sz T:=by
  obtain⟨p,O⟩|⟨_,_,D⟩:=f.at_;have:xs.length=0:=ω
  rw[p,this];unfold cut;simp;have:s.len*sz T<=s.cap*sz T:=za6 _ f.le;rw[pq ω,m]
 have e:cut d (DB xs*sz T) (sz T)=vs:=by apply zbm;intro q;by_cases k:q<sz T;rw[key q k,List.getElem?_append_right ω,L];congr 1;omega;rw[qt,zv k,zco ω]
 rw[e];simpa using G;rw[zbh.1 S];obtain q|q:=l;exact .inl q.1;exact .inr q;obtain q|q:=l;exact Q (by rw[e];exact q.1);omega
end
section
open Go.RowKit
variable {cs:Array Value} {o n z b:Nat} {l:List Value} {g:zc}
structure CR (g:zc) (z:Nat) (els:List (List Value)) (sl:Sl) (b:Nat) (cs:Array Value):Prop where
 ro:RowO g sl b cs z
 ln:sl.len=els.length
 el:∀(i:Nat) (e:List Value),els[i]?=Td e->(i+1)*z<=cs.size/\cut cs (i*z) z=e
def rh(b:l.length=n)(h:∀q,q<n->cs.toList[o+q]?=l[q]?):cut cs o n=l:=by apply zbm;grind [qt]
def AT(h:cut cs o n=l){q:Nat}(b:q<n):cs.toList[o+q]?=l[q]?:=by rw[<-h,qt,zA b]
theorem CR.blk{els:List (List Value)}{sl:Sl}(H:CR g z els sl b cs)(c:els≠[]):sl.a=Td ⟨b,0,Te⟩/\Blk g b cs:=by obtain⟨h1,_⟩|⟨h1,h2,_⟩:=H.ro.at_;have:=H.ln;simp_all;simp_all
theorem CR.frame{g g':zc}{els:List (List Value)}{sl:Sl}(H:CR g z els sl b cs)(f:els≠[]\/sl.cap≠0->g'[b]?=g[b]?):CR g' z els sl b cs:=by refine⟨⟨H.ro.le,?_⟩,H.ln,H.el⟩;obtain h1|⟨h1,h2,e⟩:=H.ro.at_;omega;by_cases c:sl.cap=0;exact .inl ⟨χ H.ro.le,c⟩;exact .inr ⟨h1,h2.ab0 (f (.inr c)),e⟩
theorem CR.app{t e:Nw}{M:Value}{bytes z:Nat}(E:JT Tp t e M z bytes)(w:bytes<=1000){ty:Nw}{els:List (List Value)}{sl:Sl}(H:CR g z els sl b cs){bv B:Nat}{vs:ac1}(O:Blk g bv vs.toArray)(k:vs.length=z)(h1:∀u∈vs,u.oneCell'=Ta)(S:els.length<=1000000){K:vvv} (D:∀(h:Sl) (g':zc) (b':Nat) (d:ac2),CR g' z (els++[vs]) h b' d->g.size<=g'.size->((b'=b/\¬(sl.len=0/\sl.cap=0))\/g.size<=b')->b'<g'.size->(∀j,j<g.size->j≠b'->g'[j]?=g[j]?)->K (.slice h.a h.len h.cap) g'):qq Tp (zaj #[t,t] ty #[.slice sl.a sl.len sl.cap,.slice (Td ⟨bv,0,Te⟩) 1 B]) g K:=by
 have f:=H.ln;have m:(sl.len+1)*bytes<=140737488355328:=by have:(sl.len+1)*bytes<=1000001*1000:=zcg ω w;omega
 obtain⟨b0,c,p,G,l⟩:∃b0 c,RowO g sl b0 c z/\((b0=b/\¬(sl.len=0/\sl.cap=0))\/g.size<=b0)/\(∀(i:Nat) (e:ac1),els[i]?=Td e->(i+1)*z<=c.size/\cut c (i*z) z=e):=by by_cases h0:sl.len=0/\sl.cap=0;have U:els=[]:=zdr.1 ω;exact⟨g.size,#[],⟨H.ro.le,.inl h0⟩,.inr (zac _),λi e hi=>θ⟩;exact⟨b,cs,H.ro,.inl ⟨rfl,h0⟩,H.el⟩
 refine Bb E p O k h1 m ω λh g' b' d N=>D h g' b' d ⟨⟨by rw[N.len];exact N.cap,.inr ⟨N.a,N.blk,N.size⟩⟩,by rw[N.len,zah,f];rfl,λi e hi=>?_⟩ N.grow ?_ N.blk.lt N.old;have A:i<DB els+1:=by have:=(zbb.1 hi).1;rw[zah]at this;exact this
 have T:(i+1)*z<=(sl.len+1)*z:=za6 _ ω;have F:(sl.len+1)*z<=h.cap*z:=za6 _ N.cap;have I:(i+1)*z=i*z+z:=zc4 _ _;have L:(sl.len+1)*z=sl.len*z+z:=zc4 _ _;have:=N.size;refine⟨ω,?_⟩;have n:=N.cut;have key:∀q,i*z+q<(sl.len+1)*z->d.toList[i*z+q]?=(cut c 0 (sl.len*z)++vs)[i*z+q]?:=λq o=>by rw[<-n,qt,zA o,zax]
 have y:(cut c 0 (sl.len*z)).length=sl.len*z:=by
  by_cases h0:els=[];have:sl.len=0:=by rw[f,h0];rfl
  rw[this,Nat.zero_mul];unfold cut;simp;have J:els.length-1<DB els:=χ (zb4.2 h0)
  have:=(l (DB els-1) _ (zam J)).1;grind [pq]
 by_cases r:i<DB els;rw[zd2 r]at hi;have⟨Q,P⟩:=l i e hi;have C:(i+1)*z<=sl.len*z:=za6 _ ω;refine rh (by grind [pq]) λq o=>?_;rw[key q ω,zd2 (ο y),qt,zA ω,zax];exact AT P o;have x:i=DB els:=ω
 subst x;rw[List.getElem?_append_right (zac _),zes]at hi;cases hi;refine rh k λq o=>?_;simp_all;obtain e|e:=N.new;omega;exact .inr e
end
section
open Go.Code
variable {ro:Option Nat} {n:Nat} {P:EM} {f:n4} {args:Array Value} {w:Nd} {o:n9} {a:Act} {e:bR} {h:zc}
abbrev rf(ro:Option Nat):Fence:={ Fence.wide with round:=ro }
def lj(K:Act->Nd->Prop):Exit->Act->Nd->Prop
 |.normal,a,w=>K a w
 |_,_,_=>False
def Y7{K:Act->Nd->Prop}:¬LetsOut (lj K):=λ⟨_,_,h⟩=>h
def MN{R:Ending->Nd->Prop}(h:Calls P f args w R):CallsIn (rf ro) n P f args w R:=by have h1:CallsIn Fence.wide n P f args w R:=callsIn_wide.2 h;exact h1
def QT{row:String}{R:Value->Nd->Prop}(h:Rows P row args w R):RowsIn (rf ro) n P row args w R:=by have h1:RowsIn Fence.wide n P row args w R:=λc cs _=>let ⟨v,w',r,s⟩:=h c cs;⟨v,w',r,stepsIn_wide.2 s⟩;exact h1
def Z0(o:n9):Bool:=match o.op with
 |.defer _=>Tc
 |_=>Ta
theorem Uh(h:Z0 o=Ta):∀c,o.op≠.defer c:=by intro c e;unfold Z0 at h;grind
def KF(c:Z0 o=Ta){K:Act->Nd->Prop}{Q:Exit->Act->Nd->Prop}(h:o.wp P a w K Q):o.wpIn (rf ro) n P a w K Q:=by
 refine⟨λ_ _=>trivial,?_⟩;rw[Oper.semAt_eq _ _ _ (Uh c)];unfold Oper.wp at h;generalize (execOp a.eval o).run P w=r at *;cases r with
 |ok x w'=>
  cases x with
  |enter f args=>exact⟨λb=>(by cases b),MN h⟩
  |row row args=>exact⟨λb=>(by cases b),QT h⟩
  |value v=>exact h
  |skip=>exact h
  |defer d=>exact h
  |_=>cases h
 |halt x w'=>cases x <;> first|exact h|cases h
def sV{ro:ad0}{n:Nat}{P:EM}{ops:Array n9}{K:Act->Nd->Prop}{Q:Exit->Act->Nd->Prop}: ∀(l i:List n9) (a:Act) (w:Nd),l.all Z0=Ta->wpList P ops (lj K) l a w->(∀a w,K a w->wpListIn (rf ro) n P ops Q i a w)->wpListIn (rf ro) n P ops Q (l++i) a w
 |[],i,a,w,_,h,hK=>hK a w h
 |o::l,i,a,w,hd,h,hK=>by
  rw[zel,zaw]at hd;rw[zbs];unfold wpListIn;unfold wpList at h;by_cases k:zbj o (yielded ops a.tmps)=Ta;rw[zA k]at h ⊢;obtain h|⟨_,h⟩:=h;have h1:=KF (ro:=ro) (n:=n) hd.1 h;have h2:=Oper.wpIn_mono (λa w m=>sV l i a w hd.2 m hK) h1;refine⟨h2.1,?_⟩;have b:=h2.2;revert b;generalize (o.semAt (rf ro).round a.eval).run P w=r;cases r with
  |ok x w'=>
   cases x with
   |enter f args=>exact λb=>⟨b.1,CallsIn.mono b.2 λe j c=>by cases e <;> first|exact c|exact c.elim|exact(Y7 c).elim⟩
   |round l f tmps assign body=>exact λb=>⟨b.1,RoundIn.mono b.2 λe j c=>by cases e <;> first|exact c|exact c.elim|exact(Y7 c).elim⟩
   |_=>exact λb=>b
  |halt x w'=>cases x <;> first|exact λb=>b|exact λb=>b.elim
  exact(Y7 h).elim;rw[zv k]at h ⊢;exact⟨λ_ _=>trivial,sV l i _ _ hd.2 h hK⟩
def vn{ro:ad0}{n:Nat}{P:EM}{md:Region.Mode}{ops:Array n9}{K:Act->Nd->Prop}(b:∀(i:Nat) (o:n9),ops[i]?=Td o->Z0 o=Ta):∀(fuel:Nat) (listed:ad1) (a:Act) (w:Nd),wpAny P md ops (lj K) fuel listed a w->wpAnyIn (rf ro) n P md ops (lj K) fuel listed a w
 |0,_,_,_,h=>h
 |fuel+1,listed,a,w,h=>by refine⟨h.1,λi hi=>?_⟩;have h2:=h.2 i hi;unfold wpOp at h2;unfold wpOpIn;split at h2;rename_i c;rw[c];exact vn b fuel _ _ _ h2;rename_i o c;rw[c];simp only;by_cases e:zbj o (yielded ops a.tmps)=Ta;rw[zA e]at h2 ⊢;obtain h2|⟨_,h2⟩:=h2;exact Oper.wpIn_mono (λa w f=>vn b fuel _ a w f) (KF (b i o c) h2);exact(Y7 h2).elim;rw[zv e]at h2 ⊢;exact⟨λ_ _=>trivial,vn b fuel _ _ _ h2⟩
def Jo(D:List Deferred)(a:Act):Act:={ a with defers:=a.defers++D }
def Lt{D:List Deferred}{K:Act->Nd->Prop}{R:Act->Nd->Prop}(h:o.wp P a w K (lj R)):o.wp P (Jo D a) w (λa1 w1=>∃a0,a1=Jo D a0/\K a0 w1) (lj λa1 w1=>∃a0,a1=Jo D a0/\R a0 w1):=by
 unfold Oper.wp at h ⊢;have b:(Jo D a).eval=a.eval:=rfl;rw[b];have c:∀d v,(Jo D a).put d v=Jo D (a.put d v):=λd v=>by cases d <;> rfl
 generalize (execOp a.eval o).run P w=r at *;cases r with
 |ok x w'=>
  cases x with
  |enter f args=>exact Calls.mono h λe i b=>by cases e with
   |returned v=>grind
   |panicked ch=>exact b
   |outgrown=>exact(Y7 b).elim
  |row row args=>exact Rows.mono h λv i b=>⟨_,c _ _,b⟩
  |value v=>exact⟨_,c _ _,h⟩
  |skip=>exact⟨_,c _ _,h⟩
  |defer d=>exact⟨(Act.put { a with defers:=d::a.defers } o.dst undef),(by cases o.dst <;> rfl),(show K (Act.put { a with defers:=d::a.defers } o.dst undef) w' from h)⟩
  |_=>cases h
 |halt x w'=>cases x <;> first|exact h|cases h
def uM{P:EM}{md:Region.Mode}{ops:Array n9}{D:List Deferred}{K:Act->Nd->Prop}:∀(fuel:Nat) (listed:ad1) (a:Act) (w:Nd),wpAny P md ops (lj K) fuel listed a w->wpAny P md ops (lj λa1 w1=>∃a0,a1=Jo D a0/\K a0 w1) fuel listed (Jo D a) w
 |0,_,a,_,h=>⟨h.1,a,rfl,h.2⟩
 |fuel+1,listed,a,w,h=>by
  refine⟨λj=>⟨a,rfl,h.1 j⟩,λi hi=>?_⟩;have h2:=h.2 i hi;unfold wpOp at h2 ⊢;have f:yielded ops (Jo D a).tmps=yielded ops a.tmps:=rfl;split at h2;exact uM fuel _ _ _ h2;rename_i o l;rw[f];by_cases b:zbj o (yielded ops a.tmps)=Ta;rw[zA b]at h2 ⊢;obtain h2|⟨_,h2⟩:=h2;exact .inl (Oper.wp_mono (λa1 w1 ⟨a0,e,k⟩=>by rw[e];exact uM fuel _ a0 w1 k) (Lt h2));exact(Y7 h2).elim;rw[zv b]at h2 ⊢;have c:(Jo D a).put o.dst undef=Jo D (a.put o.dst undef):=by cases o.dst <;> rfl
  rw[c];exact uM fuel _ _ _ h2
def YX(P:EM)(l:Nat)(args:Array Value)(h:zc)(K:Value->zc->Prop):Prop:=
 ∀(m:Nat) (B:Nd) (d:Nat),∃fn tmps assign body,(Instr.yield l args).run P (mk B d h)=.ok (.round l fn tmps assign body) (mk B d h) /\
  RoundIn (rf Te) m P l fn tmps assign body (mk B d h) λe w'=>∃v b h',e=.returned v/\w'=mk B b h'/\K v h'
def RX(o:n9):Bool:=match o.op with
 |.call c=>match c.callee with
  |.value x=>!(sh x)
  |_=>Tc
 |_=>Tc
def un:List n9->Option (List n9×n9×List n9)
 |[]=>Te
 |o::l=>bif RX o then Td ([],o,l)else match un l with
  |some (pre,o',post)=>Td (o::pre,o',post)
  |none=>Te
def z9k{l:List n9}:∀{pre b:List n9} {o:n9},un l=Td (pre,o,b)->l=pre++o::b:=by
 induction l with
 |nil=>intro pre b o h;cases h
 |cons x l c=>intro pre b o h;rw[un]at h;grind
def yt(P:EM)(o:n9)(e:bR)(h:zc)(K:Value->zc->Prop):Prop:=match o.op with
 |.call c=>match c.callee with
  |.value x=>match jG e [] x with
   |some (.func (.yield l) A C)=>bif (bif (mv A.size 0)then(mv C.size 0)else Tc)then(bif known e [] c.args.toList then YX P l (c.args.map (j4 e [])) h λv h'=>typed P o.type v λb=>K b h' else False)else False
   |_=>False
  |_=>False
 |_=>False
def zu9{n m:Nat}{K:vvv}(H:yt P o e h K)(i:Sat n e a)(B:Nd)(d:Nat){next:Act->Nd->Prop}{Q:Exit->Act->Nd->Prop}(z:∀v t h',K v h'->next (a.put o.dst v) (mk B t h')):o.wpIn (rf Te) m P a (mk B d h) next Q:=by
 unfold yt at H;split at H;rename_i c j;split at H;rename_i x f;split at H;rename_i l A C q;obtain⟨hA,k,H⟩:A=#[]/\C=#[]/\(bif known e [] c.args.toList then YX P l (c.args.map (j4 e [])) h λv h'=>typed P o.type v λp=>K p h' else False):=θ
 subst hA;subst k;cases hk:known e [] c.args.toList with
 |false=>simp_all
 |true=>
  rw[hk]at H;simp only[zK]at H;have⟨fn,tmps,assign,body,h1,h2⟩:=H (m-1) B d;have w:a.eval x=.func (.yield l) #[] #[]:=yc i (c:=[]) trivial q;have b:c.args.map a.eval=c.args.map (j4 e []):=by apply Array.map_congr_left;intro y r;exact Wu i (c:=[]) trivial hk y (ψ r)
  have u:(o.semAt (rf Te).round a.eval).run P (mk B d h)=.ok (.round l fn tmps assign body) (mk B d h):=by show(execOp a.eval o).run P (mk B d h)=_;simp only[execOp,j,resolve,f,w,zeo,DM,Sem.run_pure,Result.andThen_ok,invoke];rw[b];simpa using h1
  refine⟨λ_ _=>trivial,?_⟩;rw[u];refine⟨λf=>(ε f),h2.mono ?_⟩;grind [Zs]
 simp_all;simp_all;simp_all
def Ao(P:EM)(n:Nat)(f:List (Nat×Nat))(id:Nat)(ops:Array n9)(b:Bool)(K:bR->zc->Prop)(e:bR)(h:zc):Prop:=
 match un ops.toList with
 |none=>aa4 P n f id ops b K e h
 |some (pre,o,post)=>bif b then False else bif (pre.all Z0&&post.all Z0)then(match o.guard with
  |none=>bif wj n [] o.dst then wR P n ops (λc h1=>yt P o c h1 λv h2=>wR P n ops K post (putO c o.dst [] v) h2) pre e h else False
  |some _=>False)else False
def Tz(O:P.follows .mixedOrders=Ta){F:List (Nat×Nat)}{id:Nat}{ops:Array n9}{c:Bool}{K:bR->zc->Prop} (H:Ao P n F id ops c K e h) (m:Nat) (B:Nd) (d:Nat) (D:Sat n e a) {Q:Exit->Act->Nd->Prop}(C:∀j f k h',Sat n j f->Same (w9 ops.toList) a f->K j h'->Q .normal f (mk B k h')):(ze7 id ops c).wpIn (rf Te) m P Q a (mk B d h):=by
 unfold Ao at H;split at H;exact wpIn_wide.2 (Mv O H B d D C);rename_i pre o b y;have p:=z9k y;cases c with
 |true=>grind
 |false=>
  simp only[zL]at H;cases hnd:(pre.all Z0&&b.all Z0)with
  |false=>simp_all
  |true=>
   rw[hnd]at H;simp only[zK]at H;rw[zaw]at hnd;split at H;rename_i I;cases hd:wj n [] o.dst with
   |false=>simp_all
   |true=>
    rw[hd]at H;simp only[zK]at H;refine wpIn_region_list ?_;have q:∀x∈w9 pre,x∈w9 ops.toList:=λx M=>by rw[p,Yp];simp_all
    have r:∀i,o.dst=Td i->i∈w9 ops.toList:=λi hi=>by rw[p,Yp];exact zaz _ (by simp[w9,hi])
    have A:∀x∈w9 b,x∈w9 ops.toList:=λx M=>by rw[p,Yp];refine zaz _ ?_;unfold w9;grind
    rw[p];refine sV (K:=λa1 w1=>∃l d1 h1,w1=mk B d1 h1/\Sat n l a1/\Same (w9 ops.toList) a a1/\yt P o l h1 λv h2=>wR P n ops K b (putO l o.dst [] v) h2) pre (o::b) a _ hnd.1 (rV B pre e h a d H D λj f k h' u z J=>⟨j,k,h',rfl,u,z.mono q,J⟩) ?_;rintro a1 w1 ⟨l,d1,h1,rfl,s1,L,u⟩;unfold wpListIn;have t:zbj o (yielded ops a1.tmps)=Ta:=by simp[zbj,I]
    rw[zA t];refine zu9 u s1 B d1 λv d2 h2 z=>?_;have s2:Sat n (putO l o.dst [] v) (a1.put o.dst v):=s1.putO hd (λ_=>rfl) (λS=>absurd trivial S);rw[<-zbi b];refine sV (K:=λf w'=>Q .normal f w') b [] _ _ hnd.2 (rV B b _ _ _ _ z s2 λj f k h' G N E=>?_) λa w h=>h;exact C j f k h' G ((L.trans (Same.put a1 o.dst v r)).trans (N.mono A)) E
   simp_all
def WI(P:EM)(n:Nat)(pl:Plan):Code->Wb->bR->zc->Prop
 |.skip,Q,e,h=>Q .normal e h
 |.ret,Q,e,h=>Q .ret e h
 |.exit id,Q,e,h=>Q (.exit id) e h
 |.label _,Q,e,h=>Q .normal e h
 |.goto l,Q,e,h=>Q (.goto l) e h
 |.region id ops draw,Q,e,h=>Ao P n pl.tails id ops draw (λe h=>Q .normal e h) e h
 |.seq x y,Q,e,h=>match tY pl.joins (jf y)with
  |none=>WI P n pl x (mQ (λe h=>WI P n pl y Q e h) Q) e h
  |some J=>Ks J (λe h=>WI P n pl y Q e h) (λK=>WI P n pl x (mQ K Q) e h) (Wy (xz x) e)
 |.cond c x y,Q,e,h=>match jG e [] c with
  |some (.bool b)=>(b=Ta->WI P n pl x Q e h)/\(b=Tc->WI P n pl y Q e h)
  |_=>False
 |.block id x,Q,e,h=>WI P n pl x (ng id Q) e h
 |.loop x,Q,e,h=>match tY pl.loops (jf x)with
  |some J=>yK J (λf e h=>WI P n pl x (mQ f Q) e h) (Wy (xz x) e) e h
  |none=>False
 |_,_,_,_=>False
def RE(hm:P.follows .mixedOrders=Ta){pl:Plan}:∀(c:Code) (Q:Wb) (e:bR) (h:zc),WI P n pl c Q e h ->∀(m:Nat) (B:Nd) (d:Nat) (a:Act),Sat n e a->c.wpIn (rf Te) m P (LI n B (xz c) a Q) a (mk B d h):=by
 intro c;induction c with
 |skip=>exact λQ e h H m B d a f=>wpIn_skip ⟨e,d,h,rfl,f,Same.refl _ _,H⟩
 |ret=>exact λQ e h H m B d a f=>wpIn_ret ⟨e,d,h,rfl,f,Same.refl _ _,H⟩
 |exit id=>exact λQ e h H m B d a f=>wpIn_exit ⟨e,d,h,rfl,f,Same.refl _ _,H⟩
 |label l=>exact λQ e h H m B d a f=>wpIn_label ⟨e,d,h,rfl,f,Same.refl _ _,H⟩
 |goto l=>exact λQ e h H m B d a f=>wpIn_goto ⟨e,d,h,rfl,f,Same.refl _ _,H⟩
 |region id ops ai=>exact λQ e h H m B d a f=>Tz hm H m B d f λe' a' d' h' k o q3=>⟨e',d',h',rfl,k,o,q3⟩
 |seq x y z A=>
  intro Q e h H m B d a f;simp only[WI]at H;have D:∀i∈xz x,i∈xz (x.seq y):=λi hi=>zap _ hi;have M:∀i∈xz y,i∈xz (x.seq y):=λi hi=>zaz _ hi;split at H;refine wpIn_seq (wpIn_mono (z _ _ _ H m B d a f) ?_);rintro ex a1 w1 ⟨w,d1,h1,rfl,s1,t,k⟩;cases ex with
  |normal=>refine wpIn_mono (A _ _ _ k m B d1 a1 s1) ?_;rintro ex a2 w2 ⟨r,d2,h2,rfl,s2,u,o⟩;exact⟨r,d2,h2,rfl,s2,(t.mono D).trans (u.mono M),o⟩
  |_=>exact⟨w,d1,h1,rfl,s1,t.mono D,k⟩
  rename_i J hJ;have H':=H (oW (j7 J) λvs=>λh=>WI P n pl y Q (Yq J vs++Wy (xz x) e) h) (Cc λvs h E=>E);refine wpIn_seq (wpIn_mono (z _ _ _ H' m B d a f) ?_);rintro ex a1 w1 ⟨w,d1,h1,rfl,s1,t,k⟩;cases ex with
  |normal=>have⟨vs,q,L,E,hk⟩:=nC k;have U:=Ai E;subst U;have N:Sat n (Yq J vs++Wy (xz x) e) a1:=qV f s1.defers s1.size t (yu s1 L);refine wpIn_mono (A _ _ _ hk m B d1 a1 N) ?_;rintro ex a2 w2 ⟨r,d2,h2,rfl,s2,u,o⟩;exact⟨r,d2,h2,rfl,s2,(t.mono D).trans (u.mono M),o⟩
  |_=>exact⟨w,d1,h1,rfl,s1,t.mono D,k⟩
 |cond c x y z A=>intro Q e h H m B d a f;simp only[WI]at H;have D:∀i∈xz x,i∈xz (ze4 c x y):=λi hi=>zap _ hi;have M:∀i∈xz y,i∈xz (ze4 c x y):=λi hi=>zaz _ hi;split at H;rename_i b hb;refine wpIn_cond_split (yc f (c:=[]) trivial hb) (λO=>?_) (λaa=>?_);refine wpIn_mono (z _ _ _ (H.1 O) m B d a f) ?_;rintro ex a2 w2 ⟨r,d2,h2,rfl,s2,u,o⟩;exact⟨r,d2,h2,rfl,s2,u.mono D,o⟩;refine wpIn_mono (A _ _ _ (H.2 aa) m B d a f) ?_;rintro ex a2 w2 ⟨r,d2,h2,rfl,s2,u,o⟩;exact⟨r,d2,h2,rfl,s2,u.mono M,o⟩;cases H
 |block id x Z=>
  intro Q e h H m B d a f;refine wpIn_block (wpIn_mono (Z _ _ _ H m B d a f) ?_);rintro ex a1 w1 ⟨w,d1,h1,rfl,s1,t,k⟩;cases ex with
  |exit i=>simp only[ng]at k;simp only[Exit.inBlock];by_cases hb:mv i id=Ta;rw[zA (zao hb)];simp only[hb,zK]at k;exact⟨w,d1,h1,rfl,s1,t,k⟩;rw[zv (λhe=>hb (by rw[he];simp))];simp only[hb,zL]at k;exact⟨w,d1,h1,rfl,s1,t,k⟩
  |_=>exact⟨w,d1,h1,rfl,s1,t,k⟩
 |loop x Z=>
  intro Q e h H m B d a f;simp only[WI]at H;split at H;rename_i J hJ;have⟨I,μ,h0,C⟩:=H;have⟨Y,p0,af,ah,ae⟩:=nC h0;let F:=om (j7 J) I μ;let at_:Act->Option ((zc->Prop)×(zc->Nat)):=λa1=>(jx (λi=>Td (ql a1 i)) J).bind λvs=>i9 (j7 J) vs F;refine wpIn_loop (λa1 w1=>∃d1 h1 vs p,w1=mk B d1 h1/\a1.defers=[]/\a1.tmps.size=n/\Same (xz x) a a1/\jx (λi=>Td (ql a1 i)) J=Td vs/\i9 (j7 J) vs F=Td p/\p.1 h1) (λa1 w1=>match at_ a1 with|some p=>p.2 w1.heap|none=>0) ⟨d,h,Y,p0,rfl,f.defers,f.size,Same.refl _ _,yu f af,ah,ae⟩ ?_;rintro a1 w1 ⟨d1,h1,vs,p,rfl,S,ac,j,L,hp,hI⟩;have s1:Sat n (Yq J vs++Wy (xz x) e) a1:=qV f S ac j L;have hb:=uR hp C h1 hI;refine wpIn_mono (Z _ _ _ hb m B d1 a1 s1) ?_;rintro ex a2 w2 ⟨r,d2,h2,rfl,s2,u,o⟩;cases ex with
  |normal=>
   have⟨V,q,G,E,T,ab⟩:=nC o;refine⟨⟨d2,h2,V,q,rfl,s2.defers,s2.size,j.trans u,yu s2 G,E,T⟩,?_⟩;have w:at_ a1=Td p:=by simp only[at_,L,zc3];exact hp
   have r:at_ a2=Td q:=by simp only[at_,yu s2 G,zc3];exact E
   rw[w,r];exact ab
  |_=>exact⟨r,d2,h2,rfl,s2,j.trans u,o⟩
  cases H
 |_=>exact λQ e h H=>H.elim
def mK(P:EM)(f:n4)(args:Array Value)(h:zc)(R:Value->zc->Prop):Prop:=
 ∀(m:Nat) (B:Nd) (d:Nat),CallsIn (rf Te) m P f args (mk B d h) λe w'=>∃v b h',e=.returned v/\w'=mk B b h'/\R v h'
def BG(r:P.follows .mixedOrders=Ta)(pl:Plan)(vs:ac1){fn:Func}{rs:List ResultVar}(o:P.funcs[f]?=Td fn)(hb:Yt fn=Ta)(l:fn.results.toList=rs)(q:fn.ntmps=n)(hz:Nat.ble (DB vs) n=Ta) {R:vvv} (H:WI P n pl (codeOf fn) (u6 P rs R) (lQ 0 vs) h):mK P f vs.toArray h R:=by
 have i:fn.body=Td (codeOf fn):=by unfold Yt at hb;unfold codeOf;split at hb;omega;cases hb
 intro m B d;subst q;refine callsIn_of_wp o i trivial ?_ rfl;have u:vs.length<=fn.ntmps:=zci hz;have p:Sat fn.ntmps (lQ 0 vs) { tmps:=vs.toArray++zcf (fn.ntmps-vs.toArray.size) undef,defers:=[] }:=by
  refine⟨rfl,φ,?_⟩;refine vu vs.toArray _ vs 0 λj v t=>?_;have e:j<DB vs:=by obtain h|h:=zbv j (DB vs);exact h;simp_all
  simp only[zax,zb6];rw[zdd (ψ e)];simp[t]
 refine wpIn_mono (RE r (codeOf fn) _ _ _ H m B d _ p) ?_;rintro ex a w ⟨y,d1,h1,rfl,s1,x,c⟩;cases ex with
 |normal=>have⟨v,k,b⟩:=Ys s1 l c;exact⟨s1.defers,v,b B d1,v,d1,h1,rfl,rfl,k⟩
 |ret=>have⟨v,k,b⟩:=Ys s1 l c;exact⟨s1.defers,v,b B d1,v,d1,h1,rfl,rfl,k⟩
 |_=>cases c
end
section
variable {P:EM} {n m id:Nat} {ro:Option Nat} {e:bR} {h:zc} {a:Act}
def y4{P:EM}{ops:Array n9}{D:List Deferred}{K:Act->Nd->Prop}:∀(l:List n9) (a:Act) (w:Nd),wpList P ops (lj K) l a w->wpList P ops (lj λa1 w1=>∃a0,a1=Jo D a0/\K a0 w1) l (Jo D a) w
 |[],a,w,h=>⟨a,rfl,h⟩
 |o::l,a,w,h=>by
  unfold wpList at h ⊢;have i:yielded ops (Jo D a).tmps=yielded ops a.tmps:=rfl;rw[i];by_cases b:zbj o (yielded ops a.tmps)=Ta;rw[zA b]at h ⊢;obtain h|⟨_,h⟩:=h;exact .inl (Oper.wp_mono (λa1 w1 ⟨a0,e,f⟩=>by rw[e];exact y4 l a0 w1 f) (Lt h));exact(Y7 h).elim;rw[zv b]at h ⊢;have c:(Jo D a).put o.dst undef=Jo D (a.put o.dst undef):=by cases o.dst <;> rfl
  rw[c];exact y4 l _ w h
def tE(P:EM)(n:Nat)(ops:Array n9)(b:Bool)(K:bR->zc->Prop)(e:bR)(h:zc):Prop:=
 bif ops.toList.all Z0 then(bif b then(bif nL Tc ops then wI P n h Ta ops (λc=>mr Tc P n ops h K (jn Tc ops).length [] (jn Tc ops) c h) (Wa [] (J9 Tc ops [] ops.size) ops.size) e else False)else wR P n ops K ops.toList e h)else False
def zQ(u:P.follows .mixedOrders=Ta){D:List Deferred}{ops:Array n9}{f:Bool}{K:bR->zc->Prop}(H:tE P n ops f K e h)(B:Nd)(d:Nat)(q:Sat n e a){Q:Exit->Act->Nd->Prop}(t:∀b j c h',Sat n b j->Same (w9 ops.toList) a j->K b h'->Q .normal (Jo D j) (mk B c h')):(ze7 id ops f).wpIn (rf ro) m P Q (Jo D a) (mk B d h):=by
 unfold tE at H;cases hd:ops.toList.all Z0 with
 |false=>simp_all
 |true=>
  rw[hd,zK]at H;have fin:∀a1 w1,(∃a0,a1=Jo D a0/\∃b c h',w1=mk B c h'/\Sat n b a0/\Same (w9 ops.toList) a a0/\K b h')->Q .normal a1 w1:=by rintro a1 w1 ⟨a0,rfl,b,c,h',rfl,k,p,l⟩;exact t b a0 c h' k p l
  cases f with
  |false=>refine wpIn_region_list ?_;rw[<-zbi ops.toList];exact sV _ [] _ _ hd (y4 (K:=λa0 w1=>∃b c h',w1=mk B c h'/\Sat n b a0/\Same (w9 ops.toList) a a0/\K b h') _ _ _ (rV B _ _ _ _ _ H q λb j c h' k p l=>⟨b,c,h',rfl,k,p,l⟩)) fin
  |true=>
   rw[zK]at H;cases hB:nL Tc ops with
   |false=>simp_all
   |true=>
    rw[hB]at H;have h0:wpAny P .any ops (lj λa0 w1=>∃b c h',w1=mk B c h'/\Sat n b a0/\Same (w9 ops.toList) a a0/\K b h') ops.size (zcf ops.size Tc) a (mk B (d+1) h):= J2 B hB H q (λb j c h' k p l=>⟨b,c,h',rfl,k,p,l⟩) (d+1);refine wpIn_mono (wpIn_region_any (Q:=lj λa1 w1=>∃a0,a1=Jo D a0/\∃b c h',w1=mk B c h'/\Sat n b a0/\Same (w9 ops.toList) a a0/\K b h') u (vn (λi o w=>?_) _ _ _ _ (uM _ _ _ _ h0))) λx j w' r=>?_;grind;cases x with
    |normal=>exact fin _ _ r
    |_=>cases r
def WG(P:EM)(n:Nat):Code->Wb->bR->zc->Prop
 |.skip,Q,e,h=>Q .normal e h
 |.ret,Q,e,h=>Q .ret e h
 |.exit id,Q,e,h=>Q (.exit id) e h
 |.region _ ops draw,Q,e,h=>tE P n ops draw (λe h=>Q .normal e h) e h
 |.seq x y,Q,e,h=>WG P n x (mQ (λe h=>WG P n y Q e h) Q) e h
 |.cond c x y,Q,e,h=>match jG e [] c with
  |some (.bool b)=>(b=Ta->WG P n x Q e h)/\(b=Tc->WG P n y Q e h)
  |_=>False
 |.block id x,Q,e,h=>WG P n x (ng id Q) e h
 |_,_,_,_=>False
def yS(n:Nat)(B:Nd)(D:List Deferred)(Q:Wb):Exit->Act->Nd->Prop:=
 λx a w=>∃e d h a0,a=Jo D a0/\w=mk B d h/\Sat n e a0/\Q x e h
def V1{B:Nd}{D:List Deferred}{Q:Wb}:∀ex a w,yS n B D (ng id Q) ex a w->Exit.inBlock id (yS n B D Q) ex a w:=by
 rintro ex a1 w1 ⟨c,d1,h1,a0,rfl,rfl,s1,b⟩;cases ex with
 |exit i=>simp only[ng]at b;simp only[Exit.inBlock];by_cases hb:mv i id=Ta;rw[zA (zao hb)];simp only[hb,zK]at b;exact⟨c,d1,h1,a0,rfl,rfl,s1,b⟩;rw[zv (λe=>hb (by rw[e];simp))];simp only[hb,zL]at b;exact⟨c,d1,h1,a0,rfl,rfl,s1,b⟩
 |_=>exact⟨c,d1,h1,a0,rfl,rfl,s1,b⟩
def Kc(u:P.follows .mixedOrders=Ta){D:List Deferred}:∀(c:Code) (Q:Wb) (e:bR) (h:zc),WG P n c Q e h ->∀(B:Nd) (d:Nat) (a:Act),Sat n e a->c.wpIn (rf ro) m P (yS n B D Q) (Jo D a) (mk B d h):=by
 intro c;induction c with
 |skip=>exact λQ e h H B d a f=>wpIn_skip ⟨e,d,h,a,rfl,rfl,f,H⟩
 |ret=>exact λQ e h H B d a f=>wpIn_ret ⟨e,d,h,a,rfl,rfl,f,H⟩
 |exit id=>exact λQ e h H B d a f=>wpIn_exit ⟨e,d,h,a,rfl,rfl,f,H⟩
 |region id ops p=>exact λQ e h H B d a f=>zQ u H B d f λr q t h' k _ C=>⟨r,t,h',q,rfl,rfl,k,C⟩
 |seq x y j i=>
  intro Q e h H B d a f;refine wpIn_seq (wpIn_mono (j _ _ _ H B d a f) ?_);rintro ex a1 w1 ⟨w,d1,h1,a0,rfl,rfl,s1,k⟩;cases ex with
  |normal=>exact i _ _ _ k B d1 a0 s1
  |_=>exact⟨w,d1,h1,a0,rfl,rfl,s1,k⟩
 |cond c x y j i=>intro Q e h H B d a f;simp only[WG]at H;split at H;rename_i b hb;have A:(Jo D a).eval c=.bool b:=yc f (c:=[]) trivial hb;exact wpIn_cond_split A (λo=>j _ _ _ (H.1 o) B d a f) (λl=>i _ _ _ (H.2 l) B d a f);cases H
 |block id x z=>intro Q e h H B d a f;exact wpIn_block (wpIn_mono (z _ _ _ H B d a f) V1)
 |_=>exact λQ e h H=>H.elim
def WL(P:EM)(n:Nat)(pl:List (Nat×iR)):Code->Wb->bR->zc->Prop
 |.skip,Q,e,h=>Q .normal e h
 |.ret,Q,e,h=>Q .ret e h
 |.exit id,Q,e,h=>Q (.exit id) e h
 |.region _ ops draw,Q,e,h=>tE P n ops draw (λe h=>Q .normal e h) e h
 |.seq x y,Q,e,h=>WL P n pl x (mQ (λe h=>WL P n pl y Q e h) Q) e h
 |.cond c x y,Q,e,h=>match jG e [] c with
  |some (.bool b)=>(b=Ta->WL P n pl x Q e h)/\(b=Tc->WL P n pl y Q e h)
  |_=>False
 |.block id x,Q,e,h=>WL P n pl x (ng id Q) e h
 |.loop x,Q,e,h=>match tY pl (jf x)with
  |some J=>yK J (λf e h=>WL P n pl x (mQ f Q) e h) (Wy (xz x) e) e h
  |none=>False
 |_,_,_,_=>False
def NR(n:Nat)(B:Nd)(D:List Deferred)(ms:List Nat)(a1:Act)(Q:Wb):Exit->Act->Nd->Prop:=
 λx a w=>∃e d h a0,a=Jo D a0/\w=mk B d h/\Sat n e a0/\Same ms a1 a0/\Q x e h
def Vs(hm:P.follows .mixedOrders=Ta){D:List Deferred}{pl:List (Nat×iR)}:∀(c:Code) (Q:Wb) (e:bR) (h:zc),WL P n pl c Q e h ->∀(B:Nd) (d:Nat) (a:Act),Sat n e a->c.wpIn (rf ro) m P (NR n B D (xz c) a Q) (Jo D a) (mk B d h):=by
 intro c;induction c with
 |skip=>exact λQ e h H B d a f=>wpIn_skip ⟨e,d,h,a,rfl,rfl,f,Same.refl _ _,H⟩
 |ret=>exact λQ e h H B d a f=>wpIn_ret ⟨e,d,h,a,rfl,rfl,f,Same.refl _ _,H⟩
 |exit id=>exact λQ e h H B d a f=>wpIn_exit ⟨e,d,h,a,rfl,rfl,f,Same.refl _ _,H⟩
 |region id ops ae=>exact λQ e h H B d a f=>zQ hm H B d f λe' a' d' h' k l q3=>⟨e',d',h',a',rfl,rfl,k,l,q3⟩
 |seq x y w z=>
  intro Q e h H B d a f;have G:∀i∈xz x,i∈xz (.seq x y):=λi hi=>zav.2 (.inl hi);have hy:∀i∈xz y,i∈xz (.seq x y):=λi hi=>zav.2 (.inr hi);refine wpIn_seq (wpIn_mono (w _ _ _ H B d a f) ?_);rintro ex a1 w1 ⟨u,d1,h1,a0,rfl,rfl,s1,C,k⟩;cases ex with
  |normal=>refine wpIn_mono (z _ _ _ k B d1 a0 s1) ?_;rintro ex a2 w2 ⟨o,d2,h2,r,rfl,rfl,s2,t,l⟩;exact⟨o,d2,h2,r,rfl,rfl,s2,(C.mono G).trans (t.mono hy),l⟩
  |_=>exact⟨u,d1,h1,a0,rfl,rfl,s1,C.mono G,k⟩
 |cond c x y w z=>intro Q e h H B d a f;have G:∀i∈xz x,i∈xz (.cond c x y):=λi hi=>zav.2 (.inl hi);have hy:∀i∈xz y,i∈xz (.cond c x y):=λi hi=>zav.2 (.inr hi);simp only[WL]at H;split at H;rename_i b hb;have hc:(Jo D a).eval c=.bool b:=yc f (c:=[]) trivial hb;exact wpIn_cond_split hc (λL=>wpIn_mono (w _ _ _ (H.1 L) B d a f) λex a2 w2 ⟨o,d2,h2,r,Y,r2,s2,t,l⟩=>⟨o,d2,h2,r,Y,r2,s2,t.mono G,l⟩) (λU=>wpIn_mono (z _ _ _ (H.2 U) B d a f) λex a2 w2 ⟨o,d2,h2,r,Y,r2,s2,t,l⟩=>⟨o,d2,h2,r,Y,r2,s2,t.mono hy,l⟩);cases H
 |block id x T=>
  intro Q e h H B d a f;refine wpIn_block (wpIn_mono (T _ _ _ H B d a f) ?_);rintro ex a1 w1 ⟨u,d1,h1,a0,rfl,rfl,s1,C,k⟩;cases ex with
  |exit i=>simp only[ng]at k;simp only[Exit.inBlock];by_cases hb:mv i id=Ta;rw[zA (zao hb)];simp only[hb,zK]at k;exact⟨u,d1,h1,a0,rfl,rfl,s1,C,k⟩;rw[zv (λhe=>hb (by rw[he];simp))];simp only[hb,zL]at k;exact⟨u,d1,h1,a0,rfl,rfl,s1,C,k⟩
  |_=>exact⟨u,d1,h1,a0,rfl,rfl,s1,C,k⟩
 |loop x T=>
  intro Q e h H B d a f;simp only[WL]at H;split at H;rename_i J hJ;have⟨I,μ,h0,A⟩:=H;have⟨S,p0,ab,ac,aa⟩:=nC h0;let F:=om (j7 J) I μ;let at_:Act->Option ((zc->Prop)×(zc->Nat)):=λa1=>(jx (λi=>Td (ql a1 i)) J).bind λvs=>i9 (j7 J) vs F;refine wpIn_loop (λa1 w1=>∃d1 h1 vs p a0,a1=Jo D a0/\w1=mk B d1 h1/\a0.defers=[]/\a0.tmps.size=n/\Same (xz x) a a0/\jx (λi=>Td (ql a0 i)) J=Td vs/\i9 (j7 J) vs F=Td p/\p.1 h1) (λa1 w1=>match at_ a1 with|some p=>p.2 w1.heap|none=>0) ⟨d,h,S,p0,a,rfl,rfl,f.defers,f.size,Same.refl _ _,yu f ab,ac,aa⟩ ?_;rintro a1 w1 ⟨d1,h1,vs,p,a0,rfl,rfl,M,Z,j,hv,hp,hI⟩;have s1:Sat n (Yq J vs++Wy (xz x) e) a0:=qV f M Z j hv;have hb:=uR hp A h1 hI;refine wpIn_mono (T _ _ _ hb B d1 a0 s1) ?_;rintro ex a2 w2 ⟨o,d2,h2,r,rfl,rfl,s2,t,l⟩;have va:∀(a1:Act),(λi=>Td (ql (Jo D a1) i))=λi=>Td (ql a1 i):=λ_=>rfl;cases ex with
  |normal=>
   have⟨O,q,E,hq,N,V⟩:=nC l;refine⟨⟨d2,h2,O,q,r,rfl,rfl,s2.defers,s2.size,j.trans t,yu s2 E,hq,N⟩,?_⟩;have u:at_ (Jo D a0)=Td p:=by simp only[at_,va,hv,zc3];exact hp
   have o:at_ (Jo D r)=Td q:=by simp only[at_,va,yu s2 E,zc3];exact hq
   rw[u,o];exact V
  |_=>exact⟨o,d2,h2,r,rfl,rfl,s2,j.trans t,l⟩
  cases H
 |_=>exact λQ e h H=>H.elim
abbrev jF:=LoopState->Option Code->Loop
def qpz(rec:jF)(l:Nat)(K:Value->zc->Prop):Wb
 |.normal,_,h=>h[l]?=Td (.loop (rec .busy Te))/\K (.bool Ta) (h.setIfInBounds l (.loop (rec .ready Te)))
 |.ret,_,h=>h[l]?=Td (.loop (rec .busy Te))/\K (.bool Tc) (h.setIfInBounds l (.loop (rec .done (Td .ret))))
 |_,_,_=>False
def mq(P:EM)(n:Nat)(b bd:Code)(rec:jF)(l:Nat)(K:Value->zc->Prop)(e:bR)(h:zc):Prop:=
 WG P n b (λx c h1=>match x with
  |.normal=>h1[l]?=Td (.loop (rec .ready Te))/\WG P n bd (qpz rec l K) c (h1.setIfInBounds l (.loop (rec .busy Te)))
  |_=>False) e h
theorem Gk(a:Act):Jo [] a=a:=by unfold Jo;simp
def zS:bR->List Nat->List Value->bR
 |e,p::ps,v::vs=>zS (putO e (Td p) [] v) ps vs
 |e,_,_=>e
def s8:Array Value->List Nat->List Value->Array Value
 |t,p::ps,v::vs=>s8 (t.setIfInBounds p v) ps vs
 |t,_,_=>t
theorem JF:∀(ps:ac0) (vs:ac1) (t:ac2),(ps.zip vs).foldl (λ(t:ac2) (x:Tmp×Value)=>t.setIfInBounds x.1 x.2) t=s8 t ps vs
 |[],_,_=>rfl
 |_::_,[],_=>rfl
 |p::ps,v::vs,t=>JF ps vs (t.setIfInBounds p v)
def Ek{n:Nat}:∀(ps:ac0) (vs:ac1) (e:bR) (a:Act),(∀p∈ps,wj n [] (Td p)=Ta)->Sat n e a->Sat n (zS e ps vs) { tmps:=s8 a.tmps ps vs,defers:=[] }
 |[],vs,e,a,_,hs=>by have:=hs.defers;cases a;simp only at this;subst this;exact hs
 |p::ps,[],e,a,_,hs=>by have:=hs.defers;cases a;simp only at this;subst this;exact hs
 |p::ps,v::vs,e,a,h,hs=>Ek ps vs _ (a.put (Td p) v) (λq b=>h q (zan _ b)) (hs.putO (h p zat) (λ_=>rfl) (λc=>absurd trivial c))
def LY(A:P.follows .mixedOrders=Ta){n l:Nat}{ps:ac0}{f bd:Code}{fn:n4}{D:Nat}(x:∀p∈ps,wj n [] (Td p)=Ta) {rec:jF} (b:rec=λst J=>{ state:=st,pending:=J,fn:=fn,tmps:=a.tmps,params:=ps.toArray,assign:=f,body:=bd,defers:=D }) {vs:ac1} (S:ps.length=DB vs) (M:Sat n e a) (E:h[l]?=Td (.loop (rec .ready Te))) {K:vvv}(H:mq P n f bd rec l K (zS e ps vs) h):YX P l vs.toArray h K:=by
 intro m B d;have u:(mk B d h).heap[l]?=Td (.loop (rec .ready Te)):=E;have z:=run_yield (P:=P) (w:=mk B d h) (args:=vs.toArray) u θ;refine⟨_,_,_,_,z,?_⟩;rw[b]at z ⊢;have s2:=Ek ps vs e a x M;have key:RoundIn (rf Te) m P l fn (s8 a.tmps ps vs) f bd (mk B d h) (λe w'=>∃v G h',e=.returned v/\w'=mk B G h'/\K v h'):=by
  refine roundIn_of_wpIn (F:=rf Te) trivial ?_;have L:(rf Te).inRound l=rf (Td l):=rfl;rw[L,<-Gk { tmps:=s8 a.tmps ps vs,defers:=[] }];refine wpIn_mono (Kc A f _ _ _ H B d _ s2) ?_;rintro ex a1 w1 ⟨Q,d1,h1,a0,rfl,rfl,s1,y⟩;cases ex with
  |normal=>
   have⟨C,I⟩:=y;have o:(mk B d1 h1).heap[l]?=Td (.loop (rec .ready Te)):=C;have hb:=run_beginRound (P:=P) o (ϕ b);refine⟨_,hb,?_⟩;have j:({ rec .ready Te with state:=.busy }:Loop)=rec .busy Te:=ϕ b
   rw[j];refine wpIn_mono (Kc A bd _ _ _ I B d1 a0 s1) ?_;rintro ex a2 w2 ⟨N,d2,h2,T,rfl,rfl,O,q⟩;cases ex with
   |normal=>
    have⟨t,r⟩:=q;have i:(mk B d2 h2).heap[l]?=Td (.loop (rec .busy Te)):=t;have c:=run_endRound (P:=P) Te i;refine⟨_,_,c,ab8 Ta,d2,h2.setIfInBounds l (.loop (rec .ready Te)),rfl,?_,r⟩;have k:({ rec .busy Te with state:=ite ((Te:Option Code).isNone) (.ready) (.done),pending:=Te }:Loop)=rec .ready Te:=π b
    rw[k];rfl
   |ret=>
    have⟨t,r⟩:=q;have i:(mk B d2 h2).heap[l]?=Td (.loop (rec .busy Te)):=t;have c:=run_endRound (P:=P) (Td .ret) i;refine⟨_,_,c,ab8 Tc,d2,h2.setIfInBounds l (.loop (rec .done (Td .ret))),rfl,?_,r⟩;have k:({ rec .busy Te with state:=ite ((Td Code.ret:Option Code).isNone) (.ready) (.done),pending:=Td .ret }:Loop)=rec .done (Td .ret):=π b
    rw[k];rfl
   |_=>cases q
  |_=>cases y
 simp_all[JF]
def mD:Code->Code
 |.rangeFunc _ _ x _=>x
 |.seq x y=>match mD x with
  |.skip=>mD y
  |c=>c
 |.block _ x=>mD x
 |_=>.skip
def l9:Code->Code
 |.rangeFunc _ _ _ y=>y
 |.seq x y=>match l9 x with
  |.skip=>l9 y
  |c=>c
 |.block _ x=>l9 x
 |_=>.skip
def marks(c:List Nat):List Deferred:=c.map λb=>{ target:=.collected b,args:=#[] }
abbrev lW:=Exit->List Nat->bR->zc->Prop
def XW(K:List Nat->bR->zc->Prop)(Q:lW):lW
 |.normal,ds,e,h=>K ds e h
 |x,ds,e,h=>Q x ds e h
def Gd(id:Nat)(Q:lW):lW
 |.exit i,ds,e,h=>bif mv i id then Q .normal ds e h else Q (.exit i) ds e h
 |x,ds,e,h=>Q x ds e h
def qX(rec:jF)(l:Nat)(N R:zc->Prop)(h:zc):Prop:=
 (h[l]?=Td (.loop (rec .ready Te))/\N (h.setIfInBounds l (.loop (rec .exhausted Te))))\/(h[l]?=Td (.loop (rec .done (Td .ret)))/\R (h.setIfInBounds l (.loop (rec .exhausted (Td .ret)))))
def HW(P:EM)(n:Nat)(f i:Nat)(c bd:Code)(v:Value)(Q:lW)(l:List Nat)(e:bR)(h:zc):Prop:=
 bif wj n [] (Td f)&&wj n [] (Td i)then(∃g lb,v=.func (.func g) #[] lb/\zy P g=Ta/\∀rec:jF,
  (∀{k j:Value} {h2:zc} {K:Value->zc->Prop},h2[h.size+1]?=Td (.loop (rec .ready Te))->mq P n c bd rec (h.size+1) K (putO (putO e (Td f) [] k) (Td i) [] j) h2->YX P (h.size+1) #[k,j] h2 K) ->
  mK P g (#[.func (.yield (h.size+1)) #[] #[]]++lb) ((h.push (.deferred (Td []))).push (.loop (rec .ready Te))) λ_ m=>qX rec (h.size+1) (λb=>Q .normal (h.size::l) e b) (λb=>Q .ret (h.size::l) e b) m)else False
def Hf(P:EM)(n:Nat)(f:Nat)(c bd:Code)(v:Value)(Q:lW)(j:List Nat)(e:bR)(h:zc):Prop:=
 bif wj n [] (Td f)then(∃g lb,v=.func (.func g) #[] lb/\zy P g=Ta/\∀rec:jF,
  (∀{i:Value} {h2:zc} {K:Value->zc->Prop},h2[h.size+1]?=Td (.loop (rec .ready Te))->mq P n c bd rec (h.size+1) K (putO e (Td f) [] i) h2->YX P (h.size+1) #[i] h2 K) ->
  mK P g (#[.func (.yield (h.size+1)) #[] #[]]++lb) ((h.push (.deferred (Td []))).push (.loop (rec .ready Te))) λ_ k=>qX rec (h.size+1) (λb=>Q .normal (h.size::j) e b) (λb=>Q .ret (h.size::j) e b) k)else False
def oU(e:bR):Nat->Nat->bR
 |0,_=>[]
 |f+1,i=>match mU e i with
  |some v=>(i,[],v)::oU e f (i+1)
  |none=>oU e f (i+1)
def D3{e:bR}:∀{f i:Nat} {x:Nat×qj×Value},x∈oU e f i->x.2.1=[]/\mU e x.1=Td x.2.2
 |0,_,_,h=>nomatch h
 |f+1,i,x,h=>by unfold oU at h;split at h;rename_i v b;obtain rfl|h:=zal.1 h;simp_all;exact D3 h;exact D3 h
def uQ(h:Sat n e a)(f i:Nat):Sat n (oU e f i) a:=⟨h.defers,h.size,λx b=>by have⟨k,c,v⟩:=x;have⟨h1,h2⟩:=D3 b;have h1:c=[]:=h1;subst h1;exact⟨λ_=>Yr h h2,λj=>absurd trivial j⟩⟩
def WD(P:EM)(n:Nat)(pl:List (Nat×iR)):Code->lW->List Nat->bR->zc->Prop
 |.skip,Q,f,e,h=>Q .normal f e h
 |.ret,Q,f,e,h=>Q .ret f e h
 |.exit id,Q,f,e,h=>Q (.exit id) f e h
 |.region _ ops draw,Q,f,e,h=>tE P n ops draw (λe h=>Q .normal f e h) e h
 |.seq x y,Q,f,e,h=>WD P n pl x (XW (λf e h=>WD P n pl y Q f e h) Q) f e h
 |.cond c x y,Q,f,e,h=>match jG e [] c with
  |some (.bool b)=>(b=Ta->WD P n pl x Q f e h)/\(b=Tc->WD P n pl y Q f e h)
  |_=>False
 |.block id x,Q,f,e,h=>WD P n pl x (Gd id Q) f e h
 |.rangeFunc g ps asg bd,Q,f,e,h=>match jG e [] g,ps.toList with
  |some v,[p1,p2]=>HW P n p1 p2 asg bd v Q f (oU e n 0) h
  |some v,[p1]=>Hf P n p1 asg bd v Q f (oU e n 0) h
  |_,_=>False
 |.loop x,Q,f,e,h=>WL P n pl (.loop x) (λex e h=>Q ex f e h) e h
 |_,_,_,_,_=>False
def Mj(n:Nat)(B:Nd)(Q:lW):Exit->Act->Nd->Prop:=
 λx a w=>∃b e d h a0,a=Jo (marks b) a0/\w=mk B d h/\Sat n e a0/\Q x b e h
def FB(w:1<=m){ps:Array Nat}{i bd:Code}{l:n4}{lb:ac2}(C:zy P l=Ta){g:Operand}{Q:lW}{j:ac0}(y:Sat n e a)(H:(Jo (marks j) a).eval g=.func (.func l) #[] lb) (D:∀fn (s:jF),s=(λst t=>{ state:=st,pending:=t,fn:=fn,tmps:=a.tmps,params:=ps,assign:=i,body:=bd,defers:=h.size })->mK P l (#[.func (.yield (h.size+1)) #[] #[]]++lb) ((h.push (.deferred (Td []))).push (.loop (s .ready Te))) λ_ q=>qX s (h.size+1) (λz=>Q .normal (h.size::j) e z) (λz=>Q .ret (h.size::j) e z) q)(B:Nd) (d:Nat):(Code.rangeFunc g ps i bd).wpIn (rf Te) m P (Mj n B Q) (Jo (marks j) a) (mk B d h):=by
 refine wpIn_rangeFunc λo _=>?_;obtain⟨s,b⟩:∃s:jF,s=λst t=>{ state:=st,pending:=t,fn:=o,tmps:=a.tmps,params:=ps,assign:=i,body:=bd,defers:=h.size }:=⟨_,rfl⟩;have u:=D o s b;refine⟨h.size+1,[{ target:=.collected h.size,args:=#[] }],mk B d ((h.push (.deferred (Td []))).push (.loop (s .ready Te))),{ target:=.fn (.func l) lb,args:=#[.func (.yield (h.size+1)) #[] #[]] },mk B d ((h.push (.deferred (Td []))).push (.loop (s .ready Te))),l,#[.func (.yield (h.size+1)) #[] #[]]++lb,mk B d ((h.push (.deferred (Td []))).push (.loop (s .ready Te))),?_,?_,λ_ _=>trivial,?_,λ_=>w,?_⟩;rw[b];exact run_enterLoop_outer _ _ _ _ _;simp only[resolve,H];simp[go_sem,zeo];simp only[invoke];exact Ba C _ _;have F:({ Jo (marks j) a with defers:=[{ target:=.collected h.size,args:=#[] }]++(Jo (marks j) a).defers }:Act)=Jo (marks (h.size::j)) a:=by unfold Jo marks;simp only[y.defers];rfl
 rw[F];refine CallsIn.mono (u (m-1) B d) ?_;rintro e' w' ⟨v,r,q,rfl,rfl,k⟩;obtain⟨f,G⟩|⟨f,E⟩:=k;have c:(mk B r q).heap[h.size+1]?=Td (.loop (s .ready Te)):=f;have p:=run_endLoop (P:=P) c θ;have A:({ s .ready Te with state:=.exhausted }:Loop)=s .exhausted Te:=by rw[b]
 have x:(s .ready Te).pending=Te:=by rw[b]
 rw[A,x]at p;exact⟨Te,_,p,_,e,r,_,a,rfl,rfl,y,G⟩;have c:(mk B r q).heap[h.size+1]?=Td (.loop (s .done (Td .ret))):=f;have p:=run_endLoop (P:=P) c θ;have A:({ s .done (Td .ret)with state:=.exhausted }:Loop)=s .exhausted (Td .ret):=by rw[b]
 have x:(s .done (Td .ret)).pending=Td .ret:=by rw[b]
 rw[A,x]at p;exact⟨Td .ret,_,p,wpIn_ret ⟨_,e,r,_,a,rfl,rfl,y,E⟩⟩
def qdo(C:P.follows .mixedOrders=Ta)(A:1<=m){pl:List (Nat×iR)}:∀(c:Code) (Q:lW) (j:ac0) (e:bR) (h:zc),WD P n pl c Q j e h ->∀(B:Nd) (d:Nat) (a:Act),Sat n e a->c.wpIn (rf Te) m P (Mj n B Q) (Jo (marks j) a) (mk B d h):=by
 intro c;induction c with
 |skip=>exact λQ j e h H B d a f=>wpIn_skip ⟨j,e,d,h,a,rfl,rfl,f,H⟩
 |ret=>exact λQ j e h H B d a f=>wpIn_ret ⟨j,e,d,h,a,rfl,rfl,f,H⟩
 |exit id=>exact λQ j e h H B d a f=>wpIn_exit ⟨j,e,d,h,a,rfl,rfl,f,H⟩
 |region id ops N=>exact λQ j e h H B d a f=>zQ C H B d f λU S Z h' k _ q2=>⟨j,U,Z,h',S,rfl,rfl,k,q2⟩
 |seq x y z r=>
  intro Q j e h H B d a f;refine wpIn_seq (wpIn_mono (z _ _ _ _ H B d a f) ?_);rintro ex a1 w1 ⟨o,w,d1,h1,a0,rfl,rfl,s1,k⟩;cases ex with
  |normal=>exact r _ _ _ _ k B d1 a0 s1
  |_=>exact⟨o,w,d1,h1,a0,rfl,rfl,s1,k⟩
 |cond c x y z r=>intro Q j e h H B d a f;simp only[WD]at H;split at H;rename_i b hb;have V:(Jo (marks j) a).eval c=.bool b:=yc f (c:=[]) trivial hb;exact wpIn_cond_split V (λI=>z _ _ _ _ (H.1 I) B d a f) (λD=>r _ _ _ _ (H.2 D) B d a f);cases H
 |block id x ih=>
  intro Q j e h H B d a f;refine wpIn_block (wpIn_mono (ih _ _ _ _ H B d a f) ?_);rintro ex a1 w1 ⟨o,w,d1,h1,a0,rfl,rfl,s1,k⟩;cases ex with
  |exit i=>simp only[Gd]at k;simp only[Exit.inBlock];by_cases hb:mv i id=Ta;rw[zA (zao hb)];simp only[hb,zK]at k;exact⟨o,w,d1,h1,a0,rfl,rfl,s1,k⟩;rw[zv (λhe=>hb (by rw[he];simp))];simp only[hb,zL]at k;exact⟨o,w,d1,h1,a0,rfl,rfl,s1,k⟩
  |_=>exact⟨o,w,d1,h1,a0,rfl,rfl,s1,k⟩
 |rangeFunc g ps O bd T aa=>
  intro Q j e h H B d a f;simp only[WD]at H;split at H;rename_i v t E M u;have l:ps=#[t,E]:=by rw[<-Array.toList_inj];exact u
  subst l;unfold HW at H;cases hok:(wj n [] (Td t)&&wj n [] (Td E))with
  |false=>simp_all
  |true=>rw[hok]at H;rw[zaw]at hok;obtain⟨Y,lb,rfl,F,J⟩:=H;exact FB A F (uQ f n 0) (yc f (c:=[]) trivial M) (λfn s p=>J s (λ {G v2 h2 K} L q=>LY C (ps:=[t,E]) (vs:=[G,v2]) θ p rfl (uQ f n 0) L q)) B d
  rename_i v t M u;have l:ps=#[t]:=by rw[<-Array.toList_inj];exact u
  subst l;unfold Hf at H;cases hok:wj n [] (Td t)with
  |false=>simp_all
  |true=>rw[hok]at H;obtain⟨Y,lb,rfl,F,J⟩:=H;exact FB A F (uQ f n 0) (yc f (c:=[]) trivial M) (λfn s p=>J s (λ {G h2 K} L q=>LY C (ps:=[t]) (vs:=[G]) θ p rfl (uQ f n 0) L q)) B d
  cases H
 |loop x _=>intro Q j e h H B d a f;refine wpIn_mono (Vs C (.loop x) _ _ _ H B d a f) ?_;rintro ex a1 w1 ⟨w,d1,h1,a0,rfl,rfl,s1,_,k⟩;exact⟨j,w,d1,h1,a0,rfl,rfl,s1,k⟩
 |_=>exact λQ j e h H=>H.elim
def takeD:List Nat->(zc->Prop)->zc->Prop
 |[],K,h=>K h
 |b::ds,K,h=>h[b]?=Td (.deferred (Td []))/\takeD ds K (h.setIfInBounds b (.deferred Te))
def Sw(P:EM)(rs:List ResultVar)(R:Value->zc->Prop):lW
 |.normal,ds,e,h=>takeD ds (λh'=>lS P h' e rs λvs=>R (lZ vs) h') h
 |.ret,ds,e,h=>takeD ds (λh'=>lS P h' e rs λvs=>R (lZ vs) h') h
 |_,_,_,_=>False
def yW{P:EM}{fn:Func}{n:Nat}{rs:List ResultVar}(i:fn.results.toList=rs){e:bR}{a:Act}(j:Sat n e a){B:Nd}{R:vvv}{D:Nat}:∀(c:ac0) (d:Nat) (h:zc),takeD c (λh'=>lS P h' e rs λvs=>R (lZ vs) h') h ->LeavesInM Fence.wide D P fn a.tmps (λe w'=>∃v k h',e=.returned v/\w'=mk B k h'/\R v h') (marks c) .returning (mk B d h)
 |[],d,h,H=>by have⟨v,m,l⟩:=Ys j i H;exact⟨v,l B d,v,d,h,rfl,rfl,m⟩
 |b::c,d,h,⟨h1,H⟩=>by have f:(mk B d h).heap[b]?=Td (.deferred (Td [])):=h1;exact⟨ξ,.inl ⟨_,_,rfl,run_takeDeferred (P:=P) f,yW i j c d _ H⟩⟩
def LQ(u:P.follows .mixedOrders=Ta)(vs:ac1){f:n4}{fn:Func}{rs:List ResultVar}(q:P.funcs[f]?=Td fn)(hb:Yt fn=Ta)(o:fn.results.toList=rs)(t:fn.ntmps=n)(hz:Nat.ble (DB vs) n=Ta){R:vvv}{F:Prop}(H:F)(pl:List (Nat×iR):=[])(p:F=WD P n pl (codeOf fn) (Sw P rs R) [] (lQ 0 vs) h):XC P f vs.toArray h R:=by
 have i:fn.body=Td (codeOf fn):=by unfold Yt at hb;unfold codeOf;split at hb;omega;cases hb
 intro B d;refine callsIn_wide.1 (callsIn_of_wp_marks (F:=Fence.wide) (n:=1) q i trivial ?_ rfl);subst t;have y:vs.length<=fn.ntmps:=zci hz;have r:Sat fn.ntmps (lQ 0 vs) { tmps:=vs.toArray++zcf (fn.ntmps-vs.toArray.size) undef,defers:=[] }:=by
  refine⟨rfl,φ,?_⟩;refine vu vs.toArray _ vs 0 λj v x=>?_;have e:j<DB vs:=by obtain h|h:=zbv j (DB vs);exact h;simp_all
  simp only[zax,zb6];rw[zdd (ψ e)];simp[x]
 have:=qdo u (m:=1) ω (codeOf fn) _ [] _ _ (p ▸ H) B d _ r;rw[show marks []=[]from rfl,Gk]at this;refine wpIn_mono this ?_;rintro ex a w ⟨b,z,d1,h1,a0,rfl,rfl,s1,c⟩;have k:(Jo (marks b) a0).defers=marks b:=by unfold Jo;rw[s1.defers];rfl
 have l:(Jo (marks b) a0).tmps=a0.tmps:=rfl;cases ex with
 |normal=>show LeavesInM _ _ _ _ _ _ _ _ _;rw[k,l];exact yW o s1 b d1 h1 c
 |ret=>show LeavesInM _ _ _ _ _ _ _ _ _;rw[k,l];exact yW o s1 b d1 h1 c
 |_=>cases c
end
section
open Go.RowKit
section
variable {g:zc} {i:Nat}
theorem qu{i j:Nat}{o:Obj}(h:j≠i):(g.setIfInBounds i o)[j]?=g[j]?:=zc1 (Ne.symm h)
theorem ST{o:Obj}(h:i<g.size):(g.setIfInBounds i o)[i]?=Td o:=Array.getElem?_setIfInBounds_self_of_lt h
section
variable {h : zc} {M : Fr} {b2 b3 b4 b5 bc D l : Nat} {rec : jF} {s : Bs} {sl : Sl} {bs : List Nat} {g : zc}
end
end
section
section
variable {lo : Nat} {g : zc} {M : Fr} {bp : Nat} {s : Bs} {a e : Int} {O : Nat -> Prop} {K : Value -> zc -> Prop}
def FS:yf Tp 3=Ta:=κ
end
end
section
def oO:JT Tp 29 3 (ab9 0) (sz (.int .i64)) 8:=⟨κ,⟨Tryz.t3,κ,κ,κ,κ⟩,rfl,ζ⟩
section
variable {lo : Nat} {g : zc} {M : Fr} {bp : Nat} {s : Bs} {a e : Int} {O J D : Nat -> Prop} {K : Value -> zc -> Prop} {HI : List Bs -> zc -> Prop} {F : n4} {A C : Array Value}
end
end
end
section
section
variable {lo hi : Nat} {g : zc} {b0 : Nat} {v : Tr} {sk si : Sl}
def uB:yf Tp 22=Ta:=κ
def vM:yo Tp 22=1:=κ
def CW:yf Tp 23=Ta:=κ
def A7:yo Tp 23=1:=κ
end
end
section
open Go.RowKit
section
variable {g:zc}
def wX{M:Fr}(ag:AgM M g){xs:ad4}{s:Sl}(H:Rd M (.row PJ) xs [aK s]){k:Nat}(c:k<DB xs):∃b o,s.a=Td ⟨b,o,Te⟩/\zd g ⟨b,o+k*1,Te⟩=Td (ab9 xs[k]):=by have⟨b,o,cs,e,h,f⟩:=Go.X.aa2 H c;exact⟨b,o,e,uW ag h f⟩
def VJ:yf Tp 25=Ta:=κ
def Ua:yo Tp 25=4:=κ
def Q8{b:Nat}{x y z w:Value}(B:Blk g b #[x,y,z,w]){k:Int}{s:Bt}{sk si:Sl}{K:zc->Prop}(f:∀g',(∀j,j≠b->g'[j]?=g[j]?)->g'.size=g.size->Blk g' b #[ab9 k,ab5 s,aK sk,aK si]->K g'):CA Tp (zae 25 (ab6 ⟨b,0,Te⟩) (.agg #[ab9 k,ab5 s,aK sk,aK si])) g K:=by refine X9 (vs:=[ab9 k,ab5 s,aK sk,aK si]) VJ B rfl Ua (zac _) (λu c=>?_) λg' e i h=>f g' h i e;simp at c;obtain rfl|rfl|rfl|rfl:=c <;> rfl
section
variable {t : Bs} {lvs : List Nat} {gl : Fr}
end
end
section
variable {b:Nat} {h h':zc} {ln:Bool} {nd:Int} {l:Bs} {K:Value -> zc -> Prop}
def nU(o:Obj):Bool:=match o with
 |.cells _ T _=>!(mv T 5) && !(mv T 207)
 |_=>Ta
def Otk(h h':zc):Prop:=∀(i:Nat) (o:Obj),h[i]?=Td o->nU o=Ta->h'[i]?=Td o
theorem Otk.trans{a b c:zc}(x:Otk a b)(y:Otk b c):Otk a c:=λi o e n=>y i o (x i o e n) n
theorem Otk.ab0(k:BT h.size h h'):Otk h h':=λi o e _=>by have hi:i<h.size:=(zaq.1 e).1;rw[k.get i hi];exact e
theorem Otk.ne{cs:ac2}{m:Nat×Nat}(e:h[b]?=Td (.cells cs 207 m))(f:∀i,i≠b->h'[i]?=h[i]?):Otk h h':=λi o c n=>by by_cases hi:i=b;subst hi;rw[e]at c;cases c;cases n;simp_all
theorem Otk.own{base:Nat}{sz:Nat}{s:Sl}{xs:ac1}(H:Fd h base 5 sz s xs)(f:∀i,i<h.size->(∀p,s.a=Td p->i≠p.block)->h'[i]?=h[i]?):Otk h h':=λi o b n=>by have hi:i<h.size:=(zaq.1 b).1;rw[f i hi λq l k=>?_];exact b;obtain⟨j,_⟩|⟨g,cap,c,j,_,e,_⟩:=H.2;simp_all;have e:h[g]?=Td (.cells c 5 (0,0)):=e;rw[l]at j;injection j with e1 _ _;injection e1 with e1;rw[k,e1]at b;rw[e]at b;cases b;cases n
theorem OD:liesAt Tp zbe.depth 207 (4 / zbe.cellsOf 207) 0 89 1=Ta:=κ
def Prn(h:zc)(b:Nat)(ln:Bool)(nd:Int)(l:Bs):Prop:=∃(p:Option n8) (s:Sl),h[b]?=Td (.cells #[.pointer p,aK s,.bool ln,.int .i64 nd] 207 (0,0))/\(p=Te\/p=Td ⟨b,0,Te⟩)/\Fd h (b+1) 5 1 s (Lib.byteCells l)
theorem Prn.lt(H:Prn h b ln nd l):b<h.size:=by have⟨p,s,e,_⟩:=H;grind
theorem Prn.ab0(H:Prn h b ln nd l)(k:BT h.size h h'):Prn h' b ln nd l:=by have c:=H.lt;have⟨p,s,e,f,i⟩:=H;exact⟨p,s,by rw[k.get b c];exact e,f,i.keepN k⟩
theorem Prn.new(h:zc)(ln:Bool)(nd:Int):Prn (h.push (.cells #[.pointer Te,.slice Te 0 0,ab8 ln,ab9 nd] 207)) h.size ln nd []:= ⟨Te,⟨Te,0,0⟩,ye _ _,.inl rfl,Fd.nil _ _ _ _⟩
def ZO(b:Nat)(w:Nd)(h0:w.cell? ⟨b,0,Te⟩=Td (.pointer Te))(c:w.shape? b=Td (207,4))(h:w.frozen? ⟨b,0,Te⟩=Tc):Calls Tp 123 #[ab6 ⟨b,0,Te⟩] w λe w'=>e=.returned (.tuple #[])/\w'=w.setCell ⟨b,0,Te⟩ (ab6 ⟨b,0,Te⟩):=by
 have⟨j,f,i⟩:=zc5.1 DY;have mixed:=Tryz.mixed
 go_enter func123,Tryz.ntmps123
 go_wp2
 rw[Lib.run_to_unsafe w ⟨b,0,Te⟩ rR vz f ω c (Nat.zero_lt_succ 3)];simp only[Result.andThen];rw[Oper.upon_value]
 go_wp2
 rw[run_callFunc_extern func195 κ κ κ (e:=zfd) κ];rw[Lib.run_noEscape];simp only[Result.andThen];rw[Oper.upon_value]
 go_wp2
 rw[Lib.run_from_unsafe w ⟨b,0,Te⟩ vz rR f c OD];simp only[Result.andThen];rw[Oper.upon_value]
 go_wp2
 go_end0
 simp
def IW(H:Prn h b ln nd l)(j:∀h',Prn h' b ln nd l->BT b h h'->h'.size=h.size->Otk h h'->K (.tuple #[]) h'):ab3 123 #[ab6 ⟨b,0,Te⟩] h K:=by
 have n:=H.lt;have⟨p,s,e,k,f⟩:=H;have c:∀B d,(mk B d h).cell? ⟨b,0,Te⟩=Td (.pointer p):=λB d=>by have:(mk B d h).heap[b]?=Td (.cells #[.pointer p,aK s,ab8 ln,ab9 nd] 207 (0,0)):=e;simp[World.cell?,this]
 obtain rfl|rfl:=k;refine XC.of_calls λB d=>(ZO b (mk B d h) (c B d) ?_ ?_).mono ?_
 have:(mk B d h).heap[b]?=Td (.cells #[.pointer Te,aK s,ab8 ln,ab9 nd] 207 (0,0)):=e;simp[World.shape?,this];exact zR ⟨_,e⟩ B d;rintro e' w' ⟨rfl,rfl⟩;rw[JV e];refine⟨_,rfl,rfl,rfl,rfl,?_⟩;show K _ (h.setIfInBounds b _);refine j _ ⟨_,s,?_,.inr rfl,?_⟩ ?_ ξ (Otk.ne e λi hi=>zc1 (Ne.symm hi));simp_all;refine f.ab0 λq m=>?_;have:=f.base_le q m;grind;exact BT.setBlk _ (zac _);refine XC.of_calls λB d=>(Mi b (mk B d h) (c B d)).mono ?_;rintro e' w' ⟨rfl,rfl⟩;exact⟨_,rfl,rfl,rfl,rfl,j _ ⟨_,s,e,.inr rfl,f⟩ (BT.refl _ _) rfl (Otk.ab0 (BT.refl _ _))⟩
def G3{p:Option n8}{s t:Sl}(e:h[b]?=Td (.cells #[.pointer p,aK t,ab8 ln,ab9 nd] 207 (0,0)))(k:p=Te\/p=Td ⟨b,0,Te⟩)(i:Fd h (b+1) 5 1 s (Lib.byteCells l)){K:zc->Prop}(r:∀h',Prn h' b ln nd l->BT b h h'->h'.size=h.size->Otk h h'->K h'):CA Tp (zae 87 (ab6 ⟨b,1,Te⟩) (.slice s.a s.len s.cap)) h K:=by intro B d;have⟨h',n,j,f,c⟩:=Yy (P:=Tp) FJ LO e (o:=1) (v:=aK s) rfl ξ (by simp[aK,Value.cells,pi]) B d;refine⟨d,h',n,r h' ⟨p,s,?_,k,?_⟩ (BT.ne f c) f (Otk.ne e c)⟩;rw[j];rfl;refine i.ab0 λq m=>?_;have:=i.base_le q m;grind
def Yl(H:Prn h b ln nd l)(S:l.length<140737488355328)(c:UInt8)(O:∀h',Prn h' b ln nd (l++[c])->BT b h h'->Otk h h'->K .nilIface h'):ab3 133 #[ab6 ⟨b,0,Te⟩,.int .u8 (c.toNat:Int)] h K:=by
 apply wh;refine IW H λh2 A k2 z2 E=>⟨rfl,_,rfl,?_⟩;have w:=A.lt;have⟨p,s,e,P,m⟩:=A;have f:=m.1;rw[Lib.byteCells_length,zbn]at f;refine⟨s,Blk.ab1 (o:=0) (k:=1) (cs:=#[.pointer p,aK s,ab8 ln,ab9 nd]) ⟨_,e⟩ rfl,?_⟩;intro r;have⟨j,T,b5⟩:=jo (g:=r) rfl;have C:r[b]?=Td (.cells #[.pointer p,aK s,ab8 ln,ab9 nd] 207 (0,0)):=by rw[j.get b w];exact e
 have z:=m.keepN j;clear_value r;refine Zh qP z (src:=⟨Td (ab7 h2),1,1⟩) (news:=[.int .u8 (c.toNat:Int)]) (n:=r.size) ?_ rfl (by simp[pi]) η η ω λB y V G t Y Q=>⟨B,rfl,_,rfl,?_⟩;refine .inr ⟨h2.size,0,rfl,ω,λi v u=>?_⟩
 match i,u with
 |0,u=>cases u;exact b5.cell rfl
 have L:y[b]?=Td (.cells #[.pointer p,aK s,ab8 ln,ab9 nd] 207 (0,0)):=by rw[t b ω λq x=>χ (m.base_le q x)];exact C
 have D:Fd y (b+1) 5 1 B (Lib.byteCells (l++[c])):=by
  have:Lib.byteCells (l++[c])=Lib.byteCells l++[.int .u8 (c.toNat:Int)]:=by unfold Lib.byteCells;rw[zbf];rfl
  rw[this];exact G
 have F:BT b h y:=k2.trans ⟨ω,λi hi=>by rw[t i ω λq x=>χ (m.base_le q x)];exact j.get i ω⟩ (zac _);refine G3 L P D λN I J U M=>O N I (F.trans J (zac _)) (E.trans ((Otk.ab0 j).trans ((Otk.own z t).trans M)))
def Jp(H:Prn h b ln nd l)(t:Bs)(Y:l.length+DB t<=140737488355328)(M:∀h',Prn h' b ln nd (l++t)->BT b h h'->Otk h h'->K (.tuple #[ab9 (DB t:Int),.nilIface]) h'):ab3 68 #[ab6 ⟨b,0,Te⟩,ab5 (bl t)] h K:=by
 apply js;refine IW H λh2 z k2 z2 E=>⟨rfl,_,rfl,?_⟩;have A:=z.lt;have⟨p,s,e,N,j⟩:=z;have f:=j.1;rw[Lib.byteCells_length,zbn]at f;refine⟨s,Blk.ab1 (o:=0) (k:=1) (cs:=#[.pointer p,aK s,ab8 ln,ab9 nd]) ⟨_,e⟩ rfl,?_⟩;have c:=zn t;refine Wk qP j (x:=.string (bl t)) (m:=(bl t).size) (news:=Lib.byteCells t) (λB d=>?_) (ο c) (ο c) ω λy u S O r V U=>⟨y,rfl,_,rfl,?_⟩;have:=Src.ofString (P:=Tp) (w:=mk B d h2) DG (bl t);have T:byteCells (bl t)=Lib.byteCells t:=by unfold byteCells Lib.byteCells;have:(bl t).data.toList=t:=Zn t;rw[this]
 simp_all;have G:u[b]?=Td (.cells #[.pointer p,aK s,ab8 ln,ab9 nd] 207 (0,0)):=by rw[r b ω λq n=>χ (j.base_le q n)];exact e
 have C:Fd u (b+1) 5 1 y (Lib.byteCells (l++t)):=by
  have:Lib.byteCells (l++t)=Lib.byteCells l++Lib.byteCells t:=by unfold Lib.byteCells;rw[zbf]
  rw[this];exact O
 have I:BT b h u:=k2.trans ⟨ω,λi hi=>r i ω λq n=>χ (j.base_le q n)⟩ (zac _);refine G3 G N C λL D F Q J=>?_;rw[c];exact M L D (I.trans F (zac _)) (E.trans ((Otk.own j r).trans J))
def O3(b:Nat)(p:Value)(ln:Bool)(nd:Int)(v:Value)(l:Bs)(w:Nd)(m:w.heap[b]?=Td (.cells #[p,v,ab8 ln,ab9 nd] 207 (0,0)))(f:w.ownsRow (b+1) 5 1 v (DB l) (Lib.byteCells l))(h0:l≠[]):Calls Tp 70 #[ab6 ⟨b,0,Te⟩] w λe w'=>e=.returned (ab5 ⟨l.toArray⟩)/\Below (b+1) w w':=by
 have h:l.length≠0:=ψ h0
 obtain⟨g,cap,c,rfl,u,q,y,o,z,k⟩:∃g cap c,v=.slice (Td ⟨g,0,Te⟩) (DB l) cap/\b+1<=g/\w.heap[g]?=Td (.cells c 5 (0,0))/\_:=by obtain⟨_,hz⟩|⟨g,cap,c,B,r⟩:=f.2;exact absurd hz h;exact⟨g,cap,c,B,r⟩
 have c1:w.drew.cell? ⟨b,1,Te⟩=Td (.slice (Td ⟨g,0,Te⟩) (DB l) cap):=by have:w.drew.heap[b]?=Td (.cells #[p,.slice (Td ⟨g,0,Te⟩) (DB l) cap,ab8 ln,ab9 nd] 207 (0,0)):=m;rw[Lib.cell_of_heap this];rfl
 have t:(Builtin.unsafeSliceData_ #[87] 133 #[.slice (Td ⟨g,0,Te⟩) (DB l) cap]).run Tp w.drew=.ok (ab6 ⟨g,0,Te⟩) w.drew:= Lib.run_unsafeSliceData_row _ _ _ _ _ _ ω;have n:(Builtin.unsafeString_ #[133,3] 9 #[ab6 ⟨g,0,Te⟩,ab9 (DB l)]).run Tp w.drew=.ok (ab5 ⟨l.toArray⟩) (w.drew.freeze ⟨g,0,Te⟩ (DB l)):=by refine Lib.run_unsafeString_row w.drew 133 3 9 5 Tryz.underlying133 κ g c.size (by have i:w.drew.heap[g]?=Td (.cells c 5 (0,0)):=q;simp[World.shape?,i]) l h0 ω (by have:maxLen=9223372036854775807:=rfl;omega) ?_;intro j x A;have:=f.cells (g:=g) rfl j (.int .u8 x.toNat) (by simp[Lib.byteCells,A]);exact this
 have mixed:=Tryz.mixed
 go_enter func70,Tryz.ntmps70
 go_wp2
 go_region_o
 all_goals (go_wp2;go_ret;simp_all[Lib.below_freeze,Below.drew,Below.refl])
def UV(H:Prn h b ln nd l)(h0:l≠[])(k:∀h',BT b h h'->K (ab5 (bl l)) h'):ab3 70 #[ab6 ⟨b,0,Te⟩] h K:=by have⟨p,s,e,m,j⟩:=H;have f:=j.1;rw[Lib.byteCells_length,zbn]at f;refine XC.of_calls λB d=>(O3 b (.pointer p) ln nd (aK s) l (mk B d h) e (ϖ f j) h0).mono ?_;rintro e' w' ⟨rfl,c⟩;exact⟨_,rfl,c.os,c.tape,c.output,k _ ⟨c.size,λi hi=>c.block i ω⟩⟩
end
end
section
def SJ(b:Int)(c:Bt)(d:Sl)(e:Sl)(h:zc)(R:vvv) (H:let f:=h.push (.cells #[iV b,ab5 c,aK d,aK e] 25);∃g i j k,ze f (ab7 h) 0 (tL g i j k)/\ab3 49 #[tA g i j k] f (λl m=>∃n,l=.bool n/\((!n)=Ta->R (.tuple #[ab5 (⟨#[]⟩:Bt),iV 1]) m)/\((!n)=Tc->let o:=m.push (.cells #[.pointer Te,.slice Te 0 0,ab8 Tc,iV 0] 207);∃p q r s,ze o (ab7 h) 0 (tL p q r s)/\ab3 201 #[ab6 (ab7 m),tA p q r s,iV 0] o (λt u=>t=.tuple #[]/\ab3 70 #[.pointer (Td (zab (ab7 m) 0))] u (λv w=>∃x,v=.string x/\R (.tuple #[ab5 x,iV 0]) w))))):ab3 126 #[.agg #[ab9 b,ab5 c,.slice d.a d.len d.cap,.slice e.a e.len e.cap]] h R:=XF ⟨[],[],[]⟩ [.tmp 2,.tmp 3] 12 func126 H
def Pv(L:Option n8)(b:Int)(c:Bt)(d:Sl)(e:Sl)(J:Int)(h:zc)(R:vvv) (H:let f:=h.push (.cells #[iV b,ab5 c,aK d,aK e] 25);∃g,zd f (zab (ab7 h) 0)=Td (iV g)/\((g==1)=Ta->∃i,L=Td i/\ab3 68 #[.pointer (Td (zab i 0)),ab5 (⟨#[110,117,108,108]⟩:Bt)] f (λj k=>∃l,∃m:Value,j=.tuple #[iV l,m]/\R (.tuple #[]) k))/\((g==1)=Tc->((g==4)=Ta->∃n,zd f (zab (ab7 h) 1)=Td (ab5 n)/\ab3 253 #[.pointer L,ab5 n] f (λo p=>o=.tuple #[]/\R (.tuple #[]) p))/\((g==4)=Tc->((g==5)=Ta->∃q r s t,ze f (ab7 h) 0 (tL q r s t)/\ab3 254 #[.pointer L,tA q r s t,iV J,ab5 (⟨#[91,93]⟩:Bt),.func (.func 255) #[.pointer L] #[]] f (λu v=>u=.tuple #[]/\R (.tuple #[]) v))/\((g==5)=Tc->((g==6)=Ta->∃w x y z,ze f (ab7 h) 0 (tL w x y z)/\ab3 254 #[.pointer L,tA w x y z,iV J,ab5 (⟨#[123,125]⟩:Bt),.func (.func 256) #[.pointer L] #[]] f (λA B=>A=.tuple #[]/\R (.tuple #[]) B))/\((g==6)=Tc->∃C,L=Td C/\∃D,zd f (zab (ab7 h) 1)=Td (ab5 D)/\ab3 68 #[.pointer (Td (zab C 0)),ab5 D] f (λE F=>∃G,∃I:Value,E=.tuple #[iV G,I]/\R (.tuple #[]) F)))))):ab3 201 #[.pointer L,.agg #[ab9 b,ab5 c,.slice d.a d.len d.cap,.slice e.a e.len e.cap],ab9 J] h R:=XF ⟨[(2,8000)],[],[]⟩ [] 42 func201 H
def Xx(k:Option n8)(s1:Bt)(h:zc)(R:vvv) (H:ab3 125 #[ab5 s1] h (λa b=>∃c d,a=.tuple #[ab5 c,iV d]/\∃e,k=Td e/\ab3 68 #[.pointer (Td (zab e 0)),ab5 c] b (λf g=>∃i,∃j:Value,f=.tuple #[iV i,j]/\R (.tuple #[]) g))):ab3 253 #[.pointer k,ab5 s1] h R:=XF ⟨[],[],[]⟩ [] 16 func253 H
def Sc(V:Option n8)(b:Int)(c:Bt)(d:Sl)(e:Sl)(P:Int)(Q:Bt)(S:n4)(U:ac2)(T:ac2)(h:zc)(R:vvv) (H:let f:=h.push (.cells #[iV b,ab5 c,aK d,aK e] 25);∃g,V=Td g/\(0<=(0:Int)/\(0:Int)<(Q.size:Int))/\ab3 133 #[.pointer (Td (zab g 0)),.int .u8 (zf Q (0:Int).toNat)] f (λi j=>∃k:Value,i=k/\∃l,zd j (zab (ab7 h) 3)=Td (aK l)/\∃(m:ac5) (n:ac7),m 0 j/\∀o:Int,∀p:zc,m o p->((ph (o<l.len)=Ta->∀q:zc->Prop,(∀r:zc,(ab3 307 #[.pointer V,iV (w6 (P+1))] r (λs t=>s=.tuple #[]/\∃u v w x,ze t (ab7 h) 0 (tL u v w x)/\zy Tp S=Ta/\ab3 S (U++#[tA u v w x,iV o,iV (w6 (P+1))]++T) t (λy z=>y=.tuple #[]/\(m (w6 (o+1)) z/\n (w6 (o+1)) z<n o p))))->q r)->(ph (o>0)=Ta->∃A,V=Td A/\ab3 133 #[.pointer (Td (zab A 0)),.int .u8 44] p (λB C=>∃D:Value,B=D/\q C))/\(ph (o>0)=Tc->q p))/\(ph (o<l.len)=Tc->∀E:zc->Prop,(∀F:zc,(∃G,V=Td G/\(0<=(1:Int)/\(1:Int)<(Q.size:Int))/\ab3 133 #[.pointer (Td (zab G 0)),.int .u8 (zf Q (1:Int).toNat)] F (λI J=>∃L:Value,I=L/\R (.tuple #[]) J))->E F)->∃M,zd p (zab (ab7 h) 3)=Td (aK M)/\(ph ((M.len:Int)>0)=Ta->ab3 307 #[.pointer V,iV P] p (λN O=>N=.tuple #[]/\E O))/\(ph ((M.len:Int)>0)=Tc->E p))))):ab3 254 #[.pointer V,.agg #[ab9 b,ab5 c,.slice d.a d.len d.cap,.slice e.a e.len e.cap],ab9 P,ab5 Q,.func (.func S) U T] h R:=XF ⟨[(1,8000),(12,8000)],[(3,[(20,.one (.int .i64))])],[(7,[]),(12,[])]⟩ [] 53 func254 H
def V5(r:Option n8)(b:Int)(c:Bt)(d:Sl)(e:Sl)(q:Int)(p:Int)(h:zc)(R:vvv) (H:let f:=h.push (.cells #[iV b,ab5 c,aK d,aK e] 25);∃g,zd f (zab (ab7 h) 3)=Td (aK g)/\∃i,(g.a=Td i/\0<=q/\q<g.len)/\∃j k l m,ze f (i.add (q.toNat*4)) 0 (tL j k l m)/\ab3 201 #[.pointer r,tA j k l m,iV p] f (λn o=>n=.tuple #[]/\R (.tuple #[]) o)):ab3 255 #[.pointer r,.agg #[ab9 b,ab5 c,.slice d.a d.len d.cap,.slice e.a e.len e.cap],ab9 q,ab9 p] h R:=XF ⟨[],[],[]⟩ [] 16 func255 H
def Xy(J:Option n8)(b:Int)(c:Bt)(d:Sl)(e:Sl)(I:Int)(G:Int)(h:zc)(R:vvv) (H:let f:=h.push (.cells #[iV b,ab5 c,aK d,aK e] 25);∃g,zd f (zab (ab7 h) 2)=Td (aK g)/\∃i,(g.a=Td i/\0<=I/\I<g.len)/\∃j,zd f (i.add (I.toNat*1))=Td (ab5 j)/\ab3 253 #[.pointer J,ab5 j] f (λk l=>k=.tuple #[]/\∃m,J=Td m/\ab3 133 #[.pointer (Td (zab m 0)),.int .u8 58] l (λn o=>∃p:Value,n=p/\∀q:zc->Prop,(∀r:zc,(∃s,zd r (zab (ab7 h) 3)=Td (aK s)/\∃t,(s.a=Td t/\0<=I/\I<s.len)/\∃u v w x,ze r (t.add (I.toNat*4)) 0 (tL u v w x)/\ab3 201 #[.pointer J,tA u v w x,iV G] r (λy z=>y=.tuple #[]/\R (.tuple #[]) z))->q r)->∃A,J=Td A/\∃B,zd o (zab A 2)=Td (ab8 B)/\(B=Ta->∃C,J=Td C/\ab3 133 #[.pointer (Td (zab C 0)),.int .u8 32] o (λD E=>∃F:Value,D=F/\q E))/\(B=Tc->q o)))):ab3 256 #[.pointer J,.agg #[ab9 b,ab5 c,.slice d.a d.len d.cap,.slice e.a e.len e.cap],ab9 I,ab9 G] h R:=XF ⟨[],[],[(5,[])]⟩ [] 35 func256 H
def MB(t:Option n8)(r:Int)(h:zc)(R:vvv) (H:∃a,t=Td a/\∃b,zd h (zab a 2)=Td (ab8 b)/\(b=Ta->∃c,t=Td c/\ab3 133 #[.pointer (Td (zab c 0)),.int .u8 10] h (λd e=>∃f:Value,d=f/\∃g,t=Td g/\∃i,t=Td i/\∃j,zd e (zab i 3)=Td (iV j)/\ab3 200 #[ab5 (⟨#[32]⟩:Bt),iV (w6 (j*r))] e (λk l=>∃m,k=.string m/\ab3 68 #[.pointer (Td (zab g 0)),ab5 m] l (λn o=>∃p,∃q:Value,n=.tuple #[iV p,q]/\R (.tuple #[]) o))))/\(b=Tc->R (.tuple #[]) h)):ab3 307 #[.pointer t,ab9 r] h R:=XF ⟨[(2,8000)],[],[]⟩ [] 23 func307 H
def P7(b:Int)(c:Bt)(d:Sl)(e:Sl)(h:zc)(R:vvv) (H:let f:=h.push (.cells #[iV b,ab5 c,aK d,aK e] 25);let g:=f.push (.cells tC 25);∃i j k l,ze g (ab7 h) 0 (tL i j k l)/\ab3 83 #[tA i j k l] g (λm n=>∃o,m=.bool o/\((!o)=Ta->CA Tp (zae 25 (ab6 (ab7 f)) (tZ)) n (λp=>∃q r s t,ze p (ab7 f) 0 (tL q r s t)/\R (tA q r s t) p))/\((!o)=Tc->∃u v w x,ze n (ab7 h) 0 (tL u v w x)/\ab3 101 #[tA u v w x] n (λy z=>∃A B C D,y=tA A B C D/\CA Tp (zae 25 (ab6 (ab7 f)) (tA A B C D)) z (λE=>∃F G I J,ze E (ab7 f) 0 (tL F G I J)/\R (tA F G I J) E))))):ab3 56 #[.agg #[ab9 b,ab5 c,.slice d.a d.len d.cap,.slice e.a e.len e.cap]] h R:=XF ⟨[],[],[]⟩ [.cell 2 25] 9 func56 H
def zmq(b:Int)(c:Bt)(d:Sl)(e:Sl)(h:zc)(R:vvv) (H:let f:=h.push (.cells #[iV b,ab5 c,aK d,aK e] 25);let g:=f.push (.cells tC 25);∃i,zd g (zab (ab7 h) 0)=Td (iV i)/\∃j,zd g (zab (ab7 h) 1)=Td (ab5 j)/\let k:=g.push (.cells tC 25);CA Tp (zae 25 (ab6 (ab7 g)) (.agg #[iV i,ab5 j,.slice Te 0 0,.slice Te 0 0])) k (λl=>∃m,zd l (zab (ab7 h) 0)=Td (iV m)/\((m != 6)=Ta->∃n,zd l (zab (ab7 h) 3)=Td (aK n)/\∃(o:ac5) (p:ac7),o 0 l/\∀q:Int,∀r:zc,o q r->((ph (q<n.len)=Ta->∃s,(n.a=Td s/\0<=q/\q<n.len)/\∃t u v w,ze r (s.add (q.toNat*4)) 0 (tL t u v w)/\let x:=r.push (.cells tC 25);CA Tp (zae 25 (ab6 (ab7 r)) (tA t u v w)) x (λy=>∃z,zd y (zab (ab7 g) 3)=Td (aK z)/\∃A B C D,ze y (ab7 r) 0 (tL A B C D)/\ab3 101 #[tA A B C D] y (λE F=>∃G I J L,E=tA G I J L/\hZ F y (zab (ab7 g) 3)/\let M:=F.push (.cells #[iV G,ab5 I,aK J,aK L] 25);hZ M y (zab (ab7 g) 3)/\qq Tp (zaj #[23,23] 23 #[aK z,.slice (Td (ab7 F)) 1 1]) M (λN O=>∃P,N=aK P/\CA Tp (zae 23 (.pointer (Td (zab (ab7 g) 3))) (aK P)) O (λQ=>(o (w6 (q+1)) Q/\p (w6 (q+1)) Q<p q r))))))/\(ph (q<n.len)=Tc->∃S T U V,ze r (ab7 g) 0 (tL S T U V)/\CA Tp (zae 25 (ab6 (ab7 f)) (tA S T U V)) r (λW=>∃X Y Z aa,ze W (ab7 f) 0 (tL X Y Z aa)/\R (tA X Y Z aa) W))))/\((m != 6)=Tc->∃ab ac ad ae,ze l (ab7 h) 0 (tL ab ac ad ae)/\ab3 142 #[tA ab ac ad ae] l (λaf ag=>∃ah:Option Nat,af=.map ah/\ab3 162 #[.map ah] ag (λai aj=>∃ak:Value,ai=ak/\ab3 161 #[ak] aj (λal am=>∃an,al=aK an/\CA Tp (zae 22 (.pointer (Td (zab (ab7 g) 2))) (aK an)) am (λao=>∃ap,zd ao (zab (ab7 g) 2)=Td (aK ap)/\∃(aq:ac5) (ar:ac7),aq 0 ao/\∀au:Int,∀av:zc,aq au av->((ph (au<ap.len)=Ta->∃aw,(ap.a=Td aw/\0<=au/\au<ap.len)/\∃ax,zd av (aw.add (au.toNat*1))=Td (ab5 ax)/\∃ay,zd av (zab (ab7 g) 3)=Td (aK ay)/\∃az aA aB aC,Bk Tp (zcy 144 (.map ah) (ab5 ax) Tc) av (tA az aA aB aC)/\hZ av av (zab (ab7 g) 3)/\ab3 101 #[tA az aA aB aC] av (λaD aE=>∃aF aG aH aI,aD=tA aF aG aH aI/\hZ aE av (zab (ab7 g) 3)/\let aJ:=aE.push (.cells #[iV aF,ab5 aG,aK aH,aK aI] 25);hZ aJ av (zab (ab7 g) 3)/\qq Tp (zaj #[23,23] 23 #[aK ay,.slice (Td (ab7 aE)) 1 1]) aJ (λaL aM=>∃aN,aL=aK aN/\CA Tp (zae 23 (.pointer (Td (zab (ab7 g) 3))) (aK aN)) aM (λaO=>(aq (w6 (au+1)) aO/\ar (w6 (au+1)) aO<ar au av)))))/\(ph (au<ap.len)=Tc->∃aP aQ aS aT,ze av (ab7 g) 0 (tL aP aQ aS aT)/\CA Tp (zae 25 (ab6 (ab7 f)) (tA aP aQ aS aT)) av (λaU=>∃aV aW aX aY,ze aU (ab7 f) 0 (tL aV aW aX aY)/\R (tA aV aW aX aY) aU)))))))))):ab3 101 #[.agg #[ab9 b,ab5 c,.slice d.a d.len d.cap,.slice e.a e.len e.cap]] h R:=XF ⟨[(6,8000),(14,8000)],[(4,[(20,.one (.int .i64))]),(12,[(42,.one (.int .i64))])],[]⟩ [.cell 2 25] 57 func101 H
def N2(b:Int)(c:Bt)(d:Sl)(e:Sl)(h:zc)(R:vvv) (H:let f:=h.push (.cells #[iV b,ab5 c,aK d,aK e] 25);∃g,zd f (zab (ab7 h) 2)=Td (aK g)/\let i:=f.push (.map #[] 0);∃j,zd i (zab (ab7 h) 2)=Td (aK j)/\∃(k:ac5) (l:ac7),k 0 i/\∀m:Int,∀n:zc,k m n->((ph (m<j.len)=Ta->∃o,(j.a=Td o/\0<=m/\m<j.len)/\∃p,zd n (o.add (m.toNat*1))=Td (ab5 p)/\∃q,zd n (zab (ab7 h) 3)=Td (aK q)/\∃r,(q.a=Td r/\0<=m/\m<q.len)/\∃s t u v,ze n (r.add (m.toNat*4)) 0 (tL s t u v)/\CA Tp (zct 144 (.map (Td f.size)) (ab5 p) (tA s t u v)) n (λw=>(k (w6 (m+1)) w/\l (w6 (m+1)) w<l m n)))/\(ph (m<j.len)=Tc->R (.map (Td f.size)) n))):ab3 142 #[.agg #[ab9 b,ab5 c,.slice d.a d.len d.cap,.slice e.a e.len e.cap]] h R:=XF ⟨[],[(3,[(13,.one (.int .i64))])],[]⟩ [.tmp 2] 27 func142 H
def znz(b:Int)(c:Bt)(d:Sl)(e:Sl)(h:zc)(R:vvv) (H:let f:=h.push (.cells #[iV b,ab5 c,aK d,aK e] 25);∃g i j k,ze f (ab7 h) 0 (tL g i j k)/\ab3 86 #[tA g i j k] f (λl m=>∃n,l=.bool n/\∃o p q r,(n=Ta->ze m (ab7 h) 0 (tL o p q r))/\∃s:vvv,(n=Ta->ab3 87 #[tA o p q r,.func (.func 88) #[] #[]] m (λt u=>∃v,t=.bool v/\s (ab8 v) u))/\(n=Tc->∃w,s (ab8 w) m)/\(n=Ta->∀x y,s x y->∃z,x=.bool z)/\∀A:Bool,∀B,s (ab8 A) B->R (ab8 (cond n A Tc)) B)):ab3 49 #[.agg #[ab9 b,ab5 c,.slice d.a d.len d.cap,.slice e.a e.len e.cap]] h R:=XF ⟨[],[],[]⟩ [.tmp 2] 9 func49 H
end
section
open Go.RowKit
section
variable {h:zc} {it:Nat} {K:Value -> zc -> Prop} {gl:Fr} {t:Bs}
def WB{P:EM}{s:Bt}{p:Nat}(e:h[it]?=Td (.stringIter s p)){T:Nw}(h1:p<s.size->K (.tuple #[ab8 Ta,ab9 (p:Int),.int .i32 (kI s p)]) (h.setIfInBounds it (.stringIter s (iQ s p))))(h0:s.size<=p->K (.tuple #[ab8 Tc]) h):qq P (zdz (ab6 ⟨it,0,Te⟩) Ta T) h K:=by
 have c:∀(w:Nd),w.heap[it]?=Td (.stringIter s p)->(getObj it).run P w=.ok (.stringIter s p) w:=λw e=>by simp[getObj,Sem.run,e]
 have f:∀(w:Nd) (b:Obj),w.heap[it]?=Td (.stringIter s p)->(setObj it b).run P w=.ok () { w with heap:=w.heap.setIfInBounds it b }:=λw b e=>by simp[setObj,Sem.run,e]
 intro B d;by_cases hb:p<s.size;have j:iX s p=Ta:=by simpa[iX,Nat.blt_eq]using hb
 have i:iQ s p=p+(zfa s p).2:=by unfold iQ;rw[show Nat.blt p s.size=Ta from j];rfl
 refine⟨_,d,_,?_,h1 hb⟩;unfold zdz;simp only;rw[DM,c (mk B d h) e];simp only[Result.andThen_ok,hb,if_true];rw[DM,f (mk B d h) _ e,i];rfl;refine⟨_,d,h,?_,h0 ω⟩;unfold zdz;simp only;rw[DM,c (mk B d h) e];simp;omega
theorem Bld.other{h h':zc}{b:Nat}{l:Bs}(H:Bld h b l){s:Bt}{p:Nat}(e:h[it]?=Td (.stringIter s p))(f:∀i,i≠it->h'[i]?=h[i]?):Bld h' b l:=by have⟨q,r,t,m,j⟩:=H;refine⟨q,r,?_,m,j.ab0 λa o=>?_⟩;grind;refine f _ λhb=>?_;obtain⟨n,_⟩|⟨g,cap,c,n,_,k,_⟩:=j.2;simp_all;have k:h[g]?=Td (.cells c 5 (0,0)):=k;simp_all
theorem Bld.zero(h:zc):Bld (h.push (.cells #[.pointer Te,.slice Te 0 0] 89)) h.size []:= ⟨Te,⟨Te,0,0⟩,ye _ _,.inl rfl,Fd.nil _ _ _ _⟩
def QO{r:Nat}(t:r<=1114111)(j:K (.int .u8 (kv r:Int)) h):ab3 197 #[.int .i32 (r:Int)] h K:=by
 apply XU;intro m f;have c:∀n:Nat,((r:Int)==(n:Int))=ph (r=n):=λn=>η
 have l:((r:Int)==34)=ph (r=34):=c 34;have k:((r:Int)==92)=ph (r=92):=c 92;have u:((r:Int)==8)=ph (r=8):=c 8;have q:((r:Int)==12)=ph (r=12):=c 12;have p:((r:Int)==10)=ph (r=10):=c 10;have o:((r:Int)==13)=ph (r=13):=c 13;have w:((r:Int)==9)=ph (r=9):=c 9;unfold kv at j;have fin:∀b:Bool,(b=Ta↔r=34\/r=92)->m b h:=λb hb=>by
  refine f _ _ ⟨λi=>?_,λi=>?_⟩;rw[zA (hb.1 i)]at j;have e:zaa .u8 (r:Int)=(r:Int):=by obtain rfl|rfl:=hb.1 i <;> rfl
  grind;grind
 grind
def Tj{c:Nat}(b:c<32):[92,117]++Lib.repeatL [48] (4-(ic c).length)++ic c=[92,117,48,48,zcl (48+c / 16),yP (c % 16)]/\((ic c).length=1\/(ic c).length=2):=by
 have:(za7 32).all (λc=>decide ([92,117]++Lib.repeatL [48] (4-(ic c).length)++ic c=[92,117,48,48,zcl (48+c / 16),yP (c % 16)]/\((ic c).length=1\/(ic c).length=2)))=Ta:=κ
 simp_all
def Fs(hg:GL gl)(ht:t.length<=1048576){M:Fr}(hM:Fr.le gl M)(hb:Brn M)(ag:AgM M h)(T:∀h',BT h.size h h'->K (.tuple #[ab5 (bl (io t).1),ab9 (io t).2]) h'):ab3 125 #[ab5 (bl t)] h K:=by
 apply YN
 refine(yJ hg.tabs (l:=t) ω (R:=λr=>r.2=Q2 t) λk=>rfl).go hM ag (zo (a:=up .str _) (GE _) qc) λv h2 M2 r L2 N hr=>?_
 have⟨n,is⟩:=r
 have hr:is=Q2 t:=hr
 subst hr
 obtain⟨_,⟨u1,_,rfl,aA,u2,rfl,y⟩,rfl⟩:=N
 obtain rfl:=Zu aA
 have y:u2=.bool (Q2 t):=by rw[J1 rfl]at y;simpa[Rd]using y
 subst y
 refine⟨_,_,rfl,?_⟩
 unfold io at T
 refine⟨λf=>?_,λf=>?_⟩
 ·have:Q2 t=Tc:=ψ f
  rw[this]at T
  exact T h2 L2.ab0
 have hu:Q2 t=Ta:=ψ f
 rw[zA hu]at T
 intro h5
 have⟨k5,z5,_⟩:=jo (g:=h5) rfl
 have B5:Bld h5 h2.size []:=Bld.zero h2
 clear_value h5
 have z2:=L2.ab0.size
 refine Y3 B5 ξ 34 λo B7 k7 i7=>⟨_,rfl,?_⟩
 have z7:h2.size<o.size:=B7.lt
 intro A
 have k9:BT o.size o A:=ur _ _ (zac _)
 have z9:A.size=o.size+1:=zau _
 have B9:Bld A h2.size [34]:=B7.ab0 k9
 have e9:A[o.size]?=Td (.stringIter (bl t) 0):=ye _ _
 clear_value A
 have L:BT h.size h A:=⟨ω,λj F=>by rw[k9.get j ω,k7.get j ω,k5.get j ω,L2.ab0.get j F]⟩
 refine⟨λg=>∃p,p<=DB t/\Bld g h2.size (34::hY (t.take p))/\g[o.size]?=Td (.stringIter (bl t) p)/\Q2 (t.drop p)=Ta/\BT h2.size A g,λg=>match g[o.size]? with
  |some (.stringIter _ p)=>DB t-p
  |_=>0,⟨0,ω,B9,e9,hu,BT.refl _ _⟩,?_⟩
 rintro g ⟨p,hp,Bg,eg,H,kg⟩
 have aV:(hY (t.take p)).length<=6*DB t:=by
  have:=uK (t.take p)
  rw[zbt]at this;omega
 refine WB eg (λO=>.inr ⟨_,_,rfl,λ_=>?_,λf=>(ε f)⟩) (λu=>.inl ⟨rfl,λf=>(ε f),λ_=>?_⟩)
 ·-- a rune more
  rw[zn]at O
  have Z:t.drop p≠[]:=by intro e;rw[List.drop_eq_nil_iff]at e;omega
  have C:jK (dec (t.drop p))=Tc:=by
   rw[Wm Z]at H
   cases hbd:jK (dec (t.drop p))with
   |true=>simp_all
   |false=>rfl
  have I:Q2 (t.drop (p+(dec (t.drop p)).2))=Ta:=by
   rw[Wm Z,C]at H
   rw[<-zeb];simpa using H
  have hq:=PE Z C
  have hw:=Qt (t.drop p)
  have V:=xI Z
  rw[zcw]at V
  have E:=XQ (t.drop p)
  have q:hY (t.take (p+(dec (t.drop p)).2))=hY (t.take p)++pU (dec (t.drop p)).1:=by
   rw[<-hq,<-FE,List.take_add]
  rw[vU,tv t p O]
  generalize hr:(dec (t.drop p)).1=r at E q ⊢
  generalize hn:(dec (t.drop p)).2=n at hw V I q ⊢
  have ax:o.size<g.size:=(zaq.1 eg).1
  generalize D:g.setIfInBounds o.size (.stringIter (bl t) (p+n))=h14
  have J:∀i,i≠o.size->h14[i]?=g[i]?:=λi hi=>η
  have aa:h14[o.size]?=Td (.stringIter (bl t) (p+n)):=by rw[<-D,Array.getElem?_setIfInBounds_self_of_lt ax]
  have aO:h14.size=g.size:=by rw[<-D];simp
  have z:=Bg.other eg J
  have Q:BT h2.size A h14:=⟨ω,λj F=>by rw[J j ω];exact kg.get j F⟩
  have fin:∀g':zc,Bld g' h2.size (34::hY (t.take p)++pU r)->BT h2.size h14 g'->Itk h14 g'->(∃p,p<=DB t/\Bld g' h2.size (34::hY (t.take p))/\g'[o.size]?=Td (.stringIter (bl t) p)/\Q2 (t.drop p)=Ta/\BT h2.size A g') /\
    (match g'[o.size]? with|some (.stringIter _ p)=>DB t-p|_=>0)<(match g[o.size]? with|some (.stringIter _ p)=>DB t-p|_=>0):=λg' B' k' i'=>by
   have e':=i' _ _ _ aa
   refine⟨⟨p+n,ω,η,e',I,Q.trans k' (zac _)⟩,?_⟩
   grind
  have aG:(34::hY (t.take p)).length=(hY (t.take p)).length+1:=rfl
  unfold pU at fin
  refine QO E ⟨_,rfl,λf=>?_,λf=>?_⟩
  ·have h0:kv r≠0:=by intro e;rw[e]at f;simp at f
   rw[zA h0]at fin
   have Y:kv r<256:=by
    unfold kv
    repeat' split
    all_goals omega
   have e8:((zcl (kv r)).toNat:Int)=(kv r:Int):=by rw[UInt8.toNat_ofNat'];omega
   refine Y3 z ω 92 λaH af aD aB=>⟨_,rfl,?_⟩
   rw[<-e8]
   refine Y3 af φ (zcl (kv r)) λay aI an aC=>⟨_,rfl,?_⟩
   refine fin ay ?_ (aD.trans an (zac _)) (aB.trans aC)
   simp_all
  ·have h0:kv r=0:=by
    have:((kv r:Int) != 0)=Tc:=f
    simpa using this
   rw[zv ω]at fin
   refine⟨λu=>?_,λb=>?_⟩
   ·have u:32<=r:=χ (zH u)
    rw[zA u]at fin
    refine Tt z ω ω ω λaJ m aP aT aN=>⟨_,_,rfl,?_⟩
    grind
   ·have b:r<32:=χ (zI b)
    rw[zv ω]at fin
    have⟨al,aY⟩:=Tj b
    rw[fK ω]
    have S:BT h.size h h14:=⟨ω,λj F=>by rw[Q.get j ω,L.get j F]⟩
    have B:AgM M h14:=ag.ab0 S
    refine Rf b hb B λaS w=>⟨_,rfl,?_⟩
    have aE:(ic r).length<=4:=ω
    rw[zn,fK ω,show(4:Int)-((ic r).length:Int)=((4-(ic r).length:Nat):Int)from ω]
    refine(AM (gl:=gl) (s:=bl [48]) (c:=4-(ic r).length) ω (by rw[zn];simp;omega) (R:=λx=>x=bl (Lib.repeatL [48] (4-(ic r).length))) (by rw[Zn])).go hM (B.ab0 w) (zo (a:=up .str _) (GE _) (zo (a:=up PJ _) (Q9 _ _) qc)) λv ar aM x G N f=>?_
    subst f
    have N:=w5 (Qr.1 N)
    have ae:=Lib.repeatL_length [48] (4-(ic r).length)
    have hz:(Lib.repeatL [48] (4-(ic r).length)).length<=4:=υ ae
    refine⟨_,N,?_,?_,?_⟩
    ·show qg ((bl [92,117]).size+(bl (Lib.repeatL [48] (4-(ic r).length))).size)
     unfold qg
     rw[zn,zn];grind
    ·show qg ((bl [92,117]++bl (Lib.repeatL [48] (4-(ic r).length))).size+(bl (ic r)).size)
     unfold qg
     rw[qo,zn,zn,zah];grind
    ·have e:((⟨#[92,117]⟩:Bt)++bl (Lib.repeatL [48] (4-(ic r).length)))++bl (ic r)=bl ([92,117]++Lib.repeatL [48] (4-(ic r).length)++ic r):=by
      show(bl [92,117]++bl (Lib.repeatL [48] (4-(ic r).length)))++bl (ic r)=_
      rw[qo,qo]
     rw[e,al]
     have aU:=w.size
     have aj:=(z.ab0 w).ab0 G.ab0
     have az:Itk h14 ar:=(Itk.ab0 w).trans (Itk.ab0 G.ab0)
     have aF:=z.lt
     refine EA aj _ η λai ac au ak=>⟨_,_,rfl,?_⟩
     exact fin ai ac (((w.mono (m:=h2.size) ω).trans (G.ab0.mono (m:=h2.size) ω) (zac _)).trans au (zac _)) (az.trans ak)
 ·rw[zn]at u
  have am:p=DB t:=ω
  subst am
  rw[za2]at Bg
  refine Y3 Bg η 34 λaL ab P aQ=>⟨_,rfl,?_⟩
  refine Dz ab λah U=>⟨_,rfl,?_⟩
  refine T ah ⟨?_,λj F=>?_⟩
  ·have:=kg.size;have:=P.size;have:=U.size;omega
  ·rw[U.get j ω,P.get j ω,kg.get j ω,L.get j F]
def G8(i:GL gl)(hb:Brn gl)(f:t.length<=1048576){R:Bt×Int->Prop}(e:R (bl (io t).1,(io t).2)):ab4 gl 125 [up .str (bl t)] [.str,.int .i64] R:=by
 intro h M vs b ag c
 match vs,c with
 |[u1],⟨a1,_⟩=>obtain rfl:=w5 (s:=bl t) a1;apply PX.of;exact Fs i f b (hb.mono b) ag λh' k=>⟨M,_,At.same ag k,⟨[_,_],⟨_,_,rfl,GE _,_,rfl,Q9 _ _⟩,rfl⟩,e⟩
end
section
variable {b:Nat} {g g':zc} {K:Value -> zc -> Prop}
structure FrP (b:Nat) (g g':zc):Prop where
 ab0:BT b g g'
 oth:Otk g g'
theorem FrP.refl(b:Nat)(g:zc):FrP b g g:=⟨BT.refl _ _,λi o e _=>e⟩
theorem FrP.trans{g g' c:zc}(h:FrP b g g')(k:FrP b g' c):FrP b g c:=⟨h.ab0.trans k.ab0 (zac _),h.oth.trans k.oth⟩
theorem FrP.ab2(k:BT g.size g g')(hb:b<=g.size):FrP b g g':=⟨k.mono hb,Otk.ab0 k⟩
theorem FrP.blk(h:FrP b g g'){c:Nat}{cs:ac2}(e:g[c]?=Td (.cells cs 25 (0,0))):g'[c]?=Td (.cells cs 25 (0,0)):=h.oth c _ e rfl
structure Low (gl M:Fr) (b:Nat) (g:zc):Prop where
 hM:Fr.le gl M
 ag:AgM M g
 low:∀c cs,M c=Td cs->c<b
theorem Low.frp{gl M:Fr}(L:Low gl M b g)(f:FrP b g g'):Low gl M b g':=⟨L.hM,λc cs e=>by rw[f.ab0.get c (L.low c cs e)];exact L.ag c cs e,L.low⟩
theorem SW(b:Nat):zab ⟨b,0,Te⟩ 0=⟨b,0,Te⟩:=rfl
section
variable {gl M : Fr} {b N : Nat} {ln : Bool} {l : Bs} {g : zc}
def UH(i:GL gl)(hb:Brn gl)(H:Prn g b ln (N:Int) l)(L:Low gl M b g){t:Bs}(j:t.length<=1048576)(c:l.length+(io t).1.length<=140737488355328)(n:∀g',Prn g' b ln (N:Int) (l++(io t).1)->FrP b g g'->K (.tuple #[]) g'):ab3 253 #[ab6 ⟨b,0,Te⟩,ab5 (bl t)] g K:=by apply Xx;refine Fs i j L.hM (hb.mono L.hM) L.ag λh' k=>⟨_,_,rfl,_,rfl,?_⟩;rw[SW];have f:=FrP.ab2 k (zer H.lt);refine Jp (H.ab0 k) _ c λe h o m=>⟨_,_,rfl,n e h (f.trans ⟨o,m⟩)⟩
def Ip(h:GL gl)(hb:Brn gl)(H:Prn g b ln (N:Int) l)(L:Low gl M b g){s:Bt}(f:(lb s).length<=1048576)(c:l.length+(io (lb s)).1.length<=140737488355328)(e:∀g',Prn g' b ln (N:Int) (l++(io (lb s)).1)->FrP b g g'->K (.tuple #[]) g'):ab3 253 #[ab6 ⟨b,0,Te⟩,ab5 s] g K:=by have:=UH h hb H L (t:=lb s) f c e;rw[Xl]at this;exact this
def I7(H:Prn g b ln (N:Int) l)(L:Low gl M b g){lv:Nat}(U:N<=8)(w:lv<=100)(C:l.length+(Zx ln N lv).length<=140737488355328)(j:∀g',Prn g' b ln (N:Int) (l++Zx ln N lv)->FrP b g g'->K (.tuple #[]) g'):ab3 307 #[ab6 ⟨b,0,Te⟩,ab9 (lv:Int)] g K:=by
 apply MB;have⟨p,s,e,z,A⟩:=H;refine⟨_,rfl,ln,Blk.ab1 (o:=0) (k:=2) (cs:=#[.pointer p,aK s,ab8 ln,ab9 (N:Int)]) ⟨_,e⟩ rfl,λf=>?_,λf=>?_⟩;subst f;unfold Zx at C j;simp only[if_true,za1,zd1]at C j;refine⟨_,rfl,?_⟩;rw[SW];refine Yl (b:=b) (nd:=(N:Int)) ⟨p,s,e,z,A⟩ ω 10 λO r P I=>⟨_,rfl,_,rfl,_,rfl,?_⟩;have t:=r;have⟨E,V,F,G,J⟩:=t;have D:FrP b g O:=⟨P,I⟩;have y:=L.frp D;have B:N*lv<=800:=zb8 (zcg U w) ω;refine⟨(N:Int),Blk.ab1 (o:=0) (k:=3) (cs:=#[.pointer E,aK V,ab8 Ta,ab9 (N:Int)]) ⟨_,F⟩ rfl,?_⟩;rw[show((N:Int)*(lv:Int))=((N*lv:Nat):Int)from by rw[Int.natCast_mul],fK ω];refine(AM (gl:=gl) (s:=bl [32]) (c:=N*lv) ω (by rw[zn];simp;omega) (R:=λx=>x=bl (zcr (N*lv) 32)) (by rw[Zn,Hu])).go y.hM y.ag (zo (a:=up .str _) (GE _) (zo (a:=up PJ _) (Q9 _ _) qc)) λv Q T x i w S=>?_;subst S;refine⟨_,w5 (Qr.1 w),?_⟩;have u:=FrP.ab2 i.ab0 (zer r.lt);rw[SW];refine Jp (r.ab0 i.ab0) _ (by simp only[zah,za1,zbx,zd1];omega) λm h q n=>⟨_,_,rfl,?_⟩;refine j m ?_ ((D.trans u).trans ⟨q,n⟩);rw[za3]at h;exact h;subst f;refine j g ?_ (FrP.refl _ _);have:l++Zx Tc N lv=l:=by unfold Zx;simp
 rw[this];exact⟨p,s,e,z,A⟩
end
end
section
def Bc:JT Tp 22 9 (ab5 ⟨#[]⟩) (sz .str) 16:=⟨κ,⟨Tryz.t9,κ,κ,κ,κ⟩,rfl,ζ⟩
section
variable {lo : Nat} {g : zc} {M gl : Fr} {bp : Nat} {s : Bs} {a e : Int} {O : Nat -> Prop} {K : Value -> zc -> Prop}
end
end
section
def jI{M:Fr}{T:Ty}:Rd M (.row T) [] [aK ⟨Te,0,0⟩]:=⟨_,rfl,Te,0,rfl,⟨ξ,ξ⟩,.inl rfl⟩
end
end
section
open Go.Lib
def MK{v:Tr}(h:wm v=Ta):cK v<=4096:=by unfold wm xa at h;grind
def zT:Tr:=.mk 0 ⟨#[]⟩ [] []
end
end Go.X
namespace Go.X.U
section
def oM(o:n9):Option Bool:=match o.op with
 |.fieldAddr _ _ _=>Td Ta
 |.indexAddr _ _ _=>Td Ta
 |.move _=>Td Ta
 |.assign _=>Td Ta
 |.load _ _=>Td Tc
 |.binOp _ _ _ _ _=>Td Ta
 |.call c=>match c.callee with
  |.builtin .len=>Td Ta
  |_=>Te
 |_=>Te
def sF(o:n9):Bool:=match oM o with
 |some _=>Ta
 |none=>Tc
def ji(o:n9):Bool:=match oM o with
 |some b=>!b
 |none=>Tc
end
end Go.X.U
namespace Go.X
section
def AX{gl:Fr}(J:GL gl){v:Tr}(B:Sm v)(F:wm v=Ta){h:zc}{M:Fr}{u:Value}(D:Fr.le gl M)(ag:AgM M h)(A:RdV M .tree v u){K:vvv}(N:∀(h':zc) (bs:ac0) (sk si:Sl),BT h.size h h'->OT h' v bs (zl v.aa6 v.aa9 sk si)->(∀b∈bs,h.size<=b)->K (.agg #[ab9 v.aa6,ab5 v.aa9,aK sk,aK si]) h'):ab3 90 #[u] h K:=by have k:=A;obtain⟨sk,si,rfl,Q,U⟩:=qh A;apply RJ v.aa6 v.aa9 sk si;intro h1 h2;have P:h1.size=h.size+1:=zau _;have z2:h2.size=h1.size+1:=zau _;have I:BT h.size h h1:=ur _ _ (zac _);have k2:BT h1.size h1 h2:=ur _ _ (zac _);have b1:Blk h1 h.size (zl v.aa6 v.aa9 sk si).toArray:=Blk.new _ _ _;have b2:Blk h2 h1.size (zl 0 ⟨#[]⟩ ⟨Te,0,0⟩ ⟨Te,0,0⟩).toArray:=Blk.new _ _ _;clear_value h1 h2;have o:BT h.size h h2:=I.trans k2 ω;have t:=ag.ab0 o;refine⟨v.aa6,v.aa9,sk,si,(b1.ab2 k2).ld (cs:=zl v.aa6 v.aa9 sk si),?_⟩;have c:ab4 gl 83 [up .tree v] [.bool] (λr=>r=wm v):=vQ J B rfl;refine c.go (vs:=[.agg #[ab9 v.aa6,ab5 v.aa9,aK sk,aK si]]) D t (zo k qc) λw G T r l j x=>?_;have x:r=wm v:=x;refine⟨r,Jb j,λp=>?_,λp=>?_⟩;rw[x,F]at p;cases p;refine⟨v.aa6,v.aa9,sk,si,((b1.ab2 k2).ab2 l.ab0).ld (cs:=zl v.aa6 v.aa9 sk si),?_⟩;have f:BT h.size h G:=o.trans l.ab0 (χ o.size);refine(MS (cK v) v (zac _) B (ag.ab0 f) k).mono ?_;rintro w' h4 ⟨q,bs,n,m,rfl,H,e⟩;have z3:=l.ab0.size;have O:=q.size;refine⟨v.aa6,v.aa9,n,m,rfl,?_⟩;refine xm (((b2.ab2 l.ab0).ab2 q)) rfl _ _ _ _ λC b5 S z=>?_;have L:BT h.size h C:=⟨χ f.size,λi hi=>by rw[z i ω,q.get i (χ f.size)];exact f.get i hi⟩;have y:=H.frame λb hb=>z b (χ (e b hb));have E:=f.size;exact⟨v.aa6,v.aa9,n,m,b5.ld (cs:=zl v.aa6 v.aa9 n m),N C bs n m L y λb hb=>χ (e b hb)⟩
theorem OT.zero(h:zc):OT h zT [] (zl 0 ⟨#[]⟩ ⟨Te,0,0⟩ ⟨Te,0,0⟩):= OT.mk (k:=0) (s:=⟨#[]⟩) (ks:=[]) (xs:=[]) (sk:=⟨Te,0,0⟩) (si:=⟨Te,0,0⟩) (bk:=[]) (bb:=[]) (b:=0) (cs:=#[]) (bf:=λ_=>[]) ⟨rfl,ξ,ξ,.inl ⟨rfl,rfl,rfl⟩⟩ ⟨rfl,ξ,ξ⟩ (.inl ⟨rfl,rfl,rfl⟩) (λi hi=>absurd hi ξ) ξ
end
end Go.X
