/- A part of the proof: nothing is stated here for its own sake. -/
import Derived.Test.YtjohlemfgcmaoaaGreatDoorPqA
import Derived.Laws.StructEq
import Derived.Deep.AppendSrc
import Derived.Laws.BytesString
open _root_.Go.Addr renaming add->Ai
open _root_.Array renaming getD_eq_getD_getElem?->BB,getElem?_eq_some_iff->Ad,getElem?_push->BV,getElem?_setIfInBounds_ne->AC,length_toList->CM,range->Ex,size_setIfInBounds->AU,toList_map->C6
open _root_.Bool renaming false_eq_true->A5,true_and->BZ
open _root_.Go.Builtin renaming append_->AB,firstCells->CQ,len_->DK
open _root_.Go.Code renaming region->Eo
open _root_.Go.Deferred renaming ofValue->DL
open _root_.Go.Instr renaming fill->EA,indexAt->Ek,loadAt->DJ,next->Dm,range->Ev,sliceAt->DZ,storeAt->An,sureAddr->Dh
open _root_.List renaming append_assoc->AM,append_nil->A3,cons_append->AE,drop_drop->Bj,drop_eq_getElem_cons->Ba,drop_eq_nil_of_le->BL,drop_left->DD,drop_zero->Cc,eq_nil_of_length_eq_zero->AO,ext_getElem?->BC,getElem?_append_left->Bv,getElem?_append_right->Bi,getElem?_drop->AQ,getElem?_eq_getElem->Aq,getElem?_eq_none->BS,getElem?_eq_some_iff->AF,getElem?_map->BN,getElem?_take->AL,getElem_append_left->De,getElem_append_right->Db,getElem_map->DR,getElem_of_mem->Cj,length_append->Ag,length_cons->Ap,length_drop->AI,length_map->AH,length_nil->AZ,length_take->Bb,mapM_cons->Ef,map_cons->Az,mem_append->Aw,mem_append_left->Ar,mem_append_right->Ay,mem_cons->Af,mem_cons_of_mem->Ae,mem_cons_self->Aj,nil_append->A8,pairwise_append->CE,pairwise_cons->BH,size_toArray->Dx,take_append_drop->BQ,take_left->CH,take_length->AW,take_of_length_le->Ct,take_succ_eq_append_getElem->Av
open _root_.List.cons renaming injEq->BM
open _root_.Nat renaming add_assoc->Dv,add_mul->BU,blt_eq->Cu,eq_of_beq_eq_true->Ah,eq_zero_or_pos->Do,le_mul_of_pos_right->Dk,le_of_ble_eq_true->BR,le_refl->Ac,le_trans->CV,lt_of_lt_of_le->C7,lt_or_ge->A1,mul_comm->CJ,mul_le_mul_right->AP,mul_one->Cw,one_mul->DF,succ_mul->C4,zero_add->AK,zero_le->Cv,zero_mul->Dp
open _root_.Go.Next renaming value->Dl
open _root_.Go.Op renaming equal->Eu
open _root_.Option renaming bind_some->CP,map_eq_some_iff->Cs,map_some->D6
open _root_.Option.some renaming inj->Au,injEq->Ab
open _root_.Prod.mk renaming injEq->Be
open _root_.Pure renaming pure->Dc
open _root_.Go.Region renaming wanted->Bu
open _root_.UInt8 renaming ofNat->A4
open _root_.Go.Utf8 renaming decode->Ew,encode->Ep
open _root_.Go.Value renaming int->Ey
open _root_.Go.Value.slice renaming injEq->AX
set_option linter.unusedVariables false
set_option maxRecDepth 100000
namespace Go.X
end Go.X
namespace Go.Proofs
end Go.Proofs
open Go Go.X Go.Proofs
section
namespace Go.X
section
variable {M M':Fr} {h h':za} {b c o n0:Nat} {γ γ':Gh} {us:List Value} {u:Value} {t:Ty} {cs C R:CS} {e:TypeId}
def AgM(M:Fr)(h:za):Prop:=∀b c,M b=some c->∃T m,h[b]?=some (.cells c T m)
theorem AgM.lt(H:AgM M h){c:Array Value}(e:M b=some c):b<h.size:=by
 obtain⟨T,m,e'⟩:=H b c e;exact(Ad.1 e').1
theorem AgM.none{M:Fr}{h:za}(H:AgM M h){b:Nat}(hb:h.size<=b):M b=none:=by
 cases e:M b with
 |none=>rfl
 |some c=>have:=H.lt e;omega
theorem AgM.cell(H:AgM M h){c:Array Value}{v:Value}(e:M b=some c)(hv:c[o]?=some v):zc h ⟨b,o,Option.none⟩=some v:=by
 obtain⟨T,m,e'⟩:=H b c e
 unfold zc;simp[e',hv]
def Gx(c:Option Nat)(γ γ':Gh):Prop:=Fr.le γ.M γ'.M/\∀i,c≠some i->γ'.β i=γ.β i/\γ'.σ i=γ.σ i
theorem Gx.refl(c:Option Nat)(γ:Gh):Gx c γ γ:=⟨Fr.le.refl _,λ_ _=>⟨rfl,rfl⟩⟩
def zwf(c:Nat):AA->Bool
 |.box j _=>Nat.beq j c
 |.own j=>Nat.beq j c
 |.oelt j _ _ _=>Nat.beq j c
 |_=>false
def zn0(c:Nat):List AA->Bool
 |[]=>false
 |x::l=>bif zwf c x then true else zn0 c l
def zek(c:Nat):Ch->Bool
 |.box l=>zn0 c l
 |_=>false
def qc9(c:Nat):AG->Bool
 |.a x=>zwf c x
 |.agg l=>zn0 c l
def z4n(c:Nat):List AG->Bool
 |[]=>false
 |x::l=>bif qc9 c x then true else z4n c l
def zyx(c:Nat):AV->Bool
 |.g x=>qc9 c x
 |.tup l=>z4n c l
 |.nx _ _ _=>false
def zyy{α:Type}(f:Nat->α->Bool):Option Nat->α->Bool
 |none,_=>false
 |some c,x=>f c x
theorem zol{j c:Nat}(h:Nat.beq j c=false):some c≠some j:=by
 intro e;simp only[Ab]at e;subst e;simp at h
theorem DenA.gx{c:Option Nat}(g:Gx c γ γ'):∀{x:AA} {u:Value},zyy zwf c x=false->DenA γ x u->DenA γ' x u
 |.v _,_,_,h=>h
 |.d _ _,_,_,h=>Rd.mono g.1 h
 |.box j o,u,hm,h=>by
  have:c≠some j:=by cases c with|none=>simp|some c=>exact zol hm
  rw[show u=_ from h];simp only[DenA,(g.2 j this).1]
 |.own j,u,hm,h=>by
  have:c≠some j:=by cases c with|none=>simp|some c=>exact zol hm
  rw[show u=_ from h];simp only[DenA,(g.2 j this).2]
 |.oelt j z i o,u,hm,h=>by
  have:c≠some j:=by cases c with|none=>simp|some c=>exact zol hm
  obtain⟨b,e1,e2⟩:=h
  exact⟨b,by rw[(g.2 j this).2];exact e1,e2⟩
 |.elt _ _ _,_,_,⟨b,f,cs,e,h1,h2⟩=>⟨b,f,cs,e,g.1 _ _ h1,Rd.mono g.1 h2⟩
 |.dc _ _,_,_,⟨s,e1,e2,h⟩=>⟨s,e1,e2,Rd.mono g.1 h⟩
theorem z4o{l:List AA}(h:zn0 c l=false):∀x∈l,zwf c x=false:=by
 induction l with
 |nil=>intro x hx;cases hx
 |cons y l ih=>
  intro x hx
  simp only[zn0]at h
  cases hy:zwf c y with
  |true=>simp[hy]at h
  |false=>
   simp only[hy,cond_false]at h
   rcases Af.1 hx with rfl|hx
   ·exact hy
   ·exact ih h x hx
theorem DenL.gx{c:Option Nat}(g:Gx c γ γ'){l:List AA}(hm:zyy zn0 c l=false)(h:All2 (DenA γ) l us):All2 (DenA γ') l us:=
 h.imp λx hx u hu=>DenA.gx g (by cases c with|none=>rfl|some c=>exact z4o hm x hx) hu
theorem DenG.gx{c:Option Nat}(g:Gx c γ γ'){x:AG}(hm:zyy qc9 c x=false)(h:DenG γ x u):DenG γ' x u:=by
 cases x with
 |a x=>exact DenA.gx g (by cases c <;> exact hm) h
 |agg l=>obtain⟨us,e,h⟩:=h;exact⟨us,e,DenL.gx g (by cases c <;> exact hm) h⟩
theorem zyz{l:List AG}(h:z4n c l=false):∀x∈l,qc9 c x=false:=by
 induction l with
 |nil=>intro x hx;cases hx
 |cons y l ih=>
  intro x hx
  simp only[z4n]at h
  cases hy:qc9 c y with
  |true=>simp[hy]at h
  |false=>
   simp only[hy,cond_false]at h
   rcases Af.1 hx with rfl|hx
   ·exact hy
   ·exact ih h x hx
theorem DenV.gx{c:Option Nat}(g:Gx c γ γ'){x:AV}(hm:zyy zyx c x=false)(h:DenV γ x u):DenV γ' x u:=by
 cases x with
 |g x=>exact DenG.gx g (by cases c <;> exact hm) h
 |tup l=>
  obtain⟨us,e,h⟩:=h
  exact⟨us,e,h.imp λx hx u hu=>DenG.gx g (by cases c with|none=>rfl|some c=>exact zyz hm x hx) hu⟩
 |nx b p c=>exact h
def RowC(M:Fr)(t:Ty)(xs:List (El t))(cells:List Value):Prop:=
 cells.length=xs.length*sz t/\∀i (h:i<xs.length),Rd M t xs[i] ((cells.drop (i*sz t)).take (sz t))
theorem RowC.mono(hM:Fr.le M M'){xs:List (El t)}{cells:List Value}(H:RowC M t xs cells):RowC M' t xs cells:=⟨H.1,λi h=>Rd.mono hM (H.2 i h)⟩
theorem RowC.nil(M:Fr)(t:Ty):RowC M t [] []:=⟨by simp,λi h=>absurd h (by simp)⟩
theorem RowC.single{x:El t}{cs:List Value}(h:Rd M t x cs):RowC M t [x] cs:=by
 have hl:=h.len
 refine⟨by simp[hl],λi hi=>?_⟩
 have:i=0:=by simpa using hi
 subst this
 simp only[Dp,Cc,List.getElem_cons_zero,<-hl,AW]
 exact h
theorem RowC.append{xs ys:List (El t)}{c1 c2:List Value}(h1:RowC M t xs c1)(h2:RowC M t ys c2):RowC M t (xs++ys) (c1++c2):=by
 refine⟨by rw[Ag,Ag,h1.1,h2.1,BU],λi hi=>?_⟩
 by_cases Z:i<xs.length
 ·rw[De Z]
  have ab:(i+1)*sz t<=c1.length:=by rw[h1.1];exact AP _ Z
  rw[BU,DF]at ab
  rw[List.drop_append_of_le_length (by omega),List.take_append_of_le_length (by rw[AI];omega)]
  exact h1.2 i Z
 ·have aa:xs.length<=i:=by omega
  rw[Db aa]
  have ae:i-xs.length<ys.length:=by rw[Ag]at hi;omega
  have:=h2.2 (i-xs.length) ae
  have e:(c1++c2).drop (i*sz t)=c2.drop ((i-xs.length)*sz t):=by
   rw[List.drop_append]
   have:c1.length<=i*sz t:=by rw[h1.1];exact AP _ aa
   rw[BL this,A8,h1.1,<-Nat.sub_mul]
  rw[e];exact this
theorem RowC.one{xs:List (El t)}{cells:List Value}(H:RowC M t xs cells):∀v∈cells,v.oneCell'=true:=by
 intro v hv
 obtain⟨j,hj,rfl⟩:=Cj hv
 have hz:0<sz t:=by
  rcases Do (sz t)with h|h
  ·rw[H.1,h,Nat.mul_zero]at hj;omega
  ·exact h
 have hi:j / sz t<xs.length:=by rw[H.1]at hj;exact Nat.div_lt_of_lt_mul (by rw[CJ];exact hj)
 refine Rd.one (H.2 _ hi) _ ?_
 rw[List.mem_iff_getElem?]
 refine⟨j % sz t,?_⟩
 rw[AL,if_pos (Nat.mod_lt _ hz),AQ,CJ,Nat.div_add_mod,Aq hj]
theorem RowC.rd{xs:List (El t)}{cells:List Value}(H:RowC M t xs cells){cs:Array Value}(hM:M b=some cs)(hc:(cs.toList.drop o).take (xs.length*sz t)=cells)(hn:xs.length<=140737488355328/\xs.length<=c):
  Rd M (.row t) xs [.slice (some ⟨b,o,none⟩) xs.length c]:=by
 refine⟨_,rfl,_,_,rfl,hn,.inr ⟨b,o,cs,rfl,hM,λi hi=>?_⟩⟩
 have:=H.2 i hi
 rw[<-hc]at this
 have Z:(i+1)*sz t<=xs.length*sz t:=AP _ hi
 rw[BU,DF]at Z
 have e:(((cs.toList.drop o).take (xs.length*sz t)).drop (i*sz t)).take (sz t)=cut cs (o+i*sz t) (sz t):=by
  unfold cut
  rw[List.drop_take,List.take_take,Bj,Nat.min_eq_left (by omega)]
 rw[e]at this
 exact this
theorem Rd.rowC(ag:AgM M h){xs:List (El t)}(H:Rd M (.row t) xs [u]):∃s:Sl,u=slV s/\s.len=xs.length/\(xs.length<=140737488355328/\xs.length<=s.cap)/\∃cells,RowC M t xs cells/\Arr h.size h s.a cells:=by
 obtain⟨v,e,a,c,rfl,hn,H⟩:=H
 cases e
 refine⟨⟨a,xs.length,c⟩,rfl,rfl,hn,?_⟩
 rcases H with rfl|⟨b,o,cs,rfl,hM,hi⟩
 ·exact⟨[],RowC.nil _ _,.inl rfl⟩
 ·have Z:xs=[]\/xs.length*sz t<=(cs.toList.drop o).length:=by
   rcases Do xs.length with h0|h0
   ·exact .inl (AO h0)
   ·right
    have:=(hi (xs.length-1) (by omega)).len
    unfold cut at this
    rw[Bb,AI]at this
    rw[AI]
    rcases Do (sz t)with hz|hz
    ·rw[hz];simp
    ·have e:xs.length*sz t=(xs.length-1)*sz t+sz t:=by
      rw[<-C4];congr 1;omega
     rw[e];omega
  rcases Z with rfl|Z
  ·exact⟨[],RowC.nil _ _,.inl rfl⟩
  refine⟨(cs.toList.drop o).take (xs.length*sz t),⟨by rw[Bb];omega,λi aa=>?_⟩,.inr ⟨b,o,rfl,ag.lt hM,λi v hv=>?_⟩⟩
  ·have:=hi i aa
   have ab:(i+1)*sz t<=xs.length*sz t:=AP _ aa
   rw[BU,DF]at ab
   unfold cut at this
   rw[List.drop_take,List.take_take,Bj,Nat.min_eq_left (by omega)]
   exact this
  ·refine ag.cell hM ?_
   rw[AL]at hv
   split at hv
   ·rw[AQ]at hv;simpa using hv
   ·cases hv
def z9x(o:Option Obj)(us:List Value):Prop:=((∃T,o=some (.cells us.toArray T (0,0)))/\∀s p,us≠[Zp s p])\/(∃s p,us=[Zp s p]/\o=some (.stringIter s p))
def DenC(n0:Nat)(γ:Gh)(h:za)(c:Nat):Ch->Prop
 |.box l=>∃us,z9x h[γ.β c]? us/\All2 (DenA γ) l us
 |.row e t xs=>∃cells,Owns h n0 e (sz t) (γ.σ c) cells/\RowC γ.M t xs cells/\xs.length<=140737488355328/\(γ.σ c).len=xs.length
 |.fz t xs=>Rd γ.M (.row t) xs [slV (γ.σ c)]
def blk(γ:Gh)(c:Nat):Ch->Option Nat
 |.box _=>some (γ.β c)
 |.row _ _ _=>(γ.σ c).a.map (·.block)
 |.fz _ _=>none
structure Inv (h0:za) (W:Nat->Prop) (M0:Fr) (cs:CS) (γ:Gh) (h:za):Prop where
 ag:AgM γ.M h
 frame:∀i,i<h0.size->¬W i->h[i]?=h0[i]?
 size:h0.size<=h.size
 old:∀b,b<h0.size->γ.M b=M0 b
 le:Fr.le M0 γ.M
 den:∀x∈cs,DenC h0.size γ h x.1 x.2
 sep:∀x∈cs,∀b,blk γ x.1 x.2=some b->(h0.size<=b\/W b)/\γ.M b=none
 apart:cs.Pairwise λx y=>∀b,blk γ x.1 x.2=some b->blk γ y.1 y.2≠some b
variable {h0 : za} {W : Nat -> Prop} {M0 : Fr}
theorem DenC.lt{k:Ch}(H:DenC n0 γ h c k):∀b,blk γ c k=some b->b<h.size:=by
 intro b hb
 cases k with
 |box l=>
  obtain⟨us,e,_⟩:=H
  simp only[blk,Ab]at hb
  subst hb
  rcases e with⟨⟨T,e⟩,_⟩|⟨s,p,_,e⟩
  ·exact(Ad.1 e).1
  ·exact(Ad.1 e).1
 |row e t xs=>
  obtain⟨cells,h1,_⟩:=H
  simp only[blk,Cs]at hb
  obtain⟨p,hp,rfl⟩:=hb
  exact(h1.base_le p hp).2
 |fz t xs=>cases hb
theorem DenC.gx{c:Option Nat}(g:Gx c γ γ'){j:Nat}{k:Ch}(hj:c≠some j)(hm:zyy zek c k=false)(H:DenC n0 γ h j k)(hb:∀b,blk γ j k=some b->h'[b]?=h[b]?):DenC n0 γ' h' j k:=by
 obtain⟨e1,e2⟩:=g.2 j hj
 cases k with
 |box l=>
  obtain⟨us,e,h1⟩:=H
  exact⟨us,by rw[e1,hb _ rfl];exact e,DenL.gx g (by cases c <;> exact hm) h1⟩
 |row e t xs=>
  obtain⟨cells,h1,h2,h3,h4⟩:=H
  refine⟨cells,?_,h2.mono g.1,h3,by rw[e2];exact h4⟩
  rw[e2]
  exact h1.keep λp hp=>hb _ (by simp[blk,hp])
 |fz t xs=>simp only[DenC,e2];exact Rd.mono g.1 H
theorem zkk{c:Option Nat}(g:Gx c γ γ'){j:Nat}(k:Ch)(hj:c≠some j):blk γ' j k=blk γ j k:=by
 obtain⟨e1,e2⟩:=g.2 j hj
 cases k <;> simp[blk,e1,e2]
theorem Inv.rest{cs rest:CS}{γ γ':Gh}{h h':za}(I:Inv h0 W M0 cs γ h)(hsub:rest.Sublist cs){c:Option Nat}(g:Gx c γ γ')
  (hmen:∀x∈rest,c≠some x.1/\zyy zek c x.2=false) (hk:∀x∈rest,∀b,blk γ x.1 x.2=some b->h'[b]?=h[b]?/\γ'.M b=none)
  (ag:AgM γ'.M h') (hframe:∀i,i<h0.size->¬W i->h'[i]?=h[i]?) (hsize:h.size<=h'.size) (hold:∀b,b<h0.size->γ'.M b=γ.M b):Inv h0 W M0 rest γ' h' where
 ag:=ag
 frame:=λi hi hw=>(hframe i hi hw).trans (I.frame i hi hw)
 size:=CV I.size hsize
 old:=λb hb=>(hold b hb).trans (I.old b hb)
 le:=I.le.trans g.1
 den:=λx hx=>(I.den x (hsub.subset hx)).gx g (hmen x hx).1 (hmen x hx).2 λb hb=>(hk x hx b hb).1
 sep:=λx hx b hb=>by
  rw[zkk g _ (hmen x hx).1]at hb
  exact⟨(I.sep x (hsub.subset hx) b hb).1,(hk x hx b hb).2⟩
 apart:=by
  refine(I.apart.sublist hsub).imp_of_mem λ {x y} hx hy h=>?_
  intro b hb
  rw[zkk g _ (hmen x hx).1]at hb
  rw[zkk g _ (hmen y hy).1]
  exact h b hb
theorem Inv.cons{rest:CS}(I:Inv h0 W M0 rest γ h){k:Ch}(hd:DenC h0.size γ h c k)(hs:∀b,blk γ c k=some b->(h0.size<=b\/W b)/\γ.M b=none)
  (ha:∀b,blk γ c k=some b->∀x∈rest,blk γ x.1 x.2≠some b):Inv h0 W M0 ((c,k)::rest) γ h where
 ag:=I.ag
 frame:=I.frame
 size:=I.size
 old:=I.old
 le:=I.le
 den:=λx hx=>by rcases Af.1 hx with rfl|hx;exact hd;exact I.den x hx
 sep:=λx hx=>by rcases Af.1 hx with rfl|hx;exact hs;exact I.sep x hx
 apart:=BH.2 ⟨λy hy b hb=>ha b hb y hy,I.apart⟩
theorem Inv.sub{cs rest:CS}(I:Inv h0 W M0 cs γ h)(hsub:rest.Sublist cs):Inv h0 W M0 rest γ h where
 ag:=I.ag
 frame:=I.frame
 size:=I.size
 old:=I.old
 le:=I.le
 den:=λx hx=>I.den x (hsub.subset hx)
 sep:=λx hx=>I.sep x (hsub.subset hx)
 apart:=I.apart.sublist hsub
theorem Inv.fz(I:Inv h0 W M0 cs γ h):z3x γ cs:=λc t xs hm=>I.den _ hm
theorem Inv.call(I:Inv h0 W M0 cs γ h)(k:Keep h.size h h')(hM:Fr.le γ.M M')(Z:∀b,b<h.size->M' b=γ.M b)(ag:AgM M' h'):Inv h0 W M0 cs { γ with M:=M' } h':=
 I.rest (List.Sublist.refl _) (c:=none) ⟨hM,λ_ _=>⟨rfl,rfl⟩⟩ (λx _=>⟨by simp,rfl⟩)
  (λx hx b hb=>by
   have aa:=(I.den x hx).lt b hb
   exact⟨k.get b aa,(Z b aa).trans (I.sep x hx b hb).2⟩) ag (λi hi _=>k.get i (C7 hi I.size)) k.size (λb hb=>Z b (C7 hb I.size))
def qp(c:Nat):CS->CS
 |[]=>[]
 |(j,k)::l=>bif (bif Nat.beq j c then true else zek c k)then qp c l else(j,k)::qp c l
def ql(c:Nat):CS->Bool
 |[]=>true
 |(j,k)::l=>bif (bif Nat.beq j c then true else zek c k)then false else ql c l
def J9(c:Nat):CS->CS
 |[]=>[]
 |(j,k)::l=>bif Nat.beq j c then J9 c l else(j,k)::J9 c l
theorem j9(c:Nat):∀l:CS,(qp c l).Sublist l
 |[]=>.slnil
 |(j,k)::l=>by
  simp only[qp]
  cases(bif Nat.beq j c then true else zek c k)with
  |true=>exact(j9 c l).cons _
  |false=>exact(j9 c l).cons_cons _
theorem wu(c:Nat):∀l:CS,(J9 c l).Sublist l
 |[]=>.slnil
 |(j,k)::l=>by
  simp only[J9]
  cases Nat.beq j c with
  |true=>exact(wu c l).cons _
  |false=>exact(wu c l).cons_cons _
theorem zel{c:Nat}:∀{l:CS} {x:Nat×Ch},x∈qp c l->some c≠some x.1/\zek c x.2=false
 |(j,k)::l,x,h=>by
  simp only[qp]at h
  cases hb:(bif Nat.beq j c then true else zek c k)with
  |true=>rw[hb]at h;exact zel h
  |false=>
   rw[hb]at h
   rcases Af.1 h with rfl|h
   ·cases hj:Nat.beq j c with
    |true=>simp[hj]at hb
    |false=>simp only[hj,cond_false]at hb;exact⟨zol hj,hb⟩
   ·exact zel h
theorem Q0{c:Nat}:∀{l:CS},ql c l=true->∀x∈l,some c≠some x.1/\zek c x.2=false
 |[],_,x,h=>by cases h
 |(j,k)::l,hn,x,h=>by
  simp only[ql]at hn
  cases hb:(bif Nat.beq j c then true else zek c k)with
  |true=>rw[hb]at hn;cases hn
  |false=>
   rw[hb]at hn
   rcases Af.1 h with rfl|h
   ·cases hj:Nat.beq j c with
    |true=>simp[hj]at hb
    |false=>simp only[hj,cond_false]at hb;exact⟨zol hj,hb⟩
   ·exact Q0 hn x h
theorem Yr{c:Nat}:∀{l:CS} {x:Nat×Ch},x∈J9 c l->x∈l/\x.1≠c
 |(j,k)::l,x,h=>by
  simp only[J9]at h
  cases hb:Nat.beq j c with
  |true=>rw[hb]at h;exact⟨Ae _ (Yr h).1,(Yr h).2⟩
  |false=>
   rw[hb]at h
   rcases Af.1 h with rfl|h
   ·refine⟨Aj,λe=>?_⟩
    simp only at e
    subst e
    simp at hb
   ·exact⟨Ae _ (Yr h).1,(Yr h).2⟩
def zx6(γ:Gh)(c b:Nat):Gh:={ γ with β:=λi=>bif Nat.beq i c then b else γ.β i }
def zrx(γ:Gh)(c:Nat)(s:Sl):Gh:={ γ with σ:=λi=>bif Nat.beq i c then s else γ.σ i }
theorem Xs(γ:Gh)(c b:Nat):Gx (some c) γ (zx6 γ c b):=⟨Fr.le.refl _,λi hi=>by
 have:Nat.beq i c=false:=by
  cases h:Nat.beq i c with
  |false=>rfl
  |true=>exact absurd (congrArg some (Ah h).symm) hi
 simp[zx6,this]⟩
theorem Qa(γ:Gh)(c:Nat)(s:Sl):Gx (some c) γ (zrx γ c s):=⟨Fr.le.refl _,λi hi=>by
 have:Nat.beq i c=false:=by
  cases h:Nat.beq i c with
  |false=>rfl
  |true=>exact absurd (congrArg some (Ah h).symm) hi
 simp[zrx,this]⟩
theorem Zx(γ:Gh)(c b:Nat):(zx6 γ c b).β c=b:=by simp[zx6]
theorem qy(γ:Gh)(c:Nat)(s:Sl):(zrx γ c s).σ c=s:=by simp[zrx]
theorem zbo(hR:ql c R=true):∀x∈qp c C++R,some c≠some x.1/\zyy zek (some c) x.2=false:=by
 intro x hx
 rcases Aw.1 hx with hx|hx
 ·exact zel hx
 ·exact Q0 hR x hx
theorem Inv.newBoxO(I:Inv h0 W M0 (C++R) γ h)(hR:ql c R=true){l:List AA}(hd:All2 (DenA γ) l us)(hl:zn0 c l=false){ob:Obj}(aa:z9x (some ob) us):
  Inv h0 W M0 ((c,.box l)::qp c C++R) (zx6 γ c h.size) (h.push ob):=by
 have Z:∀x∈qp c C++R,∀b,blk γ x.1 x.2=some b->b<h.size:=λx hx b hb=>(I.den x (((j9 c C).append_right R).subset hx)).lt b hb
 have hI:Inv h0 W M0 (qp c C++R) (zx6 γ c h.size) (h.push ob):=by
  refine I.rest ((j9 c C).append_right R) (Xs γ c h.size) (zbo hR) (λx hx b hb=>?_) (λb cc e=>?_) (λi hi _=>?_) (by simp) (λb hb=>rfl)
  ·have:=Z x hx b hb
   exact⟨by rw[BV,if_neg (by omega)],(I.sep x (((j9 c C).append_right R).subset hx) b hb).2⟩
  ·have:=I.ag.lt e
   obtain⟨T',m,e'⟩:=I.ag b cc e
   exact⟨T',m,by rw[BV,if_neg (by omega)];exact e'⟩
  ·have:=I.size
   rw[BV,if_neg (by omega)]
 refine hI.cons ⟨us,by rw[Zx,yb];exact aa,DenL.gx (Xs γ c h.size) hl hd⟩ (λb hb=>?_) (λb hb x hx e=>?_)
 ·simp only[blk,Zx,Ab]at hb
  subst hb
  exact⟨.inl I.size,I.ag.none (Ac _)⟩
 ·simp only[blk,Zx,Ab]at hb
  subst hb
  rw[zkk (Xs γ c h.size) _ (zbo hR x hx).1]at e
  have:=Z x hx _ e
  omega
theorem Inv.newBox(I:Inv h0 W M0 (C++R) γ h)(hR:ql c R=true){l:List AA}(hd:All2 (DenA γ) l us)(hl:zn0 c l=false)(Z:itB l=false)(T:TypeId):
  Inv h0 W M0 ((c,.box l)::qp c C++R) (zx6 γ c h.size) (h.push (.cells us.toArray T)):=
 Inv.newBoxO I hR hd hl (.inl ⟨⟨T,rfl⟩,λs p=>zty Z hd s p⟩)
theorem zc8{α:Type}{R:α->α->Prop}(hs:∀x y,R x y->R y x):∀{l:List α},l.Pairwise R->∀{x y:α},x∈l->y∈l->x≠y->R x y
 |[],_,_,_,hx,_,_=>by cases hx
 |z::l,h,x,y,hx,hy,hne=>by
  rw[BH]at h
  rcases Af.1 hx with e1|h1
  ·rcases Af.1 hy with e2|h2
   ·exact absurd (e1.trans e2.symm) hne
   ·rw[e1];exact h.1 _ h2
  ·rcases Af.1 hy with e2|h2
   ·rw[e2];exact hs _ _ (h.1 _ h1)
   ·exact zc8 hs h.2 h1 h2 hne
theorem Inv.setBox(I:Inv h0 W M0 (C++R) γ h){l l':List AA}(hc:(c,Ch.box l)∈C)(e:z9x h'[γ.β c]? us)
  (ho:∀i,i≠γ.β c->h'[i]?=h[i]?) (hs:h'.size=h.size) (hd:All2 (DenA γ) l' us) (hR:∀x∈R,x.1≠c):Inv h0 W M0 ((c,.box l')::J9 c C++R) γ h':=by
 have Z:=I.sep _ (Ar R hc) _ rfl
 have aa:∀x∈J9 c C++R,blk γ x.1 x.2≠some (γ.β c):=by
  intro x hx
  have af:x≠(c,Ch.box l):=by
   rintro rfl
   rcases Aw.1 hx with hx|hx
   ·exact(Yr hx).2 rfl
   ·exact hR _ hx rfl
  have ab:x∈C++R:=((wu c C).append_right R).subset hx
  have hp:=@zc8 _ (λ(x y:Nat×Ch)=>∀b,blk γ x.1 x.2=some b->blk γ y.1 y.2≠some b) (λx y h b hb ae=>h b ae hb) _ I.apart
  intro hb
  exact hp (Ar R hc) ab (λe=>af e.symm) _ rfl hb
 have hI:Inv h0 W M0 (J9 c C++R) γ h':=by
  refine I.rest ((wu c C).append_right R) (c:=none) (Gx.refl _ _) (λx _=>⟨by simp,rfl⟩) (λx hx b hb=>?_) (λb cc eM=>?_) (λi hi hw=>?_) (by omega) (λb hb=>rfl)
  ·exact⟨ho b λe'=>aa x hx (e' ▸ hb),(I.sep x (((wu c C).append_right R).subset hx) b hb).2⟩
  ·obtain⟨T',m,e'⟩:=I.ag b cc eM
   exact⟨T',m,by rw[ho b λe2=>by rw[e2,Z.2]at eM;cases eM];exact e'⟩
  ·refine ho i λe'=>?_
   have h2:=Z.1
   simp only at h2
   rcases h2 with h1|h1
   ·omega
   ·rw[e']at hw;exact hw h1
 refine hI.cons ⟨us,e,hd⟩ (λb hb=>?_) (λb hb x hx=>?_)
 ·simp only[blk,Ab]at hb;subst hb;exact Z
 ·simp only[blk,Ab]at hb;subst hb;exact aa x hx
theorem Inv.newRow(I:Inv h0 W M0 (C++R) γ h)(hR:ql c R=true)(hs:h.size<=h'.size){p:Option Nat}(ho:∀i,i<h.size->p≠some i->h'[i]?=h[i]?)
  (hp:∀b,p=some b->h0.size<=b/\γ.M b=none/\∀x∈C++R,blk γ x.1 x.2≠some b) {s:Sl} {xs:List (El t)} {cells:List Value} (ae:Owns h' h0.size e (sz t) s cells)
  (hb:∀q,s.a=some q->p=some q.block\/q.block=h.size) (af:RowC γ.M t xs cells) (hn:xs.length<=140737488355328) (hl:s.len=xs.length):
  Inv h0 W M0 ((c,.row e t xs)::qp c C++R) (zrx γ c s) h':=by
 have Z:=(j9 c C).append_right R
 have ab:∀x∈qp c C++R,∀b,blk γ x.1 x.2=some b->b<h.size:=λx hx b hb=>(I.den x (Z.subset hx)).lt b hb
 have hI:Inv h0 W M0 (qp c C++R) (zrx γ c s) h':=by
  refine I.rest Z (Qa γ c s) (zbo hR) (λx hx b hb=>?_) (λb cc eM=>?_) (λi hi hw=>?_) hs (λb hb=>rfl)
  ·exact⟨ho b (ab x hx b hb) λe'=>(hp b e').2.2 x (Z.subset hx) hb,(I.sep x (Z.subset hx) b hb).2⟩
  ·obtain⟨T',m,e'⟩:=I.ag b cc eM
   exact⟨T',m,by rw[ho b (I.ag.lt eM) λe2=>by have:=(hp b e2).2.1;rw[show γ.M b=some cc from eM]at this;cases this];exact e'⟩
  ·have:=I.size
   refine ho i (by omega) λe'=>?_
   have:=(hp i e').1
   omega
 refine hI.cons ⟨cells,by rw[qy];exact ae,af,hn,by rw[qy];exact hl⟩ (λb aa=>?_) (λb aa x hx e'=>?_)
 ·simp only[blk,qy,Cs]at aa
  obtain⟨q,hq,rfl⟩:=aa
  rcases hb q hq with h1|h1
  ·exact⟨.inl (hp _ h1).1,(hp _ h1).2.1⟩
  ·rw[h1];exact⟨.inl I.size,I.ag.none (Ac _)⟩
 ·simp only[blk,qy,Cs]at aa
  obtain⟨q,hq,rfl⟩:=aa
  rw[zkk (Qa γ c s) _ (zbo hR x hx).1]at e'
  rcases hb q hq with h1|h1
  ·exact(hp _ h1).2.2 x (Z.subset hx) e'
  ·rw[h1]at e';have:=ab x hx _ e';omega
def z9y(c:Nat):CS->CS
 |[]=>[]
 |(j,k)::l=>bif Nat.beq j c then(match k with
  |.row _ t xs=>(j,.fz t xs)::z9y c l
  |k=>(j,k)::z9y c l)else(j,k)::z9y c l
def zfi(γ:Gh)(b:Nat)(cs:Array Value):Gh:={ γ with M:=λi=>bif Nat.beq i b then some cs else γ.M i }
theorem Inv.freeze1{A C:CS}{xs:List (El t)}(I:Inv h0 W M0 (A++(c,.row e t xs)::C) γ h):∃γ',Inv h0 W M0 (A++(c,.fz t xs)::C) γ' h/\Gx none γ γ':=by
 obtain⟨cells,ai,ae,hn,hl⟩:=I.den (c,.row e t xs) (by simp)
 have ar:=ae.1
 rcases ai.2 with⟨hv,h1⟩|⟨g,cap,Z,hv,ab,hg,ax,au,ay,ah⟩
 ·refine⟨γ,?_,Gx.refl _ _⟩
  have ak:xs=[]:=AO (by omega)
  have hd:DenC h0.size γ h c (.fz t xs):=by
   subst ak
   simp only[AX]at hv
   exact⟨_,rfl,none,0,by simp[slV,hv],⟨by simp,by simp⟩,.inl rfl⟩
  have aa:∀x,x∈A++(c,Ch.fz t xs)::C->x∈A++(c,Ch.row e t xs)::C\/x=(c,Ch.fz t xs):=by
   intro x hx
   simp only[Aw,Af]at hx ⊢
   rcases hx with h|h|h
   ·exact .inl (.inl h)
   ·exact .inr h
   ·exact .inl (.inr (.inr h))
  refine⟨I.ag,I.frame,I.size,I.old,I.le,λx hx=>?_,λx hx b hb=>?_,?_⟩
  ·rcases aa x hx with h|rfl
   ·exact I.den x h
   ·exact hd
  ·rcases aa x hx with h|rfl
   ·exact I.sep x h b hb
   ·cases hb
  ·have:=I.apart
   simp only[CE,BH]at this ⊢
   obtain⟨a1,⟨a2,a3⟩,a4⟩:=this
   refine⟨a1,⟨λy hy b hb=>(by simp[blk]at hb),a3⟩,λx hx y hy b hb=>?_⟩
   rcases Af.1 hy with rfl|hy
   ·simp[blk]
   ·exact a4 x hx y (Ae _ hy) b hb
 ·simp only[AX]at hv
  have am:γ.M g=none:=(I.sep (c,.row e t xs) (by simp) g (by simp[blk,hv.1])).2
  have aj:Fr.le γ.M (zfi γ g Z).M:=by
   intro b cc eM
   have:Nat.beq b g=false:=by
    cases hb:Nat.beq b g with
    |false=>rfl
    |true=>rw[Ah hb,am]at eM;cases eM
   simp[zfi,this,eM]
  have gx:Gx none γ (zfi γ g Z):=⟨aj,λ_ _=>⟨rfl,rfl⟩⟩
  have ap:g<h.size:=(Ad.1 hg).1
  have an:∀x,x∈A++C->blk γ x.1 x.2≠some g:=by
   intro x hx
   have:=I.apart
   simp only[CE,BH]at this
   obtain⟨a1,⟨a2,a3⟩,a4⟩:=this
   rcases Aw.1 hx with hx|hx
   ·intro hb
    exact a4 x hx (c,.row e t xs) Aj g hb (by simp[blk,hv.1])
   ·exact a2 x hx g (by simp[blk,hv.1])
  have af:∀b,b≠g->(zfi γ g Z).M b=γ.M b:=by
   intro b hb
   have:Nat.beq b g=false:=by
    cases h:Nat.beq b g with
    |false=>rfl
    |true=>exact absurd (Ah h) hb
   simp[zfi,this]
  have hI:Inv h0 W M0 (A++C) (zfi γ g Z) h:=by
   refine I.rest (by simp) gx (λx _=>⟨by simp,rfl⟩) (λx hx b hb=>?_) (λb cc eM=>?_) (λ_ _ _=>rfl) (Ac _) (λb hb=>af b (by omega))
   ·have ab:b≠g:=λe'=>an x hx (e' ▸ hb)
    refine⟨rfl,(af b ab).trans (I.sep x ?_ b hb).2⟩
    simp only[Aw,Af]at hx ⊢
    rcases hx with h|h
    ·exact .inl h
    ·exact .inr (.inr h)
   ·by_cases ab:b=g
    ·subst ab
     have:cc=Z:=by simp[zfi]at eM;exact eM.symm
     subst this
     exact⟨_,_,hg⟩
    ·rw[af b ab]at eM;exact I.ag b cc eM
  refine⟨zfi γ g Z,?_,gx⟩
  have hd:DenC h0.size (zfi γ g Z) h c (.fz t xs):=by
   have:=(ae.mono aj).rd (b:=g) (o:=0) (c:=cap) (cs:=Z) (by simp[zfi]) (by rw[Cc,<-hl];exact ah) ⟨hn,by omega⟩
   show Rd _ _ _ [slV (γ.σ c)]
   have e3:slV (γ.σ c)=.slice (some ⟨g,0,none⟩) xs.length cap:=by
    unfold slV;rw[hv.1,hl,hv.2.2]
   rw[e3];exact this
  have aa:∀x,x∈A++(c,Ch.fz t xs)::C->x∈A++C\/x=(c,Ch.fz t xs):=by
   intro x hx
   simp only[Aw,Af]at hx ⊢
   rcases hx with h|h|h
   ·exact .inl (.inl h)
   ·exact .inr h
   ·exact .inl (.inr h)
  refine⟨hI.ag,hI.frame,hI.size,hI.old,hI.le,λx hx=>?_,λx hx b hb=>?_,?_⟩
  ·rcases aa x hx with h|rfl
   ·exact hI.den x h
   ·exact hd
  ·rcases aa x hx with h|rfl
   ·exact hI.sep x h b hb
   ·cases hb
  ·have:=hI.apart
   simp only[CE,BH]at this ⊢
   obtain⟨a1,a3,a4⟩:=this
   refine⟨a1,⟨λy hy b hb=>(by simp[blk]at hb),a3⟩,λx hx y hy b hb=>?_⟩
   rcases Af.1 hy with rfl|hy
   ·simp[blk]
   ·exact a4 x hx y hy b hb
theorem Inv.freeze{R:CS}{h:za}(c:Nat):∀(C A:CS) {γ:Gh},Inv h0 W M0 (A++C++R) γ h->∃γ',Inv h0 W M0 (A++z9y c C++R) γ' h/\Gx none γ γ'
 |[],A,γ,I=>⟨γ,I,Gx.refl _ _⟩
 |(j,k)::l,A,γ,I=>by
  have go:∀(k:Ch) {γ:Gh},Inv h0 W M0 (A++(j,k)::l++R) γ h->∃γ',Inv h0 W M0 (A++(j,k)::z9y c l++R) γ' h/\Gx none γ γ':=by
   intro k γ I
   have:=Inv.freeze c l (A++[(j,k)]) (R:=R) (γ:=γ) (by simpa using I)
   simpa using this
  simp only[z9y]
  cases Nat.beq j c with
  |true=>
   cases k with
   |row e t xs=>
    obtain⟨γ1,I1,g1⟩:=Inv.freeze1 (A:=A) (C:=l++R) (γ:=γ) (by simpa using I)
    obtain⟨γ2,I2,g2⟩:=go (.fz t xs) (γ:=γ1) (by simpa using I1)
    exact⟨γ2,I2,g1.1.trans g2.1,λi hi=>⟨(g2.2 i hi).1.trans (g1.2 i hi).1,(g2.2 i hi).2.trans (g1.2 i hi).2⟩⟩
   |box l'=>exact go _ I
   |fz t xs=>exact go _ I
  |false=>exact go _ I
end
section
variable {i n:Nat} {c:zz} {v:AV} {γ γ':Gh} {a:Act} {u:Value} {o:Oper} {g:Option Bool} {σ:Operand -> Value}
abbrev qj:=List (Nat×zz×AV)
def zl2:qj->Nat->Option (zz×AV)
 |[],_=>none
 |(j,c,v)::e,i=>bif Nat.beq i j then some (c,v)else zl2 e i
def zl3(γ:Gh)(σ:Nat->Value)(x:Nat×zz×AV):Prop:=(valid σ x.2.1->DenV γ x.2.2 (σ x.1))/\(¬valid σ x.2.1->σ x.1=undef)
structure SatA (n:Nat) (e:qj) (γ:Gh) (a:Act):Prop where
 defers:a.defers=[]
 size:a.tmps.size=n
 all:∀x∈e,zl3 γ (zo a) x
def qda:qj->Nat->qj
 |[],_=>[]
 |(j,c,v)::e,i=>bif (bif Nat.beq i j then true else mentions c i)then qda e i else(j,c,v)::qda e i
def qhu(e:qj)(i:Nat)(c:zz)(v:AV):qj:=(i,c,v)::qda e i
def z4p(e:qj):Option Nat->zz->AV->qj
 |none,_,_=>e
 |some d,c,v=>qhu e d c v
def zfj:qj->qj
 |[]=>[]
 |(j,[],v)::e=>(j,[],v)::zfj e
 |(_,_::_,_)::e=>zfj e
def zom(c:Nat):qj->qj
 |[]=>[]
 |(j,ch,v)::e=>bif zyx c v then zom c e else(j,ch,v)::zom c e
def ztz:Option Nat->qj->qj
 |none,e=>e
 |some c,e=>zom c e
theorem Zy{e:qj}(h:zl2 e i=some (c,v)):(i,c,v)∈e:=by
 induction e with
 |nil=>cases h
 |cons x e ih=>
  obtain⟨j,cj,vj⟩:=x
  simp only[zl2]at h
  by_cases hb:Nat.beq i j=true
  ·simp only[hb,cond_true,Ab,Be]at h
   obtain⟨rfl,rfl⟩:=h
   rw[Ah hb]
   exact Aj
  ·simp only[hb,cond_false]at h
   exact Ae _ (ih h)
theorem z4q{e:qj}{x:Nat×zz×AV}(h:x∈qda e i):x∈e/\x.1≠i/\mentions x.2.1 i=false:=by
 induction e with
 |nil=>cases h
 |cons y e ih=>
  obtain⟨j,cj,vj⟩:=y
  simp only[qda]at h
  by_cases hb:Nat.beq i j=true
  ·simp only[hb,cond_true]at h
   exact⟨Ae _ (ih h).1,(ih h).2⟩
  ·have ab:Nat.beq i j=false:=Bool.eq_false_iff.2 hb
   simp only[ab,cond_false]at h
   by_cases hm:mentions cj i=true
   ·simp only[hm,cond_true]at h
    exact⟨Ae _ (ih h).1,(ih h).2⟩
   ·have aa:mentions cj i=false:=by simpa using hm
    simp only[aa,cond_false]at h
    rcases Af.1 h with rfl|h
    ·refine⟨Aj,λZ=>?_,aa⟩
     simp only at Z
     rw[Z]at hb
     exact hb (by simp)
    ·exact⟨Ae _ (ih h).1,(ih h).2⟩
theorem zwg{e:qj}{x:Nat×zz×AV}(h:x∈zfj e):x∈e/\x.2.1=[]:=by
 induction e with
 |nil=>cases h
 |cons y e ih=>
  obtain⟨j,cj,vj⟩:=y
  cases cj with
  |nil=>
   simp only[zfj]at h
   rcases Af.1 h with rfl|h
   ·exact⟨Aj,rfl⟩
   ·exact⟨Ae _ (ih h).1,(ih h).2⟩
  |cons c cs=>
   simp only[zfj]at h
   exact⟨Ae _ (ih h).1,(ih h).2⟩
theorem zwh{c:Option Nat}{e:qj}{x:Nat×zz×AV}(h:x∈ztz c e):x∈e/\zyy zyx c x.2.2=false:=by
 cases c with
 |none=>exact⟨h,rfl⟩
 |some c=>
  have key:∀e:qj,x∈zom c e->x∈e/\zyx c x.2.2=false:=by
   intro e
   induction e with
   |nil=>intro h;cases h
   |cons y e ih=>
    obtain⟨j,cj,vj⟩:=y
    intro h
    simp only[zom]at h
    cases hm:zyx c vj with
    |true=>rw[hm]at h;exact⟨Ae _ (ih h).1,(ih h).2⟩
    |false=>
     rw[hm]at h
     rcases Af.1 h with rfl|h
     ·exact⟨Aj,hm⟩
     ·exact⟨Ae _ (ih h).1,(ih h).2⟩
  exact key e h
theorem SatA.sub{e e':qj}(h:SatA n e γ a)(hs:∀x∈e',x∈e):SatA n e' γ a:=⟨h.defers,h.size,λx hx=>h.all x (hs x hx)⟩
theorem SatA.clean{e:qj}(h:SatA n e γ a):SatA n (zfj e) γ a:=h.sub λ_ hx=>(zwg hx).1
theorem SatA.gx{e:qj}{c:Option Nat}(h:SatA n e γ a)(g:Gx c γ γ'):SatA n (ztz c e) γ' a:=
 ⟨h.defers,h.size,λx hx=>by
  obtain⟨h1,h2⟩:=zwh hx
  exact⟨λhv=>((h.all x h1).1 hv).gx g h2,(h.all x h1).2⟩⟩
theorem SatA.gx0{e:qj}(h:SatA n e γ a)(g:Gx none γ γ'):SatA n e γ' a:=h.gx g
theorem SatA.put{e:qj}(h:SatA n e γ a)(hi:i<n)(hm:mentions c i=false)
  (hy:valid (zo a) c->DenV γ v u) (hn:¬valid (zo a) c->u=undef):SatA n (qhu e i c v) γ (a.put (some i) u):=by
 refine⟨by rw[qm];exact h.defers,by rw[size_put];exact h.size,λx hx=>?_⟩
 have aa:i<a.tmps.size:=by rw[h.size];exact hi
 rcases Af.1 hx with rfl|hx
 ·have hv:=Ze (σ:=zo (a.put (some i) u)) (τ:=zo a) hm (λj hj=>qf hj)
  refine⟨λhc=>?_,λhc=>?_⟩
  ·simp only;rw[qt aa];exact hy (hv.1 hc)
  ·exact(qt aa).trans (hn (λZ=>hc (hv.2 Z)))
 ·obtain⟨h1,h2,h3⟩:=z4q hx
  have hv:=Ze (σ:=zo (a.put (some i) u)) (τ:=zo a) h3 (λj hj=>qf hj)
  have hf:=h.all x h1
  refine⟨λhc=>?_,λhc=>?_⟩
  ·rw[qf h2];exact hf.1 (hv.1 hc)
  ·exact(qf h2).trans (hf.2 (λZ=>hc (hv.2 Z)))
theorem SatA.putO{e:qj}(h:SatA n e γ a){d:Option Nat}(hd:qk n c d=true)
  (hy:valid (zo a) c->DenV γ v u) (hn:¬valid (zo a) c->u=undef):SatA n (z4p e d c v) γ (a.put d u):=by
 cases d with
 |none=>exact h
 |some i=>
  simp only[qk]at hd
  by_cases hm:mentions c i=true
  ·simp[hm]at hd
  ·have Z:mentions c i=false:=by simpa using hm
   simp only[Z,cond_false]at hd
   exact h.put (by simpa[Cu]using hd) Z hy hn
def qf6:Value->AG
 |.agg cs=>.agg (cs.toList.map .v)
 |v=>.a (.v v)
def zwi:Value->AV
 |.tuple vs=>.tup (vs.toList.map qf6)
 |v=>.g (qf6 v)
theorem zt0(γ:Gh)(v:Value):DenG γ (qf6 v) v:=by
 cases v with
 |agg cs=>
  refine⟨cs.toList,by simp,?_⟩
  generalize cs.toList=l
  induction l with
  |nil=>trivial
  |cons x l ih=>exact⟨rfl,ih⟩
 |_=>exact rfl
theorem Ja(γ:Gh)(v:Value):DenV γ (zwi v) v:=by
 cases v with
 |tuple vs=>
  refine⟨vs.toList,by simp,?_⟩
  generalize vs.toList=l
  induction l with
  |nil=>trivial
  |cons x l ih=>exact⟨zt0 γ x,ih⟩
 |agg cs=>exact zt0 γ (.agg cs)
 |_=>exact rfl
def exL:List AA->Option (List Value)
 |[]=>some []
 |.v x::l=>match exL l with
  |some vs=>some (x::vs)
  |none=>none
 |_::_=>none
def exV:AV->Option Value
 |.g (.a (.v x))=>some x
 |.g (.agg l)=>match exL l with
  |some vs=>some (.agg vs.toArray)
  |none=>none
 |_=>none
theorem zy0{γ:Gh}:∀{l:List AA} {vs us:List Value},exL l=some vs->All2 (DenA γ) l us->us=vs
 |[],vs,[],h,_=>by simp only[exL,Ab]at h;exact h
 |[],_,_::_,_,h=>h.elim
 |.v x::l,vs,u::us,h,hd=>by
  simp only[exL]at h
  split at h
  ·rename_i ws hw
   simp only[Ab]at h
   subst h
   rw[show u=x from hd.1,zy0 hw hd.2]
  ·cases h
 |.v _::_,_,[],_,h=>h.elim
 |.d _ _::_,_,_,h,_=>by simp[exL]at h
 |.box _ _::_,_,_,h,_=>by simp[exL]at h
 |.own _::_,_,_,h,_=>by simp[exL]at h
 |.oelt _ _ _ _::_,_,_,h,_=>by simp[exL]at h
 |.elt _ _ _::_,_,_,h,_=>by simp[exL]at h
 |.dc _ _::_,_,_,h,_=>by simp[exL]at h
theorem zry{x:AV}{v u:Value}(h:exV x=some v)(hd:DenV γ x u):u=v:=by
 unfold exV at h
 split at h
 ·simp only[Ab]at h;subst h;exact hd
 ·rename_i l
  split at h
  ·rename_i vs hv
   simp only[Ab]at h
   subst h
   obtain⟨us,rfl,h2⟩:=hd
   rw[zy0 hv h2]
  ·cases h
 ·cases h
def zfp(e:qj)(c:zz):Operand->Option AV
 |.tmp t=>match zl2 e t with
  |some (cs,v)=>bif suf cs c then some v else none
  |none=>none
 |.const v=>some (zwi v)
 |.global g=>some (.g (.a (.v (.pointer (some ⟨g,0,none⟩)))))
 |.func f=>some (.g (.a (.v (.func (.func f) #[] #[]))))
theorem zq{e:qj}(h:SatA n e γ a)(hc:valid (zo a) c){x:Operand}(hx:zfp e c x=some v):DenV γ v (a.eval x):=by
 cases x with
 |tmp t=>
  simp only[zfp]at hx
  split at hx
  ·rename_i cs u hl
   by_cases hs:suf cs c=true
   ·simp only[hs,cond_true,Ab]at hx
    subst hx
    exact(h.all _ (Zy hl)).1 (Y5 hs hc)
   ·simp[hs]at hx
  ·cases hx
 |const u=>simp only[zfp,Ab]at hx;subst hx;exact Ja γ u
 |global g=>simp only[zfp,Ab]at hx;subst hx;exact rfl
 |func f=>simp only[zfp,Ab]at hx;subst hx;exact rfl
def zwj:AV->Option Bool
 |.g (.a (.v (.bool b)))=>some b
 |_=>none
theorem zhe{b:Bool}(h:zwj v=some b)(hd:DenV γ v u):u=.bool b:=by
 unfold zwj at h
 split at h
 ·simp only[Ab]at h;subst h;exact hd
 ·cases h
def Ys(ops:Array Oper)(e:qj):Option (Nat×Bool)->Option zz
 |none=>some []
 |some (j,p)=>match yn ops j with
  |some g=>match zl2 e g with
   |some (cg,v)=>match zwj v with
    |some _=>some ((g,p)::cg)
    |none=>none
   |none=>none
  |none=>none
def zon(e:qj):zz->Option Bool
 |[]=>some true
 |(g,p)::c=>match zl2 e g with
  |some (cg,v)=>match zwj v with
   |some b=>bif Zf cg c then(match zon e c with
    |some cb=>some (cb&&(bif p then b else !b))
    |none=>none)else none
   |none=>none
  |none=>none
theorem Xt{n:Nat}{e:qj}{γ:Gh}{a:Act}(h:SatA n e γ a):∀{c:zz} {b:Bool},zon e c=some b->(b=true↔valid (zo a) c)
 |[],b,hb=>by simp only[zon,Ab]at hb;simp[<-hb,valid]
 |(g,p)::c,b,hb=>by
  simp only[zon]at hb
  split at hb
  ·rename_i cg v hl
   split at hb
   ·rename_i bg aa
    by_cases hq:Zf cg c=true
    ·simp only[hq,cond_true]at hb
     split at hb
     ·rename_i cb Z
      simp only[Ab]at hb
      have ih:=Xt h Z
      have hf:=h.all _ (Zy hl)
      rw[Y4 hq]at hf
      by_cases hv:valid (zo a) c
      ·have h1:zo a g=.bool bg:=zhe aa (hf.1 hv)
       have h2:=ih.2 hv
       subst hb
       simp only[valid,h1,hv,h2,BZ,and_true,Value.bool.injEq]
       cases p <;> cases bg <;> simp
      ·have h1:cb=false:=by cases cb with|false=>rfl|true=>exact absurd (ih.1 rfl) hv
       subst hb
       simp[valid,hv,h1]
     ·cases hb
    ·simp[hq]at hb
   ·cases hb
  ·cases hb
theorem xm{ops:Array Oper}{e:qj}(h:SatA n e γ a)(hc:Ys ops e o.guard=some c):
  Bu o (yielded ops a.tmps)=true↔valid (zo a) c:=by
 unfold Bu
 cases hg:o.guard with
 |none=>rw[hg]at hc;simp only[Ys,Ab]at hc;simp[<-hc,valid]
 |some jp=>
  obtain⟨j,p⟩:=jp
  rw[hg]at hc
  simp only[Ys]at hc
  split at hc
  ·rename_i g hd
   split at hc
   ·rename_i cg v hl
    split at hc
    ·rename_i b hb
     simp only[Ab]at hc
     subst hc
     have aa:((ops[j]?).bind (·.dst))=some g:=by
      simp only[yn]at hd
      split at hd
      ·rename_i o' Z;simp[Z,hd]
      ·cases hd
     have hf:=h.all _ (Zy hl)
     have hy:yielded ops a.tmps j=some p↔zo a g=.bool p:=by
      unfold yielded zo
      rw[aa]
      simp only[CP]
      cases ht:a.tmps[g]? with
      |none=>simp[BB,ht,undef]
      |some v=>cases v <;> simp[BB,ht]
     simp only[beq_iff_eq,hy,valid]
     constructor
     ·intro h1
      refine⟨h1,?_⟩
      by_cases hv:valid (zo a) cg
      ·exact hv
      ·have:=hf.2 hv
       simp only at this
       rw[h1]at this
       exact absurd this.symm zcy
     ·exact λh1=>h1.1
    ·cases hc
   ·cases hc
  ·cases hc
def Wa(e:qj):zz->Option (Option Bool)
 |[]=>some none
 |c=>match zon e c with
  |some b=>some (some b)
  |none=>none
theorem xd{e:qj}(hs:SatA n e γ a)(h:Wa e c=some g)(hv:valid (zo a) c):gok g:=by
 unfold Wa at h
 split at h
 ·simp only[Ab]at h;subst h;trivial
 ·split at h
  ·rename_i b hb
   simp only[Ab]at h
   subst h
   exact(Xt hs hb).2 hv
  ·cases h
theorem zbp{e:qj}(hs:SatA n e γ a)(h:Wa e c=some g)(hv:¬valid (zo a) c):g=some false:=by
 unfold Wa at h
 split at h
 ·exact absurd trivial hv
 ·split at h
  ·rename_i b hb
   simp only[Ab]at h
   subst h
   cases b with
   |false=>rfl
   |true=>exact absurd ((Xt hs hb).1 rfl) hv
  ·cases h
def qfn(ρ:Operand->Option AV)(x:Operand):Value:=match ρ x with
 |some av=>match exV av with
  |some v=>v
  |none=>undef
 |none=>undef
def zhf(ρ:Operand->Option AV):List Operand->Bool
 |[]=>true
 |x::l=>match ρ x with
  |some av=>match exV av with
   |some _=>zhf ρ l
   |none=>false
  |none=>false
theorem zoo{ρ:Operand->Option AV}(hρ:∀x av,ρ x=some av->DenV γ av (σ x)){l:List Operand}(hk:zhf ρ l=true):∀x∈l,σ x=qfn ρ x:=by
 induction l with
 |nil=>intro x hx;cases hx
 |cons y l ih=>
  intro x hx
  simp only[zhf]at hk
  split at hk
  ·rename_i av hv
   split at hk
   ·rename_i v Z
    rcases Af.1 hx with rfl|hx
    ·rw[zry Z (hρ _ _ hv)];simp[qfn,hv,Z]
    ·exact ih hk x hx
   ·cases hk
  ·cases hk
theorem zop{ρ:Operand->Option AV}(hρ:∀x av,ρ x=some av->DenV γ av (σ x))(hs:we o.op=true)(hk:zhf ρ o.op.operands.toList=true):
  execOp σ o=execOp (qfn ρ) o:=
 execOp_congr o (λcs b hb=>by rw[hb]at hs;cases hs) λx hx=>zoo hρ hk x (by simpa using hx)
end
section
variable {o n f k:Nat} {h:za} {u:Value} {us:List Value} {cs:CS} {γ:Gh} {t ty:TypeId} {P:Program} {s:Option Nat}
variable {h0 : za} {W : Nat -> Prop} {M0 : Fr}
def takeN(l:List AA)(o n:Nat):Option (List AA):=bif Nat.beq ((l.drop o).take n).length n then some ((l.drop o).take n)else none
theorem zar{l r:List AA}(h:takeN l o n=some r):r=(l.drop o).take n/\r.length=n:=by
 unfold takeN at h
 cases hb:Nat.beq ((l.drop o).take n).length n with
 |false=>rw[hb]at h;cases h
 |true=>
  rw[hb]at h
  simp only[cond_true,Ab]at h
  subst h
  exact⟨rfl,Ah hb⟩
theorem zoq{h:za}{p:Addr}:∀{us:List Value} {i:Nat},(∀j v,us[j]?=some v->zc h (p.add (i+j))=some v)->zd h p i us
 |[],_,_=>trivial
 |v::us,i,H=>⟨by have:=H 0 v rfl;simpa using this,zoq λj u hu=>by have:=H (j+1) u (by simpa using hu);rwa[show i+(j+1)=i+1+j by omega]at this⟩
def Behind(h:za)(u:Value)(us:List Value):Prop:=∃b o,u=.pointer (some ⟨b,o,none⟩)/\∀j v,us[j]?=some v->zc h ⟨b,o+j,none⟩=some v
theorem Behind.ld(H:Behind h u us):∃p:Addr,u=.pointer (some p)/\zd h p 0 us/\∀v,us=[v]->zc h p=some v:=by
 obtain⟨b,o,e,hc⟩:=H
 refine⟨_,e,zoq λj v hv=>?_,λv hv=>?_⟩
 ·rw[zu,AK];exact hc j v hv
 ·have:=hc 0 v (by rw[hv];rfl);simpa using this
theorem z9z{cs:Array Value}{f n j:Nat}{v:Value}(h:(cut cs f n)[j]?=some v):cs[f+j]?=some v:=by
 unfold cut at h
 rw[AL]at h
 split at h
 ·rw[AQ]at h;simpa using h
 ·cases h
def z4r(cs:CS)(n:Nat):AA->Option (List AA)
 |.box c o=>match Qz cs c with
  |some (.box l)=>bif itB l then none else takeN l o n
  |_=>none
 |.elt t x o=>takeN (Y8 t x) o n
 |_=>none
theorem zrz(I:Inv h0 W M0 cs γ h){aa:AA}{r:List AA}(hf:z4r cs n aa=some r)(hd:DenA γ aa u):
  ∃us,Behind h u us/\us.length=n/\All2 (DenA γ) r us:=by
 unfold z4r at hf
 split at hf
 ·rename_i c o
  split at hf
  ·rename_i l hl
   cases hit:itB l with
   |true=>rw[hit]at hf;cases hf
   |false=>
   rw[hit]at hf
   obtain⟨rfl,hn⟩:=zar hf
   obtain⟨us,e,h2⟩:=I.den _ (qb hl)
   rcases e with⟨⟨T,e⟩,_⟩|⟨s,p,e,_⟩
   case inr=>exact absurd e (zty hit h2 s p)
   have h3:=(h2.drop o).take n
   refine⟨(us.drop o).take n,⟨_,_,hd,λj v hv=>?_⟩,by rw[<-h3.length];exact hn,h3⟩
   rw[AL]at hv
   split at hv
   ·rw[AQ]at hv
    unfold zc;simp only[e];simp;exact hv
   ·cases hv
  ·cases hf
 ·rename_i t x o
  obtain⟨rfl,hn⟩:=zar hf
  obtain⟨b,f,cc,e,hM,hr⟩:=hd
  have h3:=((xb (γ:=γ) hr).drop o).take n
  refine⟨_,⟨_,_,e,λj v hv=>?_⟩,by rw[<-h3.length];exact hn,h3⟩
  rw[AL]at hv
  split at hv
  ·rw[AQ]at hv
   have:=z9z hv
   exact I.ag.cell hM (by rw[show f+o+j=f+(o+j)by omega];exact this)
  ·cases hv
 ·cases hf
theorem z90(I:Inv h0 W M0 cs γ h){c:Nat}{e:TypeId}{t:Ty}{xs:List (El t)}(hc:Qz cs c=some (.row e t xs)){i:Nat}{y:El t}(hy:xs[i]?=some y){r:List AA}(hr:takeN (Y8 t y) o n=some r)(hd:DenA γ (.oelt c (sz t) i o) u):∃us,Behind h u us/\us.length=n/\All2 (DenA γ) r us:=by
 obtain⟨rfl,hn⟩:=zar hr
 obtain⟨g,hg,rfl⟩:=hd
 obtain⟨cells,aa,ae,_,hl⟩:=I.den _ (qb hc)
 simp only at hl aa
 rcases aa.2 with⟨hv,h1⟩|⟨g',cap,aj,hv,_,ah,_,_,_,ab⟩
 ·simp only[AX]at hv;rw[hg]at hv;cases hv.1
 ·simp only[AX]at hv
  rw[hg]at hv
  have af:g=g':=by have:=hv.1;simp only[Ab,Addr.mk.injEq]at this;exact this.1
  subst af
  have hi:i<xs.length:=(AF.1 hy).1
  have ai:xs[i]=y:=(AF.1 hy).2
  have h4:=ae.2 i hi
  rw[ai]at h4
  have h3:=((xb (γ:=γ) h4).drop o).take n
  refine⟨_,⟨_,_,rfl,λj v Z=>?_⟩,by rw[<-h3.length];exact hn,h3⟩
  rw[AL]at Z
  split at Z
  ·rw[AQ,AL]at Z
   split at Z
   ·rw[AQ,<-ab,AL]at Z
    split at Z
    ·have e2:h[g]?=some (.cells aj e (0,0)):=ah
     unfold zc
     simp only[e2]
     simp
     rw[show i*sz t+o+j=i*sz t+(o+j)by omega]
     simpa using Z
    ·cases Z
   ·cases Z
  ·cases Z
def zl4:Option Nat->List AA->Option AG
 |none,[x]=>some (.a x)
 |some _,l=>some (.agg l)
 |_,_=>none
def Xu(P:Program)(t:TypeId):Option (Option Nat):=match zx5 P t with
 |some (.one _)=>some none
 |some (.agg l)=>some (some l.length)
 |none=>none
def z3y:Option Nat->Nat
 |none=>1
 |some n=>n
theorem zem(hs:Xu P t=some s)(hb:Behind h u us)(hn:us.length=z3y s){r:List AA}(hr:All2 (DenA γ) r us){ag:AG}(hp:zl4 s r=some ag):
  ∃v,DenG γ ag v/\QExec P (DJ t u) h v:=by
 obtain⟨p,e,hl,h1⟩:=hb.ld
 subst e
 have Z:∀v,QExec P (loadVar t p) h v->QExec P (DJ t (.pointer (some p))) h v:=λv hq B d=>by
  unfold DJ Dh
  simp only[Sem.run_bind,Sem.run_pure,Result.andThen_ok]
  exact hq B d
 unfold Xu at hs
 split at hs
 ·rename_i a hv
  simp only[Ab]at hs
  subst hs
  match us,hn,r,hr with
  |[v],_,[x],hr=>
   simp only[zl4,Ab]at hp
   subst hp
   exact⟨v,hr.1,Z v (zgf hv (h1 v rfl))⟩
  |[v],_,[],hr=>exact hr.elim
  |[v],_,_::_::_,hr=>exact hr.2.elim
 ·rename_i l hv
  simp only[Ab]at hs
  subst hs
  simp only[zl4,Ab]at hp
  subst hp
  exact⟨.agg us.toArray,⟨us,rfl,hr⟩,Z _ (zgg hv hn hl)⟩
 ·cases hs
def zwk(P:Program)(cs:CS)(t:TypeId)(aa:AA)(g:Option Bool)(K:AV->Prop):Prop:=
 match Xu P t with
 |some s=>match aa with
  |.oelt c z i o=>match Qz cs c with
   |some (.row e ty xs)=>bif Nat.beq z (sz ty)then(∃y:El ty,req g (xs[i]?=some y)/\match takeN (Y8 ty y) o (z3y s)with
    |some r=>match zl4 s r with
     |some ag=>K (.g ag)
     |none=>False
    |none=>False)else False
   |_=>False
  |aa=>match z4r cs (z3y s) aa with
   |some r=>match zl4 s r with
    |some ag=>K (.g ag)
    |none=>False
   |none=>False
 |none=>False
theorem zhg{aa:AA}{g:Option Bool}{K:AV->Prop}(H:zwk P cs t aa g K):
  ∃av,K av/\(gok g->∀γ h u,Inv h0 W M0 cs γ h->DenA γ aa u->∃v,DenV γ av v/\QExec P (DJ t u) h v):=by
 unfold zwk at H
 split at H
 ·rename_i s hs
  split at H
  ·rename_i c z i o
   split at H
   ·rename_i e ty xs hc
    cases hz:Nat.beq z (sz ty)with
    |false=>rw[hz]at H;exact H.elim
    |true=>
     rw[hz]at H
     obtain⟨y,hy,H⟩:=H
     split at H
     ·rename_i r hr
      split at H
      ·rename_i ag hp
       refine⟨_,H,λhg γ h u I hd=>?_⟩
       rw[Ah hz]at hd
       obtain⟨us,h1,h2,h3⟩:=z90 I hc (hy.out hg) hr hd
       exact zem hs h1 h2 h3 hp
      ·exact H.elim
     ·exact H.elim
   ·exact H.elim
  ·split at H
   ·rename_i r hr
    split at H
    ·rename_i ag hp
     refine⟨_,H,λhg γ h u I hd=>?_⟩
     obtain⟨us,h1,h2,h3⟩:=zrz I hr hd
     exact zem hs h1 h2 h3 hp
    ·exact H.elim
   ·exact H.elim
 ·exact H.elim
def zy1(P:Program)(t:TypeId)(f:Nat):Option (Nat×TypeId):=match P.underlying t with
 |some (.struct fs)=>match fs[f]? with
  |some fl=>match P.info? fl.type with
   |some i=>bif Nat.beq i.size 0 then none else some (fl.offset,fl.type)
   |none=>none
  |none=>none
 |_=>none
def qfo(k:Nat):AA->Option AA
 |.box c o=>some (.box c (o+k))
 |.elt t x o=>some (.elt t x (o+k))
 |.oelt c z i o=>some (.oelt c z i (o+k))
 |_=>none
theorem zy2(hf:zy1 P t f=some (k,ty))(b o:Nat):QExec P (Instr.fieldAt t (.pointer (some ⟨b,o,none⟩)) f) h (.pointer (some ⟨b,o+k,none⟩)):=by
 unfold zy1 at hf
 split at hf
 ·rename_i fs hu
  split at hf
  ·rename_i fl Z
   split at hf
   ·rename_i i hi
    cases hz:Nat.beq i.size 0 with
    |true=>rw[hz]at hf;cases hf
    |false=>
     rw[hz]at hf
     simp only[cond_false,Ab,Be]at hf
     obtain⟨rfl,rfl⟩:=hf
     intro B d
     have hq:=QExec.underlying (h:=h) hu B d
     have hs:=QExec.sizeOf (h:=h) hi B d
     have aa:¬(qn P fl.type=0):=by
      unfold qn;rw[hi]
      intro e
      simp only at e
      rw[e]at hz;simp at hz
     unfold Instr.fieldAt Dh fieldPlace
     simp only[Sem.run_bind,hq,Result.andThen_ok,Z,Sem.run_pure,hs,aa,if_false,zu]
   ·cases hf
  ·cases hf
 ·cases hf
theorem zt1{aa Z:AA}(h:qfo k aa=some Z)(hd:DenA γ aa u):∃b o,u=.pointer (some ⟨b,o,none⟩)/\DenA γ Z (.pointer (some ⟨b,o+k,none⟩)):=by
 unfold qfo at h
 split at h
 ·simp only[Ab]at h;subst h;exact⟨_,_,hd,rfl⟩
 ·simp only[Ab]at h;subst h
  obtain⟨b,f,cs,e,h1,h2⟩:=hd
  exact⟨_,_,e,b,f,cs,by rw[Dv],h1,h2⟩
 ·simp only[Ab]at h;subst h
  obtain⟨g,e1,e2⟩:=hd
  exact⟨_,_,e2,g,e1,by rw[Dv]⟩
 ·cases h
def zy3(P:Program)(ty:TypeId)(l:List AA)(k:Nat):Option AG:=match Xu P ty with
 |some s=>match takeN l k (z3y s)with
  |some r=>zl4 s r
  |none=>none
 |none=>none
theorem zor(hs:Xu P t=some s)(h:za):QExec P (isAgg t) h s.isSome:=by
 unfold Xu at hs
 split at hs
 ·rename_i a hv
  simp only[Ab]at hs;subst hs
  unfold zx5 at hv
  split at hv
  ·exact absurd hv (by split <;> (first|(intro h;cases h;done)|(cases Nat.beq _ _ <;> intro h <;> cases h)))
  ·exact absurd hv (by split <;> (first|(intro h;cases h;done)|(cases Nat.beq _ _ <;> intro h <;> cases h)))
  ·rename_i d aa Z hu
   intro B e
   have hq:=QExec.underlying (h:=h) hu B e
   unfold isAgg
   rw[Sem.run_bind,hq]
   cases d <;> first|rfl|exact(aa _ rfl).elim|exact(Z _ _ rfl).elim
  ·cases hv
 ·rename_i l hv
  simp only[Ab]at hs;subst hs
  unfold zx5 at hv
  have hu:(∃fs,P.underlying t=some (.struct fs))\/∃n e,P.underlying t=some (.array n e):=by
   split at hv
   ·exact .inl ⟨_,by assumption⟩
   ·exact .inr ⟨_,_,by assumption⟩
   ·simp at hv
   ·cases hv
  intro B e
  rcases hu with⟨fs,hu⟩|⟨m,e',hu⟩
  ·have hq:=QExec.underlying (h:=h) hu B e
   unfold isAgg
   rw[Sem.run_bind,hq];rfl
  ·have hq:=QExec.underlying (h:=h) hu B e
   unfold isAgg
   rw[Sem.run_bind,hq];rfl
 ·cases hs
theorem z4s(hs:Xu P t=some (some n)):qn P t=n/\∃i,P.info? t=some i:=by
 unfold Xu at hs
 split at hs
 ·cases hs
 ·rename_i l hv
  simp only[Ab]at hs
  subst hs
  unfold zx5 at hv
  have key:∀x:Option (List Atom),(match x with
    |some l=>bif Nat.beq l.length (qn P t)then some (VT.agg l)else none
    |none=>none)=some (.agg l)->qn P t=l.length:=by
   intro x hx
   split at hx
   ·rename_i l'
    cases hb:Nat.beq l'.length (qn P t)with
    |false=>rw[hb]at hx;cases hx
    |true=>
     rw[hb]at hx
     simp only[cond_true,Ab,VT.agg.injEq]at hx
     rw[<-hx];exact(Ah hb).symm
   ·cases hx
  split at hv
  ·exact⟨key _ hv,info_of_underlying (by assumption)⟩
  ·exact⟨key _ hv,info_of_underlying (by assumption)⟩
  ·simp at hv
  ·cases hv
 ·cases hs
theorem zbq{l:List AA}{ag:AG}(hp:zy3 P ty l k=some ag)(hd:All2 (DenA γ) l us)(h:za):∃v,DenG γ ag v/\QExec P (part ty us.toArray k) h v:=by
 unfold zy3 at hp
 split at hp
 ·rename_i s hs
  split at hp
  ·rename_i r hr
   obtain⟨rfl,hn⟩:=zar hr
   have h3:=(hd.drop k).take (z3y s)
   have Z:((us.drop k).take (z3y s)).length=z3y s:=by rw[<-h3.length];exact hn
   cases s with
   |none=>
    generalize hq:(us.drop k).take (z3y none)=q at *
    match q,Z,hq with
    |[v],_,hq=>
     generalize aa:(l.drop k).take (z3y none)=r' at *
     match r',h3 with
     |[x],h3=>
      simp only[zl4,Ab]at hp
      subst hp
      refine⟨v,h3.1,λB d=>?_⟩
      have ha:=zor hs h B d
      have hv:us[k]?=some v:=by
       have:((us.drop k).take 1)[0]?=some v:=by rw[show(us.drop k).take 1=[v]from hq];rfl
       rw[AL,if_pos (by omega),AQ]at this
       simpa using this
      unfold part
      rw[Sem.run_bind,ha]
      simp[hv]
     |[],h3=>exact h3.elim
     |_::_::_,h3=>exact h3.2.elim
   |some n=>
    simp only[zl4,Ab]at hp
    subst hp
    refine⟨.agg ((us.drop k).take n).toArray,⟨_,rfl,h3⟩,λB d=>?_⟩
    have ha:=zor hs h B d
    obtain⟨hz,i,hi⟩:=z4s hs
    have hS:=QExec.sizeOf (h:=h) hi B d
    unfold part
    rw[Sem.run_bind,ha]
    simp only[Option.isSome_some,Result.andThen_ok,if_true]
    rw[Sem.run_bind,hS,hz]
    simp
  ·cases hp
 ·cases hp
end
section
variable {cs:CS} {γ:Gh} {h:za} {u:Value} {t el:TypeId} {a:Option Addr} {n:Int} {av:AV} {P:Program} {cap:Nat} {g:Option Bool} {σ:Operand -> Value} {b:Bool} {o:Oper}
variable {h0 : za} {W : Nat -> Prop} {M0 : Fr}
def rowOf(cs:CS):AA->Option ((t:Ty)×List (El t))
 |.d (.row t) xs=>some ⟨t,xs⟩
 |.dc t xs=>some ⟨t,xs⟩
 |.own c=>match Qz cs c with
  |some (.fz t xs)=>some ⟨t,xs⟩
  |_=>none
 |_=>none
theorem zc9(I:Inv h0 W M0 cs γ h){aa:AA}{r:(t:Ty)×List (El t)}(hr:rowOf cs aa=some r)(hd:DenA γ aa u):Rd γ.M (.row r.1) r.2 [u]:=by
 unfold rowOf at hr
 split at hr
 ·simp only[Ab]at hr;subst hr;exact hd
 ·simp only[Ab]at hr;subst hr;obtain⟨s,_,_,h⟩:=hd;exact h
 ·split at hr
  ·rename_i t xs hc
   simp only[Ab]at hr;subst hr
   rw[show u=_ from hd]
   exact I.den _ (qb hc)
  ·cases hr
 ·cases hr
theorem Rd.sub{M:Fr}{t:Ty}{xs:List (El t)}{n c:Nat}(H:Rd M (.row t) xs [.slice a n c]){l r m:Nat}(h1:l<=r)(h2:r<=xs.length)(h3:r<=m)(h4:m<=c):
  Rd M (.row t) ((xs.take r).drop l) [.slice (zjc a (sz t) l m) (r-l) (m-l)]:=by
 obtain⟨v,e,a',c',e2,hn,H⟩:=H
 cases e
 simp only[AX]at e2
 obtain⟨rfl,rfl,rfl⟩:=e2
 have Z:((xs.take r).drop l).length=r-l:=by simp;omega
 refine⟨_,rfl,zjc a (sz t) l m,m-l,by rw[Z],⟨by rw[Z];omega,by rw[Z];omega⟩,?_⟩
 by_cases hr:r=l
 ·left
  apply AO
  omega
 rcases H with aa|⟨b,o,cs,e1,hM,hi⟩
 ·left;subst aa;simp
 ·right
  have ab:¬(m=l):=by omega
  refine⟨b,o+l*sz t,cs,?_,hM,λi ae=>?_⟩
  ·unfold zjc;rw[if_neg ab,e1];simp[zu]
  ·have:=hi (l+i) (by omega)
   have e3:((xs.take r).drop l)[i]=xs[l+i]:=by simp
   rw[e3]
   have e4:o+l*sz t+i*sz t=o+(l+i)*sz t:=by rw[BU];omega
   rw[e4];exact this
def qfp:AV->Option Int
 |.g (.a (.v (.int _ n)))=>some n
 |_=>none
theorem zt2(h:qfp av=some n)(hd:DenV γ av u):∃k,u=.int k n:=by
 unfold qfp at h
 split at h
 ·simp only[Ab]at h;subst h;exact⟨_,hd⟩
 ·cases h
def z4t(P:Program)(t:TypeId):Option TypeId:=match P.underlying t with
 |some (.slice el)=>bif qd P el then some el else none
 |_=>none
theorem Jb(h:z4t P t=some el):P.underlying t=some (.slice el)/\qd P el=true:=by
 unfold z4t at h
 split at h
 ·rename_i e hu
  cases ho:qd P e with
  |false=>rw[ho]at h;cases h
  |true=>rw[ho]at h;simp only[cond_true,Ab]at h;subst h;exact⟨hu,ho⟩
 ·cases h
def zy4(P:Program)(cs:CS)(t:TypeId)(aa:AA)(n:Int)(g:Option Bool)(K:AV->Prop):Prop:=
 match z4t P t with
 |some el=>match rowOf cs aa with
  |some r=>bif Nat.beq (qn P el) (sz r.1)then ∃y:El r.1,req g (0<=n/\r.2[n.toNat]?=some y)/\K (.g (.a (.elt r.1 y 0)))else False
  |none=>match aa with
   |.own c=>match Qz cs c with
    |some (.row e ty xs)=>bif Nat.beq (qn P el) (sz ty)then req g (0<=n/\n.toNat<xs.length)/\K (.g (.a (.oelt c (sz ty) n.toNat 0)))else False
    |_=>False
   |_=>False
 |none=>False
theorem zos(hu:P.underlying t=some (.slice el))(ho:qd P el=true){a:Addr}{len cap:Nat}{k:IntKind}(h1:0<=n)(h2:n<(len:Int))(h:za):
  QExec P (Ek t (.slice (some a) len cap) (.int k n)) h (.pointer (some (a.add (n.toNat*qn P el)))):=by
 have:=Zv (P:=P) (t:=t) (x:=.slice (some a) len cap) (i:=.int k n) (g:=none) (K:=λv=>v=.pointer (some (a.add (n.toNat*qn P el))))
  (λaa Z=>by
   rcases Z with Z|⟨m,Z⟩
   ·rw[hu]at Z;cases Z;exact yw ho
   ·rw[hu]at Z;cases Z) (by unfold zn5;rw[hu];exact⟨a,⟨rfl,h1,h2⟩,rfl⟩)
 obtain⟨v,rfl,hq⟩:=this
 exact hq trivial h
theorem zot{aa:AA}{K:AV->Prop}(H:zy4 P cs t aa n g K):
  ∃av,K av/\(gok g->∀γ h u k,Inv h0 W M0 cs γ h->DenA γ aa u->∃v,DenV γ av v/\QExec P (Ek t u (.int k n)) h v):=by
 unfold zy4 at H
 split at H
 ·rename_i el ai
  obtain⟨hu,ho⟩:=Jb ai
  split at H
  ·rename_i r hr
   cases hz:Nat.beq (qn P el) (sz r.1)with
   |false=>rw[hz]at H;exact H.elim
   |true=>
    rw[hz]at H
    obtain⟨y,hy,hK⟩:=H
    refine⟨_,hK,λhg γ h u k I hd=>?_⟩
    obtain⟨ae,af⟩:=hy.out hg
    have ab:=Ah hz
    obtain⟨v,e,a,c,e2,hn,H⟩:=zc9 I hr hd
    cases e
    subst e2
    have hi:n.toNat<r.2.length:=(AF.1 af).1
    have hx:r.2[n.toNat]=y:=(AF.1 af).2
    rcases H with aj|⟨b,o,cc,e1,hM,ak⟩
    ·rw[aj]at hi;simp at hi
    ·subst e1
     refine⟨_,?_,zos hu ho ae (by omega) h⟩
     have:=ak n.toNat hi
     rw[hx]at this
     rw[zu,ab]
     exact⟨b,o+n.toNat*sz r.1,cc,rfl,hM,this⟩
  ·split at H
   ·rename_i c _
    split at H
    ·rename_i e ty xs hc
     cases hz:Nat.beq (qn P el) (sz ty)with
     |false=>rw[hz]at H;exact H.elim
     |true=>
      rw[hz]at H
      obtain⟨hy,hK⟩:=H
      refine⟨_,hK,λhg γ h u k I hd=>?_⟩
      obtain⟨ae,hi⟩:=hy.out hg
      have ab:=Ah hz
      obtain⟨cells,Z,an,_,hl⟩:=I.den _ (qb hc)
      simp only at hl Z
      rcases Z.2 with⟨hv,h1⟩|⟨g',cap,ar,hv,_,ap,_,_,_,am⟩
      ·omega
      ·simp only[AX]at hv
       have ah:u=slV (γ.σ c):=hd
       subst ah
       unfold slV
       rw[hv.1]
       refine⟨_,?_,zos hu ho ae (by omega) h⟩
       rw[zu,ab,AK]
       exact⟨g',hv.1,rfl⟩
    ·exact H.elim
   ·exact H.elim
 ·exact H.elim
def zou(ρ:Operand->Option AV)(d:Int):Option Operand->Option Int
 |none=>some d
 |some x=>match ρ x with
  |some av=>qfp av
  |none=>none
theorem Jc{ρ:Operand->Option AV}(hρ:∀x av,ρ x=some av->DenV γ av (σ x)){d n:Int}{x:Option Operand}(h:zou ρ d x=some n):yx (x.map σ) d=some n:=by
 unfold zou at h
 split at h
 ·exact h
 ·rename_i y
  split at h
  ·rename_i av Z
   obtain⟨k,e⟩:=zt2 h (hρ _ _ Z)
   simp[yx,e]
  ·cases h
def zy5(P:Program)(cs:CS)(ρ:Operand->Option AV)(t:TypeId)(aa:AA)(lo hi mx:Option Operand)(g:Option Bool)(K:AV->Prop):Prop:=
 match z4t P t with
 |some el=>match rowOf cs aa with
  |some r=>bif Nat.beq (qn P el) (sz r.1)then(match zou ρ 0 lo,zou ρ (r.2.length:Int) hi with
   |some l,some h=>match mx with
    |none=>req g (0<=l/\l<=h/\h<=(r.2.length:Int))/\K (.g (.a (.d (.row r.1) ((r.2.take h.toNat).drop l.toNat))))
    |some m=>match zou ρ 0 (some m),hi with
     |some m,some _=>req g (0<=l/\l<=h/\h<=(r.2.length:Int)/\m=h)/\K (.g (.a (.dc r.1 ((r.2.take h.toNat).drop l.toNat))))
     |_,_=>False
   |_,_=>False)else False
  |none=>False
 |none=>False
theorem zov(hu:P.underlying t=some (.slice el))(ho:qd P el=true){len cap:Nat}{lo hi mx:Option Value}{l r m:Int}(hl:yx lo 0=some l)(hr:yx hi (len:Int)=some r)(hm:yx mx (cap:Int)=some m)
  (h0:mx=none\/∃v,hi=some v) (h1:0<=l) (h2:l<=r) (h3:r<=m) (h4:m<=(cap:Int)) (h:za):
  QExec P (DZ t (.slice a len cap) lo hi mx) h (.slice (zjc a (qn P el) l.toNat m.toNat) (r.toNat-l.toNat) (m.toNat-l.toNat)):=by
 have:=Yn (P:=P) (t:=t) (x:=.slice a len cap) (lo:=lo) (hi:=hi) (mx:=mx) (g:=none) (K:=λv=>v=.slice (zjc a (qn P el) l.toNat m.toNat) (r.toNat-l.toNat) (m.toNat-l.toNat))
  (λaa Z=>by rcases Z with Z|⟨n',Z⟩ <;> (rw[hu]at Z;cases Z);exact yw ho) (by unfold ztp;rw[hu];simp only[hl,hr,hm];exact⟨h0,⟨h1,h2,h3,h4⟩,trivial⟩)
 obtain⟨v,rfl,hq⟩:=this
 exact hq trivial h
theorem zow{ρ:Operand->Option AV}{aa:AA}{lo hi mx:Option Operand}{K:AV->Prop}(H:zy5 P cs ρ t aa lo hi mx g K):
  ∃av,K av/\(gok g->∀γ h u σ,Inv h0 W M0 cs γ h->(∀x av,ρ x=some av->DenV γ av (σ x))->DenA γ aa u->∃v,DenV γ av v/\QExec P (DZ t u (lo.map σ) (hi.map σ) (mx.map σ)) h v):=by
 unfold zy5 at H
 split at H
 ·rename_i el ai
  obtain⟨hu,ho⟩:=Jb ai
  split at H
  ·rename_i r hr
   cases hz:Nat.beq (qn P el) (sz r.1)with
   |false=>rw[hz]at H;exact H.elim
   |true=>
    rw[hz]at H
    have af:=Ah hz
    simp only[cond_true]at H
    split at H
    ·rename_i l hh hl ah
     split at H
     ·obtain⟨hy,hK⟩:=H
      refine⟨_,hK,λhg γ h u σ I hρ hd=>?_⟩
      obtain⟨h1,h2,h3⟩:=hy.out hg
      have Z:=zc9 I hr hd
      have ab:=Z
      obtain⟨v,e,a,c,e2,hn,_⟩:=ab
      cases e
      subst e2
      refine⟨_,?_,zov hu ho (Jc hρ hl) (Jc hρ ah) (m:=(c:Int)) rfl (.inl rfl) h1 h2 (by omega) (Int.le_refl _) h⟩
      rw[af]
      exact Z.sub (by omega) (by omega) (by omega) (by omega)
     ·rename_i m
      split at H
      ·rename_i m' hx hm
       obtain⟨hy,hK⟩:=H
       refine⟨_,hK,λhg γ h u σ I hρ hd=>?_⟩
       obtain⟨h1,h2,h3,h4⟩:=hy.out hg
       subst h4
       have Z:=zc9 I hr hd
       have ab:=Z
       obtain⟨v,e,a,c,e2,hn,_⟩:=ab
       cases e
       subst e2
       have ae:=Jc hρ hm
       have aj:yx ((some m).map σ) (c:Int)=some m':=by
        unfold yx at ae ⊢
        simp only[D6]at ae ⊢
        split at ae <;> simp_all
       refine⟨_,?_,zov hu ho (Jc hρ hl) (Jc hρ ah) aj (.inr ⟨_,rfl⟩) h1 h2 (Int.le_refl _) (by omega) h⟩
       rw[af]
       refine⟨⟨_,_,_⟩,rfl,rfl,Z.sub (by omega) (by omega) (by omega) (by omega)⟩
      ·exact H.elim
    ·exact H.elim
  ·exact H.elim
 ·exact H.elim
def qf7(cs:CS):AA->Option Nat
 |.d (.row _) xs=>some xs.length
 |.dc _ xs=>some xs.length
 |.own c=>match Qz cs c with
  |some (.fz _ xs)=>some xs.length
  |some (.row _ _ xs)=>some xs.length
  |_=>none
 |_=>none
theorem z4u(I:Inv h0 W M0 cs γ h){aa:AA}{n:Nat}(hn:qf7 cs aa=some n)(hd:DenA γ aa u):∃a c,u=.slice a n c:=by
 have key:∀{t:Ty} {xs:List (El t)},Rd γ.M (.row t) xs [u]->∃a c,u=.slice a xs.length c:=by
  rintro t xs ⟨v,e,a,c,e2,_⟩
  cases e
  exact⟨a,c,e2⟩
 unfold qf7 at hn
 split at hn
 ·simp only[Ab]at hn;subst hn;exact key hd
 ·simp only[Ab]at hn;subst hn;obtain⟨s,_,_,hd⟩:=hd;exact key hd
 ·split at hn
  ·rename_i c t xs hc
   simp only[Ab]at hn;subst hn
   rw[show u=_ from hd]at key ⊢
   exact key (I.den _ (qb hc))
  ·rename_i c e t xs hc
   simp only[Ab]at hn;subst hn
   obtain⟨cells,_,_,_,hl⟩:=I.den _ (qb hc)
   simp only at hl
   rw[show u=_ from hd]
   exact⟨_,_,by unfold slV;rw[hl]⟩
  ·cases hn
 ·cases hn
def qdb:AA->List AA
 |.v x=>x.cells.toList.map .v
 |x=>[x]
def zwl:AV->Option (List AA)
 |.g (.a x)=>some (qdb x)
 |.g (.agg l)=>some l
 |_=>none
theorem qdc(h:u.oneCell'=true):u.cells.toList=[u]:=by
 cases u <;> first|rfl|simp[Value.oneCell']at h
theorem Zz(γ:Gh):∀l:List Value,All2 (DenA γ) (l.map .v) l
 |[]=>trivial
 |_::l=>⟨rfl,Zz γ l⟩
theorem zy6{x:AA}(hd:DenA γ x u):All2 (DenA γ) (qdb x) u.cells.toList:=by
 have key:u.oneCell'=true->All2 (DenA γ) [x] u.cells.toList:=λh=>by rw[qdc h];exact⟨hd,trivial⟩
 cases x with
 |v y=>rw[show u=y from hd];exact Zz γ _
 |d t y=>exact key (Rd.one (show Rd γ.M t y [u]from hd) u (by simp))
 |box c o=>exact key (by rw[show u=_ from hd];rfl)
 |own c=>exact key (by rw[show u=_ from hd];rfl)
 |oelt c z i o=>obtain⟨g,_,e⟩:=hd;exact key (by rw[e];rfl)
 |elt t y o=>obtain⟨b,f,cs,e,_⟩:=hd;exact key (by rw[e];rfl)
 |dc t xs=>obtain⟨s,e,_⟩:=hd;exact key (by rw[e];rfl)
theorem zda{l:List AA}(h:zwl av=some l)(hd:DenV γ av u):All2 (DenA γ) l u.cells.toList:=by
 unfold zwl at h
 split at h
 ·simp only[Ab]at h;subst h;exact zy6 hd
 ·simp only[Ab]at h;subst h
  obtain⟨us,rfl,h2⟩:=hd
  simpa[Value.cells]using h2
 ·cases h
def zox(Z:Nat->Option (Nat×Nat))(cells:List AA):List (Nat×AV)->Option (List AA)
 |[]=>some cells
 |(i,av)::rest=>match Z i,zwl av with
  |some (off,size),some l=>bif Nat.beq l.length size then(bif Nat.ble (off+l.length) cells.length then zox Z (cells.take off++l++cells.drop (off+l.length)) rest else none)else none
  |_,_=>none
theorem z4v(vs:List Value):∀(k off:Nat) (cs:Array Value),off+k+vs.length<=cs.size ->
  ((vs.zipIdx k).foldl (λcs (x:Value×Nat)=>cs.setIfInBounds (off+x.2) x.1) cs).toList=cs.toList.take (off+k)++vs++cs.toList.drop (off+k+vs.length):=by
 induction vs with
 |nil=>intro k off cs h;simp
 |cons v vs ih=>
  intro k off cs h
  simp only[Ap]at h
  rw[List.zipIdx_cons,List.foldl_cons]
  refine(ih (k+1) off (cs.setIfInBounds (off+k) v) (by rw[AU];omega)).trans ?_
  simp only[Array.toList_setIfInBounds,Ap]
  have hi:off+k<cs.toList.length:=by simp;omega
  rw[<-Dv,List.drop_set_of_lt (by omega)]
  have e2:(cs.toList.set (off+k) v).take (off+k+1)=cs.toList.take (off+k)++[v]:=by
   rw[List.take_set,Av hi,List.set_append_right _ _ (by simp;omega)]
   have:off+k-(cs.toList.take (off+k)).length=0:=by simp;omega
   rw[this];rfl
  rw[e2,show off+k+(vs.length+1)=off+k+1+vs.length by omega]
  simp
theorem Wb{aa:Nat->Option (Nat×Nat)}{γ:Gh}:∀{Z:List (Nat×AV)} {cells r:List AA} {us:List Value} {ps:List (Nat×Value)},zox aa cells Z=some r->All2 (DenA γ) cells us->All2 (λ(x:Nat×AV) (y:Nat×Value)=>x.1=y.1/\DenV γ x.2 y.2) Z ps ->
  ∃ws:List Value,EA aa us.toArray ps=some ws.toArray/\All2 (DenA γ) r ws
 |[],cells,r,us,[],h,hc,_=>by
  simp only[zox,Ab]at h
  subst h
  exact⟨us,rfl,hc⟩
 |[],_,_,_,_::_,_,_,hp=>hp.elim
 |_::_,_,_,_,[],_,_,hp=>hp.elim
 |(i,av)::rest,cells,r,us,(j,v)::ps,h,hc,hp=>by
  obtain⟨⟨ab,hv⟩,hp⟩:=hp
  simp only at ab hv
  subst ab
  simp only[zox]at h
  split at h
  ·rename_i off size l aj hl
   cases hb:Nat.beq l.length size with
   |false=>rw[hb]at h;cases h
   |true=>
    rw[hb]at h
    simp only[cond_true]at h
    cases hb2:Nat.ble (off+l.length) cells.length with
    |false=>rw[hb2]at h;cases h
    |true=>
     rw[hb2]at h
     simp only[cond_true]at h
     have af:=zda hl hv
     have ah:=af.length
     have am:=hc.length
     have h1:=Ah hb
     have h2:=BR hb2
     have ai:v.cells.size=size:=by rw[<-h1,ah];simp
     have ae:All2 (DenA γ) (cells.take off++l++cells.drop (off+l.length)) (us.take off++v.cells.toList++us.drop (off+l.length)):=((hc.take off).append af).append (hc.drop _)
     obtain⟨ws,e1,e2⟩:=Wb h ae hp
     refine⟨ws,?_,e2⟩
     simp only[EA,aj]
     have ak:¬((decide (v.cells.size≠size)||decide (off+v.cells.size>us.toArray.size))=true):=by
      rw[ai];simp;omega
     rw[if_neg ak]
     rw[<-e1]
     congr 1
     apply Array.ext'
     have:=z4v v.cells.toList 0 off us.toArray (by simp;omega)
     rw[<-Array.foldl_toList,Array.toList_zipIdx]
     refine this.trans ?_
     simp[<-ah]
  ·cases h
def zdb(P:Program):List Field->Bool
 |[]=>true
 |f::l=>bif qd P f.type then zdb P l else false
theorem zkl{P:Program}{h:za}:∀{l:List Field},zdb P l=true->QExec P (l.mapM λf=>do pure (f.offset,<-Go.sizeOf f.type)) h (l.map λf=>(f.offset,qn P f.type))
 |[],_=>λ_ _=>rfl
 |f::l,H=>by
  simp only[zdb]at H
  cases ho:qd P f.type with
  |false=>rw[ho]at H;cases H
  |true=>
   rw[ho]at H
   obtain⟨i,hi⟩:=yw ho
   rw[Ef]
   exact QExec.bind (QExec.bind (QExec.sizeOf hi) (QExec.pure _)) (QExec.bind (zkl H) (QExec.pure _))
def placeOf(P:Program)(fs:Array Field)(i:Nat):Option (Nat×Nat):=match fs[i]? with
 |some f=>some (f.offset,qn P f.type)
 |none=>none
def zdc(ρ:Operand->Option AV):List (Nat×Operand)->Option (List (Nat×AV))
 |[]=>some []
 |(i,x)::l=>match ρ x,zdc ρ l with
  |some av,some r=>some ((i,av)::r)
  |_,_=>none
theorem zas{γ:Gh}{ρ:Operand->Option AV}{σ:Operand->Value}(hρ:∀x av,ρ x=some av->DenV γ av (σ x)):∀{l:List (Nat×Operand)} {r:List (Nat×AV)},zdc ρ l=some r ->
  All2 (λ(x:Nat×AV) (y:Nat×Value)=>x.1=y.1/\DenV γ x.2 y.2) r (l.map λx=>(x.1,σ x.2))
 |[],r,h=>by simp only[zdc,Ab]at h;subst h;trivial
 |(i,x)::l,r,h=>by
  simp only[zdc]at h
  split at h
  ·rename_i av r' h1 h2
   simp only[Ab]at h
   subst h
   exact⟨⟨rfl,hρ _ _ h1⟩,zas hρ h2⟩
  ·cases h
def zeroOf(P:Program)(t:TypeId):Option Value:=match P.info? t with
 |some i=>i.zero
 |none=>none
theorem Jd{z:Value}(h:zeroOf P t=some z)(hp:za):QExec P (zeroValue t) hp z:=by
 unfold zeroOf at h
 split at h
 ·rename_i i hi
  intro B d
  simp[zeroValue,typeInfo,program,hi,Sem.run,h]
 ·cases h
def zy7(P:Program)(t:TypeId)(Z:List (Nat×AV)):Option (List AA):=match P.underlying t,zeroOf P t with
 |some (.struct fs),some z=>bif zdb P fs.toList then zox (placeOf P fs) (z.cells.toList.map .v) Z else none
 |_,_=>none
theorem zoy{Z:List (Nat×AV)}{r:List AA}(h:zy7 P t Z=some r){ps:List (Nat×Value)}(hp:All2 (λ(x:Nat×AV) (y:Nat×Value)=>x.1=y.1/\DenV γ x.2 y.2) Z ps)(hh:za):
  ∃ws:List Value,QExec P (Instr.build t ps.toArray) hh (.agg ws.toArray)/\All2 (DenA γ) r ws:=by
 unfold zy7 at h
 split at h
 ·rename_i fs z hu hz
  cases hof:zdb P fs.toList with
  |false=>rw[hof]at h;cases h
  |true=>
   rw[hof]at h
   simp only[cond_true]at h
   obtain⟨ws,e1,e2⟩:=Wb h (Zz γ _) hp
   refine⟨ws,?_,e2⟩
   intro B d
   have hq:=QExec.underlying (h:=hh) hu B d
   have ab:=Jd hz hh B d
   have aa:=zkl (P:=P) (h:=hh) hof B d
   unfold Instr.build
   rw[Sem.run_bind,ab]
   simp only[Result.andThen_ok]
   rw[Sem.run_bind,hq]
   simp only[Result.andThen_ok]
   rw[Sem.run_bind,Array.mapM_eq_mapM_toList,Sem.run_map,aa]
   simp only[Result.andThen_ok]
   have e3:(λi=>((fs.toList.map λf=>(f.offset,qn P f.type)).toArray)[i]?)=placeOf P fs:=by
    funext i
    unfold placeOf
    cases hi:fs[i]? <;> simp[hi]
   rw[e3]
   have e4:z.cells.toList.toArray=z.cells:=by simp
   rw[e4]at e1
   simp only[e1]
   rfl
 ·cases h
def zy8(P:Program)(t:TypeId)(a b:Value):Option Bool:=match P.underlying t,a,b with
 |some (.int _),.int k x,.int k' y=>if k=k' then some (x==y)else none
 |some .string,.string x,.string y=>some (x.toList==y.toList)
 |some .bool,.bool x,.bool y=>some (x==y)
 |_,_,_=>none
def z92(P:Program)(xs ys:List AA):List Field->Option Bool
 |[]=>some true
 | f :: fs => if f.name = "_" then none else match zy3 P f.type xs f.offset, zy3 P f.type ys f.offset with
  |some (.a (.v a)),some (.a (.v b))=>match zy8 P f.type a b,z92 P xs ys fs with
   |some p,some q=>some (p&&q)
   |_,_=>none
  |_,_=>none
def eqA(P:Program)(o:Oper)(ρ:Operand->Option AV):Option Bool:=match o.op with
 |.binOp .eql t x y _=>match ρ x,ρ y with
  |some (.g (.agg xs)),some (.g (.agg ys))=>match P.underlying t with
   |some (.struct _)=>bif P.stoodInHeld t then none else bif P.eqGuardType P.depth t then none else z92 P xs ys (P.fieldsOf t).toList
   |_=>none
  |_,_=>none
 |.binOp .neq t x y _=>match ρ x,ρ y with
  |some (.g (.agg xs)),some (.g (.agg ys))=>match P.underlying t with
   |some (.struct _)=>bif P.stoodInHeld t then none else bif P.eqGuardType P.depth t then none else(match z92 P xs ys (P.fieldsOf t).toList with
    |some b=>some (!b)
    |none=>none)
   |_=>none
  |_,_=>none
 |_=>none
theorem zoz{a b:Value}{r:Bool}(h:zy8 P t a b=some r)(d:Nat)(w:World):(Op.equalIn (d+1) t a b).run P w=.ok r w:=by
 unfold zy8 at h
 split at h
 ·rename_i k0 k x k' y hu
  split at h
  ·rename_i hk
   simp only[Ab]at h
   subst hk;subst h
   exact run_equalIn_int w d t k k0 x y hu
  ·cases h
 ·rename_i x y hu
  simp only[Ab]at h
  subst h
  exact run_equalIn_string w d t x y hu
 ·rename_i x y hu
  simp only[Ab]at h
  subst h
  exact run_equalIn_bool' w d t x y hu
 ·cases h
theorem zkm{P:Program}{γ:Gh}{xs ys:List AA}{us vs:List Value}(hx:All2 (DenA γ) xs us)(hy:All2 (DenA γ) ys vs)(d:Nat)(h:za):∀(fs:List Field) (b:Bool),z92 P xs ys fs=some b->QExec P (Op.eqFields (d+1) us.toArray vs.toArray fs) h b
 |[],b,hb=>by
  simp only[z92,Ab]at hb
  subst hb
  exact QExec.pure _
 |f::fs,b,hb=>by
  unfold z92 at hb
  split at hb
  ·cases hb
  ·rename_i hn
   split at hb
   ·rename_i a b' ae ab
    split at hb
    ·rename_i p q hp hq
     simp only[Ab]at hb
     subst hb
     obtain⟨v1,e1,r1⟩:=zbq ae hx h
     obtain⟨v2,e2,r2⟩:=zbq ab hy h
     have Z:v1=a:=e1
     have aa:v2=b':=e2
     subst Z;subst aa
     intro B dd
     unfold Op.eqFields
     rw[if_pos (by exact hn)]
     rw[Sem.run_bind,r1 B dd]
     simp only[Result.andThen_ok]
     rw[Sem.run_bind,r2 B dd]
     simp only[Result.andThen_ok]
     rw[Sem.run_bind,zoz hp d]
     simp only[Result.andThen_ok]
     cases p with
     |false=>rfl
     |true=>simpa using zkm hx hy d h fs q hq B dd
    ·cases hb
   ·cases hb
theorem zo0{ρ:Operand->Option AV}(H:eqA P o ρ=some b)(hρ:∀x av,ρ x=some av->DenV γ av (σ x))(h:za):QExec P (execOp σ o) h (.value (.bool b)):=by
 have key:∀{t:TypeId} {xs ys:List AA} {us vs:List Value} {fs:Array Field} {b:Bool},P.underlying t=some (.struct fs)->P.stoodInHeld t=false->All2 (DenA γ) xs us->All2 (DenA γ) ys vs->z92 P xs ys (P.fieldsOf t).toList=some b->QExec P (Op.equalIn 10000 t (.agg us.toArray) (.agg vs.toArray)) h b:=by
  intro t xs ys us vs fs b hu hs hx hy hb B d
  have hf:P.underlying t=some (.struct (P.fieldsOf t)):=by rw[hu];simp[Program.fieldsOf,hu]
  rw[run_equalIn_struct _ 9999 t us.toArray vs.toArray hf hs]
  exact zkm hx hy 9998 h _ b hb B d
 unfold eqA at H
 split at H
 ·rename_i t x y yt ho
  split at H
  ·rename_i xs ys hx hy
   split at H
   ·rename_i fs hu
    cases hs:P.stoodInHeld t with
    |true=>rw[hs]at H;cases H
    |false=>
     cases hg:P.eqGuardType P.depth t with
     |true=>rw[hs,hg]at H;cases H
     |false=>
      rw[hs,hg]at H
      obtain⟨us,e1,d1⟩:=hρ _ _ hx
      obtain⟨vs,e2,d2⟩:=hρ _ _ hy
      have hk:=key hu hs d1 d2 H
      simp only[execOp,ho,e1,e2]
      refine QExec.val λB d=>?_
      rw[Sem.run_bind,run_eqGuard_agg _ _ _ _ _ _ _ hg]
      simp only[Result.andThen_ok]
      rw[run_eql_struct,hk B d]
      rfl
   ·cases H
  ·cases H
 ·rename_i t x y yt ho
  split at H
  ·rename_i xs ys hx hy
   split at H
   ·rename_i fs hu
    cases hs:P.stoodInHeld t with
    |true=>rw[hs]at H;cases H
    |false=>
     cases hg:P.eqGuardType P.depth t with
     |true=>rw[hs,hg]at H;cases H
     |false=>
      rw[hs,hg]at H
      simp only[cond_false]at H
      split at H
      ·rename_i b' Z
       simp only[Ab]at H
       subst H
       obtain⟨us,e1,d1⟩:=hρ _ _ hx
       obtain⟨vs,e2,d2⟩:=hρ _ _ hy
       have hk:=key hu hs d1 d2 Z
       simp only[execOp,ho,e1,e2]
       refine QExec.val λB d=>?_
       rw[Sem.run_bind,run_eqGuard_agg _ _ _ _ _ _ _ hg]
       simp only[Result.andThen_ok]
       rw[run_neq_struct,hk B d]
       rfl
      ·cases H
   ·cases H
  ·cases H
 ·cases H
def qA0(P:Program)(o:Oper)(ρ:Operand->Option AV)(g:Option Bool)(cs:CS)(K:AV->Prop):Prop:=
 bif (bif zfo o then(bif isQ P o then(bif we o.op then zhf ρ o.op.operands.toList else false)else false)else false)then Yh P o (qfn ρ) g #[] (λv=>K (zwi v))else
 match o.op with
 |.move x=>match ρ x with
  |some av=>K av
  |none=>False
 |.assign x=>match ρ x with
  |some av=>K av
  |none=>False
 |.extract x i=>match ρ x with
  |some (.tup l)=>match l[i]? with
   |some ag=>K (.g ag)
   |none=>False
  |some (.nx b p c)=>match i with
   |0=>K (.g (.a (.v (.bool b))))
   |1=>req g (b=true)/\K (.g (.a (.v (.int .i64 p))))
   |2=>req g (b=true)/\K (.g (.a (.v (.int .i32 c))))
   |_=>False
  |_=>False
 |.field t x f=>match ρ x,zy1 P t f with
  |some (.g (.agg l)),some (k,ty)=>match zy3 P ty l k with
   |some ag=>K (.g ag)
   |none=>False
  |_,_=>False
 |.fieldAddr t x f=>match ρ x,zy1 P t f with
  |some (.g (.a aa)),some (k,_)=>match qfo k aa with
   |some ab=>K (.g (.a ab))
   |none=>False
  |_,_=>False
 |.load t x=>match ρ x with
  |some (.g (.a aa))=>zwk P cs t aa g K
  |_=>False
 |.indexAddr t x i=>match ρ x,ρ i with
  |some (.g (.a aa)),some iv=>match qfp iv with
   |some n=>zy4 P cs t aa n g K
   |none=>False
  |_,_=>False
 |.slice t x lo hi mx=>match ρ x with
  |some (.g (.a aa))=>zy5 P cs ρ t aa lo hi mx g K
  |_=>False
 |.nilCheck x=>match ρ x with
  |some (.g (.a aa))=>match qfo 0 aa with
   |some _=>K (.g (.a aa))
   |none=>False
  |_=>False
 |.build t Z=>match zdc ρ Z.toList with
  |some ps=>match zy7 P t ps with
   |some r=>K (.g (.agg r))
   |none=>False
  |none=>False
 |.call c=>match c.callee with
  |.builtin .len=>match c.args.toList,c.argTypes.toList with
   |[x],[t]=>match ρ x,P.underlying t with
    |some (.g (.a (.v (.string s)))),some .string=>K (.g (.a (.v (.int .i64 (s.size:Int)))))
    |some (.g (.a (.v (.slice _ n _)))),some (.slice _)=>K (.g (.a (.v (.int .i64 (n:Int)))))
    |some (.g (.a aa)),some (.slice _)=>match qf7 cs aa with
     |some n=>K (.g (.a (.v (.int .i64 (n:Int)))))
     |none=>False
    |_,_=>False
   |_,_=>False
  |_=>False
 |_=>False
theorem zy9{ρ:Operand->Option AV}{K:AV->Prop}(H:qA0 P o ρ g cs K):
  ∃av,K av/\(gok g->∀γ h σ,Inv h0 W M0 cs γ h->(∀x av,ρ x=some av->DenV γ av (σ x))->∃v,DenV γ av v/\QExec P (execOp σ o) h (.value v)):=by
 unfold qA0 at H
 cases hb:(bif zfo o then(bif isQ P o then(bif we o.op then zhf ρ o.op.operands.toList else false)else false)else false)with
 |true=>
  rw[hb]at H
  cases hfam:zfo o with
  |false=>rw[hfam]at hb;cases hb
  |true=>
   cases hq:isQ P o with
   |false=>rw[hfam,hq]at hb;cases hb
   |true=>
    cases hns:we o.op with
    |false=>rw[hfam,hq,hns]at hb;cases hb
    |true=>
     rw[hfam,hq,hns]at hb
     simp only[cond_true]at hb H
     obtain⟨v,h1,h2⟩:=zak hfam H
     refine⟨_,h1,λhg γ h σ I hρ=>⟨v,Ja γ v,?_⟩⟩
     rw[zop hρ hns hb]
     exact h2 hg h ⟨by simp,λi hi=>absurd hi (by simp)⟩
 |false=>
  rw[hb]at H
  simp only[cond_false]at H
  have val:∀{s:Sem Value} {h:za} {v:Value},QExec P s h v->QExec P (s >>= λx=>(Dc (Dl x):Sem Next)) h (.value v):=λhq=>QExec.val hq
  split at H
  ·rename_i x ho
   split at H
   ·rename_i av Z
    exact⟨av,H,λ_ γ h σ I hρ=>⟨_,hρ _ _ Z,by simp only[execOp,ho];exact QExec.pure _⟩⟩
   ·exact H.elim
  ·rename_i x ho
   split at H
   ·rename_i av Z
    exact⟨av,H,λ_ γ h σ I hρ=>⟨_,hρ _ _ Z,by simp only[execOp,ho];exact QExec.pure _⟩⟩
   ·exact H.elim
  ·rename_i x i ho
   split at H
   ·rename_i l Z
    split at H
    ·rename_i ag ah
     refine⟨_,H,λ_ γ h σ I hρ=>?_⟩
     obtain⟨us,e,h2⟩:=hρ _ _ Z
     obtain⟨u,hu,hd⟩:=h2.get ah
     refine⟨u,hd,?_⟩
     simp only[execOp,ho,e]
     refine val λB d=>?_
     unfold Instr.extract
     simp[hu]
    ·exact H.elim
   ·rename_i b p c Z
    split at H
    ·refine⟨_,H,λ_ γ h σ I hρ=>⟨_,rfl,?_⟩⟩
     obtain⟨e1,e2⟩:=hρ _ _ Z
     simp only[execOp,ho]
     refine val λB d=>?_
     cases b with
     |true=>rw[e1 rfl];rfl
     |false=>rw[e2 rfl];rfl
    ·refine⟨_,H.2,λhg γ h σ I hρ=>⟨_,rfl,?_⟩⟩
     obtain⟨e1,_⟩:=hρ _ _ Z
     simp only[execOp,ho,e1 (H.1.out hg)]
     exact val λB d=>rfl
    ·refine⟨_,H.2,λhg γ h σ I hρ=>⟨_,rfl,?_⟩⟩
     obtain⟨e1,_⟩:=hρ _ _ Z
     simp only[execOp,ho,e1 (H.1.out hg)]
     exact val λB d=>rfl
    ·exact H.elim
   ·exact H.elim
  ·rename_i t x f ho
   split at H
   ·rename_i l k ty Z hf
    split at H
    ·rename_i ag ah
     refine⟨_,H,λ_ γ h σ I hρ=>?_⟩
     obtain⟨us,e,h2⟩:=hρ _ _ Z
     obtain⟨v,hd,hq⟩:=zbq ah h2 h
     refine⟨v,hd,?_⟩
     simp only[execOp,ho,e]
     refine val λB d=>?_
     unfold zy1 at hf
     split at hf
     ·rename_i fs hu
      split at hf
      ·rename_i fl ax
       split at hf
       ·rename_i i hi
        cases hz:Nat.beq i.size 0 with
        |true=>rw[hz]at hf;cases hf
        |false=>
         rw[hz]at hf
         simp only[cond_false,Ab,Be]at hf
         obtain⟨rfl,rfl⟩:=hf
         have ar:=QExec.underlying (h:=h) hu B d
         unfold Instr.field
         rw[Sem.run_bind,ar]
         simp only[Result.andThen_ok,ax,asAgg,Sem.run_bind,Sem.run_pure]
         exact hq B d
       ·cases hf
      ·cases hf
     ·cases hf
    ·exact H.elim
   ·exact H.elim
  ·rename_i t x f ho
   split at H
   ·rename_i aa k ty Z hf
    split at H
    ·rename_i an af
     refine⟨_,H,λ_ γ h σ I hρ=>?_⟩
     obtain⟨b,o',e,hd⟩:=zt1 af (hρ _ _ Z)
     refine⟨_,hd,?_⟩
     simp only[execOp,ho]
     rw[e]
     exact val (zy2 hf b o')
    ·exact H.elim
   ·exact H.elim
  ·rename_i t x ho
   split at H
   ·rename_i aa Z
    obtain⟨av,h1,h2⟩:=zhg (h0:=h0) (W:=W) (M0:=M0) H
    refine⟨av,h1,λhg γ h σ I hρ=>?_⟩
    obtain⟨v,hd,hq⟩:=h2 hg γ h _ I (hρ _ _ Z)
    refine⟨v,hd,?_⟩
    simp only[execOp,ho]
    exact val hq
   ·exact H.elim
  ·rename_i t x i ho
   split at H
   ·rename_i aa iv Z ap
    split at H
    ·rename_i n hn
     obtain⟨av,h1,h2⟩:=zot (h0:=h0) (W:=W) (M0:=M0) H
     refine⟨av,h1,λhg γ h σ I hρ=>?_⟩
     obtain⟨k,e⟩:=zt2 hn (hρ _ _ ap)
     obtain⟨v,hd,hq⟩:=h2 hg γ h _ k I (hρ _ _ Z)
     refine⟨v,hd,?_⟩
     simp only[execOp,ho]
     rw[e]
     exact val hq
    ·exact H.elim
   ·exact H.elim
  ·rename_i t x lo hi mx ho
   split at H
   ·rename_i aa Z
    obtain⟨av,h1,h2⟩:=zow (h0:=h0) (W:=W) (M0:=M0) H
    refine⟨av,h1,λhg γ h σ I hρ=>?_⟩
    obtain⟨v,hd,hq⟩:=h2 hg γ h _ σ I hρ (hρ _ _ Z)
    refine⟨v,hd,?_⟩
    simp only[execOp,ho]
    exact val hq
   ·exact H.elim
  ·rename_i x ho
   split at H
   ·rename_i aa Z
    split at H
    ·rename_i an af
     refine⟨_,H,λ_ γ h σ I hρ=>?_⟩
     obtain⟨b,o',e,hd⟩:=zt1 af (hρ _ _ Z)
     have am:=hρ _ _ Z
     refine⟨σ x,am,?_⟩
     simp only[execOp,ho]
     rw[e]
     exact QExec.pure _
    ·exact H.elim
   ·exact H.elim
  ·rename_i t ab ho
   split at H
   ·rename_i ps au
    split at H
    ·rename_i r hr
     refine⟨_,H,λ_ γ h σ I hρ=>?_⟩
     obtain⟨ws,hq,hd⟩:=zoy hr (zas hρ au) h
     refine⟨.agg ws.toArray,⟨ws,rfl,hd⟩,?_⟩
     simp only[execOp,ho]
     have e:(ab.map λx=>(x.1,σ x.2))=(ab.toList.map λx=>(x.1,σ x.2)).toArray:=by rw[<-C6]
     have:=val hq
     rw[<-e]at this
     exact this
    ·exact H.elim
   ·exact H.elim
  ·rename_i c ho
   split at H
   ·rename_i hc
    split at H
    ·rename_i x t aj ak
     have ae:c.args=#[x]:=by
      have:=congrArg List.toArray aj;simp at this;exact this
     have ai:c.argTypes=#[t]:=by
      have:=congrArg List.toArray ak;simp at this;exact this
     have key:∀(σ:Operand->Value) (h:za) (n:Int),(QExec P (DK #[t] o.type #[σ x]) h (.int .i64 n))->QExec P (execOp σ o) h (.value (.int .i64 n)):=by
      intro σ h n hq
      have e:execOp σ o=(DK c.argTypes o.type (c.args.map σ) >>= λx=>(Dc (Dl x):Sem Next)):=by
       simp only[execOp,ho,resolve,hc]
       rfl
      rw[e,ae,ai]
      refine val ?_
      simpa using hq
     split at H
     ·rename_i s Z hu
      refine⟨_,H,λ_ γ h σ I hρ=>⟨_,rfl,key σ h _ λB d=>?_⟩⟩
      have hq:=QExec.underlying (h:=h) hu B d
      have e:σ x=.string s:=hρ _ _ Z
      unfold DK
      simp only[List.getElem?_toArray,List.getElem?_cons_zero,e,Sem.run_bind,hq,Result.andThen_ok,Sem.run_pure]
      rfl
     ·rename_i a n cp el Z hu
      refine⟨_,H,λ_ γ h σ I hρ=>⟨_,rfl,key σ h _ λB d=>?_⟩⟩
      have hq:=QExec.underlying (h:=h) hu B d
      have e:σ x=.slice a n cp:=hρ _ _ Z
      unfold DK
      simp only[List.getElem?_toArray,List.getElem?_cons_zero,e,Sem.run_bind,hq,Result.andThen_ok,Sem.run_pure]
      rfl
     ·rename_i aa el _ _ Z hu
      split at H
      ·rename_i n hn
       refine⟨_,H,λ_ γ h σ I hρ=>⟨_,rfl,key σ h _ λB d=>?_⟩⟩
       have hq:=QExec.underlying (h:=h) hu B d
       obtain⟨a,cp,e⟩:=z4u I hn (hρ _ _ Z)
       unfold DK
       simp only[List.getElem?_toArray,List.getElem?_cons_zero,e,Sem.run_bind,hq,Result.andThen_ok,Sem.run_pure]
       rfl
      ·exact H.elim
     ·exact H.elim
    ·exact H.elim
   ·exact H.elim
  ·exact H.elim
def qf8(P:Program)(o:Oper)(ρ:Operand->Option AV):Option Bool:=match o.op with
 |.binOp op t x (.const .nilIface) _=>match ρ x,ρ (.const .nilIface),P.underlying t with
  |some (.g (.a (.d .err b))),some (.g (.a (.v .nilIface))),some (.interface _)=>match op with
   |.eql=>some b
   |.neq=>some (!b)
   |_=>none
  |_,_,_=>none
 |_=>none
theorem zkn{ρ:Operand->Option AV}(H:qf8 P o ρ=some b)(hρ:∀x av,ρ x=some av->DenV γ av (σ x))(h:za):QExec P (execOp σ o) h (.value (.bool b)):=by
 have key:∀{t:TypeId} {ms:Array (String×TypeId)} {b:Bool} {u:Value},P.underlying t=some (.interface ms)->((b=true/\u=.nilIface)\/(b=false/\∃t u',u=.iface t u'))->QExec P (Eu t u .nilIface) h b:=by
  intro t ms b u hu hb B d
  have hq:=QExec.underlying (h:=h) hu B d
  unfold Eu Op.maxDepth
  rcases hb with⟨rfl,rfl⟩|⟨rfl,t',u',rfl⟩
  ·unfold Op.equalIn;rw[Sem.run_bind,hq];rfl
  ·unfold Op.equalIn;rw[Sem.run_bind,hq];rfl
 unfold qf8 at H
 split at H
 ·rename_i op t x yt ho
  split at H
  ·rename_i b0 ms hx hy hu
   have hσ:σ (.const .nilIface)=.nilIface:=hρ _ _ hy
   obtain⟨u,e,hb⟩:=(show Rd γ.M .err b0 [σ x]from hρ _ _ hx)
   have eu:u=σ x:=by simpa using e.symm
   subst eu
   have hk:=key hu hb
   have hg:∀op,QExec P (eqGuard op t x (.const .nilIface) (σ x) .nilIface) h ():=by
    intro op B d
    unfold eqGuard
    rcases hb with⟨_,e2⟩|⟨_,t',u',e2⟩
    ·rw[e2];cases op <;> simp
    ·rw[e2];cases op <;> simp
   have Z:∀op,(binOp op t (σ x) .nilIface=match op with | .eql=>(do pure (.bool (<-Eu t (σ x) .nilIface))) | .neq=>(do pure (.bool (!(<-Eu t (σ x) .nilIface))))|_=>binOp op t (σ x) .nilIface):=by
    intro op
    rcases hb with⟨_,e2⟩|⟨_,t',u',e2⟩
    ·rw[e2];cases op <;> rfl
    ·rw[e2];cases op <;> rfl
   simp only[execOp,ho,hσ]
   refine QExec.val ((hg op).bind ?_)
   split at H
   ·simp only[Ab]at H;subst H
    rw[Z]
    exact hk.bind (QExec.pure _)
   ·simp only[Ab]at H;subst H
    rw[Z]
    exact hk.bind (QExec.pure _)
   ·cases H
  ·cases H
 ·cases H
def z94(o:Oper)(ρ:Operand->Option AV):Option (TypeId×Nat×Nat):=match o.op with
 |.load t x=>match ρ x with
  |some (.g (.a (.v (.pointer (some ⟨b,off,none⟩)))))=>some (t,b,off)
  |_=>none
 |_=>none
def zhh(gl:Fr)(b off:Nat)(v:Value):Prop:=∃cs,gl b=some cs/\cs[off]?=some v
def zko(gl:Fr)(b:Nat)(g:Option Bool):List Atom->Nat->(List AA->Prop)->Prop
 |[],_,K=>K []
 |.int k::l,o,K=>∃x:Int,req g (zhh gl b o (.int k x))/\zko gl b g l (o+1) λr=>K (.v (.int k x)::r)
 |.str::l,o,K=>∃x:Bt,req g (zhh gl b o (.string x))/\zko gl b g l (o+1) λr=>K (.v (.string x)::r)
 |.bool::l,o,K=>∃x:Bool,req g (zhh gl b o (.bool x))/\zko gl b g l (o+1) λr=>K (.v (.bool x)::r)
 |_::_,_,_=>False
theorem Z0{gl:Fr}{b:Nat}{g:Option Bool}:∀{l:List Atom} {o:Nat} {K:List AA->Prop},zko gl b g l o K->∃vs:List Value,vs.length=l.length/\K (vs.map .v)/\(gok g->∀(j:Nat) (v:Value),vs[j]?=some v->zhh gl b (o+j) v)
 |[],o,K,H=>⟨[],rfl,H,λ_ j v h=>by simp at h⟩
 |.int k::l,o,K,⟨x,h1,h2⟩=>by
  obtain⟨vs,e1,e2,e3⟩:=Z0 h2
  refine⟨.int k x::vs,by simp[e1],e2,λhg j v hv=>?_⟩
  cases j with
  |zero=>simp at hv;subst hv;exact h1.out hg
  |succ j=>have:=e3 hg j v (by simpa using hv);rwa[show o+1+j=o+(j+1)by omega]at this
 |.str::l,o,K,⟨x,h1,h2⟩=>by
  obtain⟨vs,e1,e2,e3⟩:=Z0 h2
  refine⟨.string x::vs,by simp[e1],e2,λhg j v hv=>?_⟩
  cases j with
  |zero=>simp at hv;subst hv;exact h1.out hg
  |succ j=>have:=e3 hg j v (by simpa using hv);rwa[show o+1+j=o+(j+1)by omega]at this
 |.bool::l,o,K,⟨x,h1,h2⟩=>by
  obtain⟨vs,e1,e2,e3⟩:=Z0 h2
  refine⟨.bool x::vs,by simp[e1],e2,λhg j v hv=>?_⟩
  cases j with
  |zero=>simp at hv;subst hv;exact h1.out hg
  |succ j=>have:=e3 hg j v (by simpa using hv);rwa[show o+1+j=o+(j+1)by omega]at this
 |.sl::_,_,_,H=>H.elim
 |.mp::_,_,_,H=>H.elim
 |.ptr::_,_,_,H=>H.elim
 |.raw::_,_,_,H=>H.elim
def qdd(P:Program)(gl:Fr)(t:TypeId)(b off:Nat)(g:Option Bool)(K:AV->Prop):Prop:=match zx5 P t with
 |some (.one a)=>zko gl b g [a] off λr=>match r with
  |[x]=>K (.g (.a x))
  |_=>False
 |some (.agg l)=>zko gl b g l off λr=>K (.g (.agg r))
 |none=>False
def z96(P:Program)(o:Oper)(ρ:Operand->Option AV):Option (Nat×Nat×Int×Nat×Nat):=match o.op with
 |.indexAddr t x i=>match ρ x,ρ i,P.underlying t with
  |some (.g (.a (.v (.pointer (some ⟨b,off,none⟩))))),some (.g (.a (.v (.int _ n)))),some (.array len el)=>bif qd P el then some (b,off,n,len,qn P el)else none
  |_,_,_=>none
 |_=>none
def qA(P:Program)(gl:Fr)(o:Oper)(ρ:Operand->Option AV)(g:Option Bool)(cs:CS)(K:AV->Prop):Prop:=match eqA P o ρ with
 |some b=>K (.g (.a (.v (.bool b))))
 |none=>match qf8 P o ρ with
  |some b=>K (.g (.a (.v (.bool b))))
  |none=>match z94 o ρ with
   |some (t,b,off)=>qdd P gl t b off g K
   |none=>match z96 P o ρ with
    |some (b,off,n,len,z)=>req g (0<=n/\n<(len:Int))/\K (.g (.a (.v (.pointer (some ⟨b,off+n.toNat*z,none⟩)))))
    |none=>qA0 P o ρ g cs K
theorem zgj{gl:Fr}(ah:Fr.le gl M0){ρ:Operand->Option AV}{K:AV->Prop}(H:qA P gl o ρ g cs K):
  ∃av,K av/\(gok g->∀γ h σ,Inv h0 W M0 cs γ h->(∀x av,ρ x=some av->DenV γ av (σ x))->∃v,DenV γ av v/\QExec P (execOp σ o) h (.value v)):=by
 unfold qA at H
 split at H
 ·rename_i b hb
  exact⟨_,H,λ_ γ h σ _ hρ=>⟨_,rfl,zo0 hb hρ h⟩⟩
 ·split at H
  ·rename_i b hb
   exact⟨_,H,λ_ γ h σ _ hρ=>⟨_,rfl,zkn hb hρ h⟩⟩
  ·split at H
   ·rename_i t b off hg
    unfold z94 at hg
    split at hg
    ·rename_i t' x ho
     split at hg
     ·rename_i b' Z hx
      simp only[Ab,Be]at hg
      obtain⟨rfl,rfl,rfl⟩:=hg
      have key:∀{s:Option Nat} {vs:List Value} {ag:AG},Xu P t'=some s->vs.length=z3y s->zl4 s (vs.map .v)=some ag->(gok g->∀(j:Nat) (v:Value),vs[j]?=some v->zhh gl b' (Z+j) v)->gok g->∀γ h σ,Inv h0 W M0 cs γ h->(∀x av,ρ x=some av->DenV γ av (σ x))->∃u,DenV γ (.g ag) u/\QExec P (execOp σ o) h (.value u):=by
       intro s vs ag hs hn hp hc hg γ h σ I hρ
       have hu:σ x=.pointer (some ⟨b',Z,none⟩):=hρ _ _ hx
       obtain⟨u,hd,hq⟩:=zem (γ:=γ) hs (u:=σ x) (us:=vs) ⟨_,_,hu,λj w hw=>by
        obtain⟨cc,e1,e2⟩:=hc hg j w hw
        exact I.ag.cell (I.le _ _ (ah _ _ e1)) e2⟩ hn (Zz γ vs) hp
       exact⟨u,hd,by simp only[execOp,ho];exact QExec.val hq⟩
      unfold qdd at H
      split at H
      ·rename_i a hv
       obtain⟨vs,e1,e2,e3⟩:=Z0 H
       match vs,e1,e2,e3 with
       |[v],e1,e2,e3=>exact⟨_,e2,key (s:=none) (by unfold Xu;rw[hv]) rfl rfl e3⟩
      ·rename_i l hv
       obtain⟨vs,e1,e2,e3⟩:=Z0 H
       exact⟨_,e2,key (s:=some l.length) (by unfold Xu;rw[hv]) e1 rfl e3⟩
      ·exact H.elim
     ·cases hg
    ·cases hg
   ·split at H
    ·rename_i b off n len z hg
     unfold z96 at hg
     split at hg
     ·rename_i t x i ho
      split at hg
      ·rename_i b' Z k n' ai el hx hi hu
       cases hok:qd P el with
       |false=>rw[hok]at hg;cases hg
       |true=>
        rw[hok]at hg
        simp only[cond_true,Ab,Be]at hg
        obtain⟨rfl,rfl,rfl,rfl,rfl⟩:=hg
        refine⟨_,H.2,λaf γ h σ I hρ=>⟨_,rfl,?_⟩⟩
        have ae:σ x=.pointer (some ⟨b',Z,none⟩):=hρ _ _ hx
        have ab:σ i=.int k n':=hρ _ _ hi
        obtain⟨h1,h2⟩:=H.1.out af
        obtain⟨v,rfl,hq⟩:=Zv (P:=P) (t:=t) (x:=.pointer (some ⟨b',Z,none⟩)) (i:=.int k n') (g:=none) (K:=λv=>v=.pointer (some (Ai ⟨b',Z,none⟩ (n'.toNat*qn P el))))
         (λaj aa=>by
          rcases aa with aa|⟨m,aa⟩
          ·rw[hu]at aa;cases aa
          ·rw[hu]at aa;cases aa;exact yw hok) (by unfold zn5;rw[hu];exact⟨_,⟨rfl,h1,h2⟩,rfl⟩)
        have:=hq trivial h
        rw[zu]at this
        simp only[execOp,ho,ae,ab]
        exact QExec.val this
      ·cases hg
     ·cases hg
    ·exact zy9 H
end
section
variable {M gl:Fr} {u:Value} {P:Program} {f:FuncId} {γ:Gh} {cs C R:CS} {o:Oper} {σ:Operand -> Value} {h:za} {Post:Value -> za -> Prop} {tr:TypeId}
variable {h0 : za} {W : Nat -> Prop} {M0 : Fr}
def zjf:Ty->Bool
 |.tree=>true
 |.unit=>true
 |.pair _ _=>true
 |_=>false
def RdV(M:Fr)(t:Ty)(x:El t)(u:Value):Prop:=if zjf t=true then ∃cs:List Value,u=.agg cs.toArray/\Rd M t x cs else Rd M t x [u]
theorem RdV.mono{M M':Fr}(hM:Fr.le M M'){t:Ty}{x:El t}(h:RdV M t x u):RdV M' t x u:=by
 unfold RdV at *
 by_cases ha:zjf t=true
 ·rw[if_pos ha]at *
  obtain⟨cs,e,h⟩:=h;exact⟨cs,e,Rd.mono hM h⟩
 ·rw[if_neg ha]at *
  exact Rd.mono hM h
structure Arg where
 t:Ty
 x:El t
def Xv(M:Fr)(l:List Arg)(vs:List Value):Prop:=All2 (λ(a:Arg) u=>RdV M a.t a.x u) l vs
@[reducible] def Els:List Ty->Type
 |[]=>Unit
 |[t]=>El t
 |t::t'::l=>El t×Els (t'::l)
def qde:(l:List Ty)->Els l
 |[]=>()
 |[t]=>qc8 t
 |t::t'::l=>(qc8 t,qde (t'::l))
def RdL(M:Fr):(l:List Ty)->Els l->List Value->Prop
 |[],_,us=>us=[]
 |[t],x,us=>∃u,us=[u]/\RdV M t x u
 |t::t'::l,x,us=>∃u Z,us=u::Z/\RdV M t x.1 u/\RdL M (t'::l) x.2 Z
def zcx(M:Fr)(l:List Ty)(x:Els l)(v:Value):Prop:=∃us,RdL M l x us/\v=zhc us
def PC(P:Program)(gl:Fr)(f:FuncId)(args:List Arg)(rt:List Ty)(R:Els rt->Prop):Prop:=
 ∀(h:za) (M:Fr) (vs:List Value),Fr.le gl M->AgM M h->Xv M args vs->XC P f vs.toArray h λv h'=>
  Keep h.size h h'/\∃M' r,Fr.le M M'/\(∀b,b<h.size->M' b=M b)/\AgM M' h'/\zcx M' rt r v/\R r
theorem PC.mono{args:List Arg}{rt:List Ty}{R R':Els rt->Prop}(H:PC P gl f args rt R)(hR:∀r,R r->R' r):PC P gl f args rt R':=
 λh M vs h1 h2 h3=>(H h M vs h1 h2 h3).mono λv h' ⟨k,M',r,e1,e2,e3,e4,e5⟩=>⟨k,M',r,e1,e2,e3,e4,hR r e5⟩
def BdL:(l:List Ty)->Els l->Prop
 |[],_=>True
 |[t],x=>Bd t x
 |t::t'::l,x=>Bd t x.1/\BdL (t'::l) x.2
theorem RdV.bd{t:Ty}{x:El t}(h:RdV M t x u):Bd t x:=by
 unfold RdV at h
 split at h
 ·obtain⟨cs,_,h⟩:=h;exact h.bd
 ·exact h.bd
theorem PC.bd{args:List Arg}{rt:List Ty}{R:Els rt->Prop}(H:(∀a∈args,Bd a.t a.x)->PC P gl f args rt R):PC P gl f args rt R:=by
 intro h M vs h1 h2 h3
 refine H ?_ h M vs h1 h2 h3
 clear H h1 h2
 induction args generalizing vs with
 |nil=>intro a ha;cases ha
 |cons a args ih=>
  cases vs with
  |nil=>exact h3.elim
  |cons u us=>
   intro b hb
   rcases Af.1 hb with rfl|hb
   ·exact RdV.bd h3.1
   ·exact ih us h3.2 b hb
def gOf(t:Ty)(x:El t):AG:=bif zjf t then .agg (Y8 t x)else(match Y8 t x with
 |[y]=>.a y
 |l=>.agg l)
theorem zr0{t:Ty}{x:El t}(h:RdV γ.M t x u):DenG γ (gOf t x) u:=by
 unfold RdV at h
 unfold gOf
 split at h
 ·rename_i ha
  rw[ha]
  obtain⟨cs,e,h⟩:=h
  exact⟨cs,e,xb h⟩
 ·rename_i ha
  have Z:zjf t=false:=by simpa using ha
  rw[Z]
  simp only[cond_false]
  have hd:=xb (γ:=γ) h
  match hx:Y8 t x,hd with
  |[y],hd=>exact hd.1
  |[],hd=>exact hd.elim
  |_::_::_,hd=>exact hd.2.elim
def qfq:(l:List Ty)->Els l->List AG
 |[],_=>[]
 |[t],x=>[gOf t x]
 |t::t'::l,x=>gOf t x.1::qfq (t'::l) x.2
theorem zt3{γ:Gh}:∀{l:List Ty} {x:Els l} {us:List Value},RdL γ.M l x us->All2 (DenG γ) (qfq l x) us
 |[],_,_,h=>by rw[h];trivial
 |[_],_,_,⟨u,e,h⟩=>by rw[e];exact⟨zr0 h,trivial⟩
 |_::_::_,_,_,⟨u,us,e,h,h'⟩=>by rw[e];exact⟨zr0 h,zt3 h'⟩
def qcq(l:List Ty)(x:Els l):AV:=match qfq l x with
 |[g]=>.g g
 |gs=>.tup gs
theorem z4w{l:List Ty}{x:Els l}{v:Value}(h:zcx γ.M l x v):DenV γ (qcq l x) v:=by
 obtain⟨us,h,rfl⟩:=h
 have hd:=zt3 (γ:=γ) h
 unfold qcq
 generalize qfq l x=gs at *
 match gs,us,hd with
 |[],[],_=>exact⟨[],rfl,trivial⟩
 |[g],[u],hd=>exact hd.1
 |g::g'::gs,u::u'::us,hd=>exact⟨_,rfl,hd⟩
 |[],_::_,hd=>exact hd.elim
 |_::_,[],hd=>exact hd.elim
 |[_],_::_::_,hd=>exact hd.2.elim
 |_::_::_,[_],hd=>exact hd.2.elim
def z8a(P:Program)(tr:TypeId):Nat->TypeId->Option Ty
 |0,_=>none
 |n+1,t=>bif Nat.beq t tr then some .tree else match P.underlying t with
  |some (.int k)=>some (.int k)
  |some .bool=>some .bool
  |some .string=>some .str
  |some (.slice e)=>match z8a P tr n e with
   |some x=>some (.row x)
   |none=>none
  |some (.struct fs)=>tysOf P (λt=>z8a P tr n t) fs.toList
  |some (.interface _)=>some .err
  |_=>none
where tysOf (P:Program) (f:TypeId->Option Ty):List Field->Option Ty
 |[]=>some .unit
 |[x]=>f x.type
 |x::y::l=>match f x.type,tysOf P f (y::l)with
  |some a,some b=>some (.pair a b)
  |_,_=>none
def tyL(P:Program)(tr:TypeId):List TypeId->Option (List Ty)
 |[]=>some []
 |t::l=>match z8a P tr 8 t,tyL P tr l with
  |some a,some b=>some (a::b)
  |_,_=>none
def qdf:AA->List Nat
 |.own c=>[c]
 |_=>[]
def zwm:List AA->List Nat
 |[]=>[]
 |x::l=>qdf x++zwm l
def qf9:AV->List Nat
 |.g (.a x)=>qdf x
 |.g (.agg l)=>zwm l
 |_=>[]
def W0:List AV->List Nat
 |[]=>[]
 |v::l=>qf9 v++W0 l
def frzL:List Nat->CS->CS
 |[],C=>C
 |c::l,C=>frzL l (z9y c C)
theorem Inv.frzL{C R:CS}{γ:Gh}{h:za}:∀(l:List Nat) {C:CS} {γ:Gh},Inv h0 W M0 (C++R) γ h->∃γ',Inv h0 W M0 (frzL l C++R) γ' h/\Gx none γ γ'
 |[],C,γ,I=>⟨γ,I,Gx.refl _ _⟩
 |c::l,C,γ,I=>by
  obtain⟨γ1,I1,g1⟩:=Inv.freeze c C [] I
  obtain⟨γ2,I2,g2⟩:=Inv.frzL (C:=C) (γ:=γ) l I1
  exact⟨γ2,I2,g1.1.trans g2.1,λi hi=>⟨(g2.2 i hi).1.trans (g1.2 i hi).1,(g2.2 i hi).2.trans (g1.2 i hi).2⟩⟩
def zdd(cs:CS)(t:Ty):AV->Option (El t)
 |.g (.agg l)=>bif zjf t then(match collect cs t l with
  |some (y,[])=>some y
  |_=>none)else none
 |.g (.a x)=>bif zjf t then none else zje cs t x
 |_=>none
theorem zbr(hf:z3x γ cs){t:Ty}{av:AV}{y:El t}(h:zdd cs t av=some y)(hd:DenV γ av u):RdV γ.M t y u:=by
 unfold zdd at h
 unfold RdV
 split at h
 ·rename_i l
  cases ha:zjf t with
  |false=>rw[ha]at h;cases h
  |true=>
   rw[ha]at h
   simp only[cond_true]at h
   split at h
   ·rename_i y' hc
    simp only[Ab]at h
    subst h
    obtain⟨us,e,h2⟩:=hd
    obtain⟨c1,c2,rfl,r1,r2⟩:=Y9 hf hc h2
    cases c2 with
    |nil=>simp only[if_true];exact⟨c1,by rw[e,A3],r1⟩
    |cons _ _=>exact r2.elim
   ·cases h
 ·rename_i x
  cases ha:zjf t with
  |true=>rw[ha]at h;cases h
  |false=>
   rw[ha]at h
   simp only[A5,if_false]
   exact js hf h hd
 ·cases h
def jg(cs:CS):List Ty->List AV->Option (List Arg)
 |[],[]=>some []
 |t::ts,v::vs=>match zdd cs t v,jg cs ts vs with
  |some x,some l=>some (⟨t,x⟩::l)
  |_,_=>none
 |_,_=>none
theorem wl{γ:Gh}{cs:CS}(hf:z3x γ cs):∀{ts:List Ty} {vs:List AV} {l:List Arg},jg cs ts vs=some l->∀{us:List Value},All2 (DenV γ) vs us->Xv γ.M l us
 |[],[],l,h,[],_=>by simp only[jg,Ab]at h;subst h;trivial
 |[],[],_,_,_::_,hd=>hd.elim
 |t::ts,v::vs,l,h,[],hd=>hd.elim
 |t::ts,v::vs,l,h,u::us,hd=>by
  simp only[jg]at h
  split at h
  ·rename_i x l' h1 h2
   simp only[Ab]at h
   subst h
   exact⟨zbr hf h1 hd.1,wl hf h2 hd.2⟩
  ·cases h
 |[],_::_,_,h,_,_=>by simp[jg]at h
 |_::_,[],_,h,_,_=>by simp[jg]at h
def zr1(ρ:Operand->Option AV):List Operand->Option (List AV)
 |[]=>some []
 |x::l=>match ρ x,zr1 ρ l with
  |some v,some vs=>some (v::vs)
  |_,_=>none
theorem Xw{γ:Gh}{ρ:Operand->Option AV}{σ:Operand->Value}(hρ:∀x av,ρ x=some av->DenV γ av (σ x)):∀{l:List Operand} {vs:List AV},zr1 ρ l=some vs->All2 (DenV γ) vs (l.map σ)
 |[],vs,h=>by simp only[zr1,Ab]at h;subst h;trivial
 |x::l,vs,h=>by
  simp only[zr1]at h
  split at h
  ·rename_i v Z h1 h2
   simp only[Ab]at h
   subst h
   exact⟨hρ _ _ h1,Xw hρ h2⟩
  ·cases h
def ExA(P:Program)(s:Sem Next)(h:za)(Post:Value->za->Prop):Prop:=∀B d,
 (∃v d' h',s.run P (mk B d h)=.ok (.value v) (mk B d' h')/\Post v h') \/
 (∃d' h',s.run P (mk B d h)=.ok .skip (mk B d' h')/\Post undef h') \/
 (∃f args,s.run P (mk B d h)=.ok (.enter f args) (mk B d h)/\XC P f args h Post)
theorem ExA.upon(H:ExA P (execOp σ o) h Post)(B:World)(d:Nat){a:Act}{next:Act->World->Prop}{Q:Exit->Act->World->Prop}
  (hn:∀v d' h',Post v h'->next (a.put o.dst v) (mk B d' h')):o.upon P a next Q ((execOp σ o).run P (mk B d h)):=by
 rcases H B d with⟨v,d',h',e,hp⟩|⟨d',h',e,hp⟩|⟨f,args,e,hx⟩
 ·exact upon_value e (hn _ _ _ hp)
 ·exact upon_skip e (hn _ _ _ hp)
 ·rw[e]
  refine(hx B d).mono ?_
  rintro e' w' ⟨v,d',Z,rfl,rfl,h3⟩
  exact hn _ _ _ h3
theorem ExA.mono{s:Sem Next}{Post Z:Value->za->Prop}(H:ExA P s h Post)(hp:∀v h',Post v h'->Z v h'):ExA P s h Z:=λB d=>by
 rcases H B d with⟨v,d',h',e,q⟩|⟨d',h',e,q⟩|⟨f,args,e,hx⟩
 ·exact .inl ⟨v,d',h',e,hp _ _ q⟩
 ·exact .inr (.inl ⟨d',h',e,hp _ _ q⟩)
 ·exact .inr (.inr ⟨f,args,e,hx.mono hp⟩)
def zbs(h0:za)(W:Nat->Prop)(M0:Fr)(R:CS)(γ:Gh)(K:AV->CS->Option Nat->Prop)(v:Value)(h':za):Prop:=
 ∃av C' c γ',K av C' c/\DenV γ' av v/\Inv h0 W M0 (C'++R) γ' h'/\Gx c γ γ'
theorem z97(Z:Fr.le gl M0){ρ:Operand->Option AV}{K:AV->CS->Option Nat->Prop}(H:qA P gl o ρ none (C++R) λav=>K av C none)(I:Inv h0 W M0 (C++R) γ h)
  (hρ:∀x av,ρ x=some av->DenV γ av (σ x)):ExA P (execOp σ o) h (zbs h0 W M0 R γ K):=by
 obtain⟨av,h1,h2⟩:=zgj (h0:=h0) (W:=W) (M0:=M0) Z H
 obtain⟨v,hd,hq⟩:=h2 trivial γ h σ I hρ
 exact λB d=>.inl ⟨v,d,h,hq B d,av,C,none,γ,h1,hd,I,Gx.refl _ _⟩
def qdg:Operand->Option FuncId
 |.func f=>some f
 |_=>none
def z98(P:Program)(tr:TypeId)(f:FuncId):Option (List Ty×List Ty):=match P.funcs[f]? with
 |some fn=>match tyL P tr fn.params.toList,tyL P tr fn.resultTypes.toList with
  |some a,some b=>some (a,b)
  |_,_=>none
 |none=>none
def z99(P:Program)(gl:Fr)(tr:TypeId)(o:Oper)(ρ:Operand->Option AV)(C R:CS)(K:AV->CS->Prop):Prop:=
 match o.op with
 |.call c=>match c.callee with
  |.value x=>match qdg x with
   |some f=>bif zj P f then(match z98 P tr f,zr1 ρ c.args.toList with
    |some (ts,rt),some vs=>match jg (frzL (W0 vs) C++R) ts vs with
     |some args=>PC P gl f args rt λr=>K (qcq rt r) (frzL (W0 vs) C)
     |none=>False
    |_,_=>False)else False
   |none=>False
  |_=>False
 |_=>False
def zwn(P:Program)(gl:Fr)(tr:TypeId)(o:Oper)(ρ:Operand->Option AV)(b:Bool)(cs:CS)(K:AV->Prop):Prop:=
 match o.op with
 |.call c=>match c.callee with
  |.value x=>match qdg x with
   |some f=>bif zj P f then(match z98 P tr f,zr1 ρ c.args.toList with
    |some (ts,rt),some vs=>match jg cs ts vs with
     |some args=>∃J:Els rt->Prop,(b=true->PC P gl f args rt J)/\∀r,(b=true->J r)->K (qcq rt r)
     |none=>False
    |_,_=>False)else False
   |none=>False
  |_=>False
 |_=>False
theorem zl5{x:Operand}(h:qdg x=some f):x=.func f:=by
 unfold qdg at h
 split at h
 ·simp only[Ab]at h;rw[h]
 ·cases h
theorem zde{c:Call}(ho:o.op=.call c)(hc:c.callee=.value (.func f))(hf:zj P f=true)(hσ:σ (.func f)=.func (.func f) #[] #[])(w:World):
  (execOp σ o).run P w=.ok (.enter f (c.args.map σ)) w:=by
 simp only[execOp,ho,resolve,hc,hσ,DL,Sem.run_bind,Sem.run_pure,Result.andThen_ok,invoke]
 rw[Xn hf]
 simp
theorem zl6(Z:Fr.le gl M0){args:List Arg}{rt:List Ty}{Rr:Els rt->Prop}(H:PC P gl f args rt Rr)(I:Inv h0 W M0 cs γ h){us:List Value}(ha:Xv γ.M args us):
  XC P f us.toArray h λv h'=>∃r γ',Rr r/\DenV γ' (qcq rt r) v/\Inv h0 W M0 cs γ' h'/\Gx none γ γ'/\Keep h.size h h':=
 (H h γ.M us (Z.trans I.le) I.ag ha).mono λv h' ⟨k,M',r,e1,e2,e3,e4,e5⟩=>
  ⟨r,{ γ with M:=M' },e5,z4w (γ:={ γ with M:=M' }) e4,I.call k e1 e2 e3,⟨e1,λ_ _=>⟨rfl,rfl⟩⟩,k⟩
theorem z4x(ab:Fr.le gl M0){ρ:Operand->Option AV}{K:AV->CS->Option Nat->Prop}(H:z99 P gl tr o ρ C R λav C'=>K av C' none)(I:Inv h0 W M0 (C++R) γ h)
  (hσ:∀f,σ (.func f)=.func (.func f) #[] #[]) (hρ:∀x av,ρ x=some av->DenV γ av (σ x)):ExA P (execOp σ o) h (zbs h0 W M0 R γ K):=by
 unfold z99 at H
 split at H
 ·rename_i c ho
  split at H
  ·rename_i x hx
   split at H
   ·rename_i f hf
    cases hcal:zj P f with
    |false=>rw[hcal]at H;exact H.elim
    |true=>
     rw[hcal]at H
     simp only[cond_true]at H
     split at H
     ·rename_i ts rt vs hs aa
      split at H
      ·rename_i args Z
       intro B d
       have e:=zl5 hf
       subst e
       obtain⟨γ1,I1,g1⟩:=Inv.frzL (C:=C) (γ:=γ) (W0 vs) I
       have ha:=wl I1.fz Z ((Xw hρ aa).imp λv _ u hu=>hu.gx g1 rfl)
       refine .inr (.inr ⟨f,c.args.map σ,zde ho hx hcal (hσ f) _,?_⟩)
       have e2:c.args.map σ=(c.args.toList.map σ).toArray:=by rw[<-C6]
       rw[e2]
       refine(zl6 ab H I1 ha).mono ?_
       rintro v h' ⟨r,γ',h1,h2,h3,h4,_⟩
       exact⟨_,_,none,γ',h1,h2,h3,g1.1.trans h4.1,λi hi=>⟨(h4.2 i hi).1.trans (g1.2 i hi).1,(h4.2 i hi).2.trans (g1.2 i hi).2⟩⟩
      ·exact H.elim
     ·exact H.elim
   ·exact H.elim
  ·exact H.elim
 ·exact H.elim
theorem zbt{ρ:Operand->Option AV}{b:Bool}{K:AV->Prop}(H:zwn P gl tr o ρ b cs K):(b=false->∃av,K av) /\
  (b=true->Fr.le gl M0->∀γ h σ,Inv h0 W M0 cs γ h->(∀f,σ (.func f)=.func (.func f) #[] #[])->(∀x av,ρ x=some av->DenV γ av (σ x))->∃f args,(∀w,(execOp σ o).run P w=.ok (.enter f args) w) /\
   XC P f args h λv h'=>∃av γ',K av/\DenV γ' av v/\Inv h0 W M0 cs γ' h'/\Gx none γ γ'/\Keep h.size h h'):=by
 unfold zwn at H
 split at H
 ·rename_i c ho
  split at H
  ·rename_i x hx
   split at H
   ·rename_i f hf
    cases hcal:zj P f with
    |false=>rw[hcal]at H;exact H.elim
    |true=>
     rw[hcal]at H
     simp only[cond_true]at H
     split at H
     ·rename_i ts rt vs hs ab
      split at H
      ·rename_i args Z
       obtain⟨J,h1,h2⟩:=H
       refine⟨λhb=>⟨_,h2 (qde rt) (λh=>by rw[hb]at h;cases h)⟩,λhb aa γ h σ I hσ hρ=>?_⟩
       have e:=zl5 hf
       subst e
       refine⟨f,c.args.map σ,λw=>zde ho hx hcal (hσ f) w,?_⟩
       have e2:c.args.map σ=(c.args.toList.map σ).toArray:=by rw[<-C6]
       rw[e2]
       refine(zl6 aa (h1 hb) I (wl I.fz Z (Xw hρ ab))).mono ?_
       rintro v h' ⟨r,γ',g1,g2,g3,g4,g5⟩
       exact⟨_,γ',h2 r (λ_=>g1),g2,g3,g4,g5⟩
      ·exact H.elim
     ·exact H.elim
   ·exact H.elim
  ·exact H.elim
 ·exact H.elim
end
section
variable {P:Program} {t:TypeId} {o:Oper} {d:Nat} {C R:CS} {γ:Gh} {h:za} {σ:Operand -> Value} {av:AV}
variable {h0 : za} {W : Nat -> Prop} {M0 : Fr}
def zza(P:Program)(t:TypeId)(d:Nat)(C R:CS)(K:AV->CS->Option Nat->Prop):Prop:=match zeroOf P t with
 |some z=>bif ql d R then(bif itB (z.cells.toList.map .v)then False else K (.g (.a (.box d 0))) ((d,.box (z.cells.toList.map .v))::qp d C) (some d))else False
 |none=>False
theorem zen(c:Nat):∀l:List Value,zn0 c (l.map .v)=false
 |[]=>rfl
 |_::l=>by simp only[Az,zn0,zwf,cond_false,zen c l]
theorem zat(t:TypeId)(v:Value)(B:World)(d:Nat)(h:za):(newVar t v).run P (mk B d h)=.ok ⟨h.size,0,none⟩ (mk B d (h.push (.cells v.cells t))):=rfl
theorem zzb(ho:o.op=.alloc t){K:AV->CS->Option Nat->Prop}(H:zza P t d C R K)(I:Inv h0 W M0 (C++R) γ h):ExA P (execOp σ o) h (zbs h0 W M0 R γ K):=by
 unfold zza at H
 split at H
 ·rename_i z hz
  cases hR:ql d R with
  |false=>rw[hR]at H;exact H.elim
  |true=>
   rw[hR]at H
   cases hit:itB (z.cells.toList.map .v)with
   |true=>rw[hit]at H;exact H.elim
   |false=>
   rw[hit]at H
   intro B e
   refine .inl ⟨.pointer (some ⟨h.size,0,none⟩),e,h.push (.cells z.cells t),?_,_,_,_,zx6 γ d h.size,H,?_,?_,Xs _ _ _⟩
   ·have Z:=Jd hz h B e
    simp only[execOp,ho]
    refine Yi ?_
    unfold Instr.alloc
    rw[Sem.run_bind,Z]
    simp only[Result.andThen_ok]
    rw[Sem.run_bind,zat]
    rfl
   ·simp only[DenV,DenG,DenA,Zx]
   ·have:=I.newBox (c:=d) hR (Zz γ z.cells.toList) (zen d _) hit t
    simpa using this
 ·exact H.elim
def qga(t:TypeId)(d:Nat)(l:List AA)(C R:CS)(K:AV->CS->Option Nat->Prop):Prop:=
 bif ql d R then(bif zn0 d l then False else(bif itB l then False else K (.g (.a (.box d 0))) ((d,.box l)::qp d C) (some d)))else False
theorem qaa{x:Operand}(ho:o.op=.box t x){l:List AA}{K:AV->CS->Option Nat->Prop}(H:qga t d l C R K)(I:Inv h0 W M0 (C++R) γ h)
  (hl:All2 (DenA γ) l (σ x).cells.toList):ExA P (execOp σ o) h (zbs h0 W M0 R γ K):=by
 unfold qga at H
 cases hR:ql d R with
 |false=>rw[hR]at H;exact H.elim
 |true=>
  rw[hR]at H
  cases hm:zn0 d l with
  |true=>rw[hm]at H;exact H.elim
  |false=>
   rw[hm]at H
   cases hit:itB l with
   |true=>rw[hit]at H;exact H.elim
   |false=>
   rw[hit]at H
   intro B e
   refine .inl ⟨.pointer (some ⟨h.size,0,none⟩),e,h.push (.cells (σ x).cells t),?_,_,_,_,zx6 γ d h.size,H,?_,?_,Xs _ _ _⟩
   ·simp only[execOp,ho]
    refine Yi ?_
    unfold Instr.box
    rw[Sem.run_bind,zat]
    rfl
   ·simp only[DenV,DenG,DenA,Zx]
   ·have:=I.newBox (c:=d) hR hl hm hit t
    simpa using this
def zzc:AA->Bool
 |.v x=>x.oneCell'
 |_=>true
def zhi:List AA->Bool
 |[]=>true
 |x::l=>bif zzc x then zhi l else false
theorem zwo{x:AA}{u:Value}(h:zzc x=true)(hd:DenA γ x u):u.oneCell'=true:=by
 cases x with
 |v y=>rw[show u=y from hd];exact h
 |d t y=>exact Rd.one (show Rd γ.M t y [u]from hd) u (by simp)
 |box c o=>rw[show u=_ from hd];rfl
 |own c=>rw[show u=_ from hd];rfl
 |oelt c z i o=>obtain⟨g,_,e⟩:=hd;rw[e];rfl
 |elt t y o=>obtain⟨b,f,cs,e,_⟩:=hd;rw[e];rfl
 |dc t xs=>obtain⟨s,e,_⟩:=hd;rw[e];rfl
theorem zhj{γ:Gh}:∀{l:List AA} {us:List Value},zhi l=true->All2 (DenA γ) l us->∀u∈us,u.oneCell'=true
 |[],[],_,_,u,hu=>by cases hu
 |[],_::_,_,h,_,_=>h.elim
 |_::_,[],_,h,_,_=>h.elim
 |x::l,v::us,h,hd,u,hu=>by
  simp only[zhi]at h
  cases hx:zzc x with
  |false=>rw[hx]at h;cases h
  |true=>
   rw[hx]at h
   rcases Af.1 hu with rfl|hu
   ·exact zwo hx hd.1
   ·exact zhj h hd.2 u hu
def zzd(c:Nat):CS->Bool
 |[]=>true
 |(j,_)::l=>bif Nat.beq j c then false else zzd c l
theorem zau{c:Nat}:∀{l:CS},zzd c l=true->∀x∈l,x.1≠c
 |[],_,x,hx=>by cases hx
 |(j,k)::l,h,x,hx=>by
  simp only[zzd]at h
  cases hb:Nat.beq j c with
  |true=>rw[hb]at h;cases h
  |false=>
   rw[hb]at h
   rcases Af.1 hx with rfl|hx
   ·intro e;simp only at e;subst e;simp at hb
   ·exact zau h x hx
theorem zbu{P:Program}{g o:Nat}:∀(vs:List Value) (i:Nat) (w:World),(storeCells ⟨g,o,none⟩ vs i).run P w=(storeCells ⟨g,0,none⟩ vs (o+i)).run P w
 |[],i,w=>rfl
 |v::vs,i,w=>by
  unfold storeCells
  rw[Sem.run_bind,Sem.run_bind,zu,zu,AK]
  congr 1
  funext a w'
  exact zbu vs (i+1) w'
theorem Q1{n:Nat}(hi:qd P t=true)(hs:qn P t=n){b o:Nat}{cs:Array Value}{T:TypeId}(e:h[b]?=some (.cells cs T (0,0))){v:Value}(hv:v.cells.size=n)(hl:o+n<=cs.size)(h1:∀u∈v.cells.toList,u.oneCell'=true)(B:World)(d:Nat):
  ∃h',(An t (.pointer (some ⟨b,o,none⟩)) v).run P (mk B d h)=.ok () (mk B d h')/\h'[b]?=some (.cells (cs.toList.take o++v.cells.toList++cs.toList.drop (o+n)).toArray T (0,0))/\h'.size=h.size/\∀j,j≠b->h'[j]?=h[j]?:=by
 obtain⟨h',r1,r2,r3,r4⟩:=Zt (P:=P) B d v.cells.toList (o+0) h cs e (by simp;omega) h1
 refine⟨h',?_,by rw[r2];simp[hv],r3,r4⟩
 have hz:=QExec.sizeOf (P:=P) (h:=h) (yw hi).choose_spec B d
 unfold An Dh
 simp only[Sem.run_bind,Sem.run_pure,Result.andThen_ok]
 unfold storeVar
 rw[Sem.run_bind,hz]
 simp only[Result.andThen_ok]
 rw[hs,hv]
 simp only[ne_eq,not_true_eq_false,if_false]
 rw[zbu]
 exact r1
theorem Qt{α:Type}{L vs:List α}{p:Nat}(h:p+vs.length<=L.length)(q:Nat):(L.take p++vs++L.drop (p+vs.length))[q]?=if q<p then L[q]? else if q<p+vs.length then vs[q-p]? else L[q]?:=by
 have h1:(L.take p).length=p:=by simp;omega
 by_cases h2:q<p
 ·rw[if_pos h2,AM,Bv (by omega),AL,if_pos h2]
 ·rw[if_neg h2]
  by_cases h3:q<p+vs.length
  ·rw[if_pos h3,Bv (by rw[Ag,h1];omega),Bi (by omega),h1]
  ·rw[if_neg h3,Bi (by rw[Ag,h1];omega),AQ,Ag,h1]
   congr 1;omega
theorem RowC.set{M:Fr}{t:Ty}{xs:List (El t)}{cells:List Value}(H:RowC M t xs cells){i:Nat}(hi:i<xs.length){y:El t}{o:Nat}{vs:List Value}(hl:o+vs.length<=sz t)
  (hy:Rd M t y ((((cells.drop (i*sz t)).take (sz t)).take o)++vs++(((cells.drop (i*sz t)).take (sz t)).drop (o+vs.length)))):
  RowC M t (xs.set i y) (cells.take (i*sz t+o)++vs++cells.drop (i*sz t+o+vs.length)):=by
 have aa:(i+1)*sz t<=cells.length:=by rw[H.1];exact AP _ hi
 rw[BU,DF]at aa
 have hE:((cells.drop (i*sz t)).take (sz t)).length=sz t:=by rw[Bb,AI];omega
 refine⟨?_,λj hj=>?_⟩
 ·rw[List.length_set,<-H.1]
  simp only[Ag,Bb,AI];omega
 ·rw[List.length_set]at hj
  by_cases Z:i=j
  ·subst Z
   rw[List.getElem_set_self]
   have e:(((cells.take (i*sz t+o)++vs++cells.drop (i*sz t+o+vs.length)).drop (i*sz t)).take (sz t))=(((cells.drop (i*sz t)).take (sz t)).take o)++vs++(((cells.drop (i*sz t)).take (sz t)).drop (o+vs.length)):=by
    apply BC
    intro k
    rw[Qt (by rw[hE];exact hl),AL,AL,AQ,AQ,Qt (by omega)]
    by_cases hk:k<sz t
    ·simp only[hk,if_true]
     by_cases h1:k<o
     ·rw[if_pos (by omega),if_pos h1]
     ·rw[if_neg (by omega),if_neg h1]
      by_cases h2:k<o+vs.length
      ·rw[if_pos (by omega),if_pos h2];congr 1;omega
      ·rw[if_neg (by omega),if_neg h2]
    ·simp only[hk,if_false]
     rw[if_neg (by omega),if_neg (by omega)]
   rw[e];exact hy
  ·rw[List.getElem_set_ne Z]
   have e:(((cells.take (i*sz t+o)++vs++cells.drop (i*sz t+o+vs.length)).drop (j*sz t)).take (sz t))=(cells.drop (j*sz t)).take (sz t):=by
    apply BC
    intro k
    rw[AL,AL,AQ,AQ,Qt (by omega)]
    by_cases hk:k<sz t
    ·simp only[hk,if_true]
     rcases A1 j i with h1|h1
     ·have:(j+1)*sz t<=i*sz t:=AP _ h1
      rw[BU,DF]at this
      rw[if_pos (by omega)]
     ·have h2:i+1<=j:=by omega
      have:(i+1)*sz t<=j*sz t:=AP _ h2
      rw[BU,DF]at this
      rw[if_neg (by omega),if_neg (by omega)]
    ·simp only[hk,if_false]
   rw[e];exact H.2 j hj
theorem Inv.setRow{h h':za}(I:Inv h0 W M0 (C++R) γ h){c:Nat}{e:TypeId}{t:Ty}{xs ab:List (El t)}(hc:(c,Ch.row e t xs)∈C){g:Nat}(hg:(γ.σ c).a.map (·.block)=some g)
  (ho:∀i,i≠g->h'[i]?=h[i]?) (hs:h'.size=h.size) (hd:DenC h0.size γ h' c (.row e t ab)) (hR:∀x∈R,x.1≠c):Inv h0 W M0 ((c,.row e t ab)::J9 c C++R) γ h':=by
 have Z:=I.sep _ (Ar R hc) g hg
 have aa:∀x∈J9 c C++R,blk γ x.1 x.2≠some g:=by
  intro x hx
  have ah:x≠(c,Ch.row e t xs):=by
   rintro rfl
   rcases Aw.1 hx with hx|hx
   ·exact(Yr hx).2 rfl
   ·exact hR _ hx rfl
  have af:x∈C++R:=((wu c C).append_right R).subset hx
  have hp:=@zc8 _ (λ(x y:Nat×Ch)=>∀b,blk γ x.1 x.2=some b->blk γ y.1 y.2≠some b) (λx y h b hb ae=>h b ae hb) _ I.apart
  intro hb
  exact hp (Ar R hc) af (λe=>ah e.symm) _ hg hb
 have hI:Inv h0 W M0 (J9 c C++R) γ h':=by
  refine I.rest ((wu c C).append_right R) (c:=none) (Gx.refl _ _) (λx _=>⟨by simp,rfl⟩) (λx hx b hb=>?_) (λb cc eM=>?_) (λi hi hw=>?_) (by omega) (λb hb=>rfl)
  ·exact⟨ho b λe'=>aa x hx (e' ▸ hb),(I.sep x (((wu c C).append_right R).subset hx) b hb).2⟩
  ·obtain⟨T',m,e'⟩:=I.ag b cc eM
   exact⟨T',m,by rw[ho b λe2=>by rw[e2,Z.2]at eM;cases eM];exact e'⟩
  ·refine ho i λe'=>?_
   have h2:=Z.1
   rcases h2 with h1|h1
   ·omega
   ·rw[e']at hw;exact hw h1
 refine hI.cons hd (λb hb=>?_) (λb hb x hx=>?_)
 ·simp only[blk,hg,Ab]at hb;subst hb;exact Z
 ·simp only[blk,hg,Ab]at hb;subst hb;exact aa x hx
def zze(P:Program)(t:TypeId)(aa:AA)(l2:List AA)(C R:CS)(K:AV->CS->Option Nat->Prop):Prop:=
 bif qd P t then(bif Nat.beq l2.length (qn P t)then(bif zhi l2 then(match aa with
 |.box c o=>match Qz C c with
  |some (.box l)=>bif zzd c R then(bif (bif itB l then true else itB (l.take o++l2++l.drop (o+l2.length)))then False else(bif Nat.ble (o+l2.length) l.length then K (zwi undef) ((c,.box (l.take o++l2++l.drop (o+l2.length)))::J9 c C) none else False))else False
  |_=>False
 |.oelt c z i o=>match Qz (frzL (zwm l2) C) c with
  |some (.row e ty xs)=>bif zzd c R then(bif Nat.beq z (sz ty)then(bif Nat.ble (o+l2.length) (sz ty)then ∃y:El ty,xs[i]?=some y/\(match collect (frzL (zwm l2) C++R) ty ((Y8 ty y).take o++l2++(Y8 ty y).drop (o+l2.length))with
   |some (y',[])=>K (zwi undef) ((c,.row e ty (xs.set i y'))::J9 c (frzL (zwm l2) C)) none
   |_=>False)else False)else False)else False
  |_=>False
 |_=>False)else False)else False)else False
theorem zzf{a x:Operand}(ho:o.op=.store t a x){aa:AA}{l2:List AA}{K:AV->CS->Option Nat->Prop}(H:zze P t aa l2 C R K)(I:Inv h0 W M0 (C++R) γ h)
  (hl:All2 (DenA γ) l2 (σ x).cells.toList) (ha:DenA γ aa (σ a)):ExA P (execOp σ o) h (zbs h0 W M0 R γ K):=by
 unfold zze at H
 cases hi:qd P t with
 |false=>rw[hi]at H;exact H.elim
 |true=>
  rw[hi]at H
  cases hn:Nat.beq l2.length (qn P t)with
  |false=>rw[hn]at H;exact H.elim
  |true=>
   rw[hn]at H
   cases hok:zhi l2 with
   |false=>rw[hok]at H;exact H.elim
   |true=>
    rw[hok]at H
    have au:l2.length=qn P t:=Ah hn
    have ah:(σ x).cells.size=qn P t:=by rw[<-au,hl.length];simp
    have h1:=zhj hok hl
    simp only[cond_true]at H
    split at H
    ·rename_i c off
     split at H
     ·rename_i l hc
      cases hR:zzd c R with
      |false=>rw[hR]at H;exact H.elim
      |true=>
       rw[hR]at H
       cases hit:itB l with
       |true=>rw[hit]at H;exact H.elim
       |false=>
       rw[hit]at H
       cases hit2:itB (l.take off++l2++l.drop (off+l2.length))with
       |true=>rw[hit2]at H;exact H.elim
       |false=>
       rw[hit2]at H
       simp only[cond_true,cond_false]at H
       cases hble:Nat.ble (off+l2.length) l.length with
       |false=>rw[hble]at H;exact H.elim
       |true=>
        rw[hble]at H
        have aF:=BR hble
        obtain⟨us,e,h2⟩:=I.den _ (Ar R (qb hc))
        rcases e with⟨⟨T,e⟩,_⟩|⟨s,p,e,_⟩
        case inr=>exact absurd e (zty hit h2 s p)
        have aT:=h2.length
        intro B d
        obtain⟨h',r1,r2,r3,r4⟩:=Q1 (P:=P) hi rfl e (o:=off) ah (by simp;omega) h1 B d
        refine .inr (.inl ⟨d,h',?_,_,_,_,γ,H,Ja _ _,?_,Gx.refl _ _⟩)
        ·simp only[execOp,ho]
         rw[show σ a=_ from ha]
         exact zv7 r1
        ·refine I.setBox (qb hc) (us:=us.take off++(σ x).cells.toList++us.drop (off+l2.length)) (.inl ⟨⟨T,?_⟩,λs p=>zty hit2 (((h2.take off).append hl).append (h2.drop _)) s p⟩) r4 r3 ?_ (zau hR)
         ·rw[r2,au]
         ·exact((h2.take off).append hl).append (h2.drop _)
     ·exact H.elim
    ·rename_i c z i off
     split at H
     ·rename_i e ty xs hc
      cases hR:zzd c R with
      |false=>rw[hR]at H;exact H.elim
      |true=>
       rw[hR]at H
       cases hz:Nat.beq z (sz ty)with
       |false=>rw[hz]at H;exact H.elim
       |true=>
        rw[hz]at H
        cases hble:Nat.ble (off+l2.length) (sz ty)with
        |false=>rw[hble]at H;exact H.elim
        |true=>
         rw[hble]at H
         simp only[cond_true]at H
         obtain⟨y,hy,H⟩:=H
         split at H
         ·rename_i y' ay
          have aF:=BR hble
          obtain⟨γ1,I1,g1⟩:=Inv.frzL (C:=C) (γ:=γ) (zwm l2) I
          have aC:=ha.gx g1 rfl
          have aM:=DenL.gx (c:=none) g1 rfl hl
          rw[Ah hz]at aC
          obtain⟨g,hg,aL⟩:=aC
          have aj:=qb hc
          obtain⟨cells,ai,ab,ae,Z⟩:=I1.den _ (Ar R aj)
          simp only at ai ab ae Z
          have ar:i<xs.length:=(AF.1 hy).1
          have aO:xs[i]=y:=(AF.1 hy).2
          rcases ai.2 with⟨hv,aS⟩|⟨g',cap,ax,hv,aQ,aN,aI,aG,an,ap⟩
          ·omega
          simp only[AX]at hv
          have aP:g'=g:=by
           have:=hv.1;rw[hg]at this;simp only[Ab,Addr.mk.injEq]at this;exact this.1.symm
          subst aP
          have af:cells.length=xs.length*sz ty:=ab.1
          have aA:(i+1)*sz ty<=xs.length*sz ty:=AP _ ar
          rw[BU,DF]at aA
          have aH:xs.length*sz ty<=cap*sz ty:=AP _ (by omega)
          have am:(σ x).cells.toList.length=l2.length:=hl.length.symm
          intro B d
          obtain⟨h',r1,r2,r3,r4⟩:=Q1 (P:=P) hi rfl aN (o:=i*sz ty+off) ah (by rw[an];omega) h1 B d
          refine .inr (.inl ⟨d,h',?_,_,_,_,γ1,H,Ja _ _,?_,g1⟩)
          ·simp only[execOp,ho]
           rw[aL]
           exact zv7 r1
          ·refine I1.setRow aj (g:=g') (by rw[hg];rfl) r4 r3 ?_ (zau hR)
           have hE:=ab.2 i ar
           rw[aO]at hE
           have aB:=xb (γ:=γ1) hE
           have aE:=((aB.take off).append aM).append (aB.drop (off+l2.length))
           obtain⟨c1,c2,e1,r5,r6⟩:=Y9 I1.fz ay aE
           cases c2 with
           |cons _ _=>exact r6.elim
           |nil=>
            rw[A3]at e1
            rw[<-e1]at r5
            have ak:=ab.set ar (o:=off) (vs:=(σ x).cells.toList) (by rw[am];exact aF) (by rw[am];exact r5)
            refine⟨_,⟨?_,.inr ⟨g',cap,_,by simp[hv],aQ,r2,aI,aG,?_,?_⟩⟩,ak,by simpa using ae,by simpa using Z⟩
            ·rw[ak.1,Z,List.length_set]
            ·simp only[Dx,Ag,Bb,AI,CM]
             have:(σ x).cells.toList.length=qn P t:=by simpa using ah
             simp only[CM]at this
             rw[this,an];omega
            ·apply BC
             intro k
             have az:(σ x).cells.toList.length=qn P t:=by simpa using ah
             rw[AL,<-az]
             simp only
             rw[Qt (L:=cells) (by rw[af];omega)]
             have aJ:cells=ax.toList.take (xs.length*sz ty):=by rw[<-ap,Z]
             rw[Qt (L:=ax.toList) (by simp only[CM];rw[an];simp only[CM]at am;omega),aJ,Z]
             by_cases hk:k<xs.length*sz ty
             ·rw[if_pos hk,AL,if_pos hk]
             ·rw[if_neg hk,AL,if_neg hk]
              rw[if_neg (by omega),if_neg (by omega)]
         ·exact H.elim
     ·exact H.elim
    ·exact H.elim
def nxB(s:Bt)(p:Nat):Bool:=Nat.blt p s.size
def nxP(s:Bt)(p:Nat):Nat:=bif Nat.blt p s.size then p+(Ew s p).2 else p
def nxR(s:Bt)(p:Nat):Int:=((Ew s p).1:Int)
def zzg(P:Program)(t:TypeId)(av:AV)(d:Nat)(C R:CS)(K:AV->CS->Option Nat->Prop):Prop:=match av,P.underlying t with
 |.g (.a (.v (.string s))),some .string=>bif ql d R then K (.g (.a (.box d 0))) ((d,.box [.d .iter (s,0)])::qp d C) (some d)else False
 |_,_=>False
theorem zzh{x:Operand}(ho:o.op=.range t x){K:AV->CS->Option Nat->Prop}(H:zzg P t av d C R K)(I:Inv h0 W M0 (C++R) γ h)
  (hd:DenV γ av (σ x)):ExA P (execOp σ o) h (zbs h0 W M0 R γ K):=by
 unfold zzg at H
 split at H
 ·rename_i s hu
  cases hR:ql d R with
  |false=>rw[hR]at H;exact H.elim
  |true=>
   rw[hR]at H
   intro B e
   refine .inl ⟨.pointer (some ⟨h.size,0,none⟩),e,h.push (.stringIter s 0),?_,_,_,_,zx6 γ d h.size,H,?_,?_,Xs _ _ _⟩
   ·simp only[execOp,ho,show σ x=.string s from hd]
    refine Yi ?_
    have hq:=QExec.underlying (h:=h) hu B e
    unfold Ev
    rw[Sem.run_bind,hq]
    rfl
   ·simp only[DenV,DenG,DenA,Zx]
   ·exact Inv.newBoxO (c:=d) I hR (l:=[.d .iter (s,0)]) (us:=[Zp s 0]) ⟨rfl,trivial⟩ rfl (.inr ⟨s,0,rfl,rfl⟩)
 ·exact H.elim
def qab(av:AV)(C R:CS)(K:AV->CS->Option Nat->Prop):Prop:=match av with
 |.g (.a (.box c 0))=>match Qz C c with
  |some (.box [.d .iter x])=>bif zzd c R then K (.nx (nxB x.1 x.2) (x.2:Int) (nxR x.1 x.2)) ((c,.box [.d .iter (x.1,nxP x.1 x.2)])::J9 c C) none else False
  |_=>False
 |_=>False
theorem z4y{x:Operand}(ho:o.op=.next x true){K:AV->CS->Option Nat->Prop}(H:qab av C R K)(I:Inv h0 W M0 (C++R) γ h)
  (hd:DenV γ av (σ x)):ExA P (execOp σ o) h (zbs h0 W M0 R γ K):=by
 unfold qab at H
 split at H
 ·rename_i c
  split at H
  ·rename_i y hc
   cases hR:zzd c R with
   |false=>rw[hR]at H;exact H.elim
   |true=>
    rw[hR]at H
    simp only[cond_true]at H
    obtain⟨us,ob,h2⟩:=I.den _ (Ar R (qb hc))
    have ab:us=[Zp y.1 y.2]:=by
     match us,h2 with
     |[u],h2=>
      have h3:Rd γ.M .iter y [u]:=h2.1
      simpa[Rd]using h3
    subst ab
    have Z:h[γ.β c]?=some (.stringIter y.1 y.2):=by
     rcases ob with⟨_,e⟩|⟨s,p,e1,e2⟩
     ·exact absurd rfl (e _ _)
     ·have e3:y.1=s/\y.2=p:=by
       simp only[Zp,BM,Value.iface.injEq,Value.agg.injEq,Array.mk.injEq,Value.string.injEq,Value.int.injEq,and_true,true_and]at e1
       exact⟨e1.1,by omega⟩
      rw[e2,e3.1,e3.2]
    have aa:γ.β c<h.size:=(Ad.1 Z).1
    intro B d
    have hg:∀(w:World),w.heap[γ.β c]?=some (.stringIter y.1 y.2)->(getObj (γ.β c)).run P w=.ok (.stringIter y.1 y.2) w:=λw e=>by simp[getObj,Sem.run,e]
    have hs:∀(w:World) (o':Obj),w.heap[γ.β c]?=some (.stringIter y.1 y.2)->(setObj (γ.β c) o').run P w=.ok () { w with heap:=w.heap.setIfInBounds (γ.β c) o' }:=λw o' e=>by simp[setObj,Sem.run,e]
    have hx:σ x=.pointer (some ⟨γ.β c,0,none⟩):=hd
    by_cases hb:y.2<y.1.size
    ·have eb:nxB y.1 y.2=true:=by simpa[nxB,Cu]using hb
     have ep:nxP y.1 y.2=y.2+(Ew y.1 y.2).2:=by unfold nxP;rw[show Nat.blt y.2 y.1.size=true from eb];rfl
     refine .inl ⟨.tuple #[.bool true,.int .i64 y.2,.int .i32 (nxR y.1 y.2)],d,h.setIfInBounds (γ.β c) (.stringIter y.1 (nxP y.1 y.2)),?_,_,_,_,γ,H,⟨λ_=>rfl,λhc=>by rw[eb]at hc;cases hc⟩,?_,Gx.refl _ _⟩
     ·simp only[execOp,ho,hx]
      refine Yi ?_
      unfold Dm
      simp only
      rw[Sem.run_bind,hg _ Z]
      simp only[Result.andThen_ok,hb,if_true]
      rw[Sem.run_bind,hs _ _ Z,ep]
      rfl
     ·refine I.setBox (qb hc) (us:=[Zp y.1 (nxP y.1 y.2)]) (.inr ⟨_,_,rfl,by simp[aa]⟩) (λi hi=>by simp[AC (Ne.symm hi)]) (by simp) ⟨rfl,trivial⟩ (zau hR)
    ·have eb:nxB y.1 y.2=false:=by
      cases h:nxB y.1 y.2 with
      |false=>rfl
      |true=>exact absurd (by simpa[nxB,Cu]using h) hb
     have ep:nxP y.1 y.2=y.2:=by unfold nxP;rw[show Nat.blt y.2 y.1.size=false from eb];rfl
     refine .inl ⟨.tuple #[.bool false],d,h,?_,_,_,_,γ,H,⟨λhc=>(by rw[eb]at hc;cases hc),λ_=>rfl⟩,?_,Gx.refl _ _⟩
     ·simp only[execOp,ho,hx]
      refine Yi ?_
      unfold Dm
      simp only
      rw[Sem.run_bind,hg _ Z]
      simp only[Result.andThen_ok,hb,if_false]
      rfl
     ·refine I.setBox (qb hc) (us:=[Zp y.1 (nxP y.1 y.2)]) (.inr ⟨_,_,rfl,by rw[ep];exact Z⟩) (λi hi=>rfl) rfl ⟨rfl,trivial⟩ (zau hR)
  ·exact H.elim
 ·exact H.elim
end
section
variable {P:Program} {tr t tx e ty:TypeId} {n d m b:Nat} {C R:CS} {γ:Gh} {h:za} {s:Sl} {z x u:Value} {xs news:List Value}
variable {h0 : za} {W : Nat -> Prop} {M0 : Fr}
def Wc(cs:CS)(t:Ty):Nat->List AA->Option (List (El t)×List AA)
 |0,l=>some ([],l)
 |n+1,l=>match collect cs t l with
  |some (y,l')=>match Wc cs t n l' with
   |some (ys,l'')=>some (y::ys,l'')
   |none=>none
  |none=>none
theorem zbv{γ:Gh}{cs:CS}(hf:z3x γ cs){t:Ty}:∀{n:Nat} {l l':List AA} {ys:List (El t)},Wc cs t n l=some (ys,l')->∀{us:List Value},All2 (DenA γ) l us->∃c1 c2,us=c1++c2/\RowC γ.M t ys c1/\ys.length=n/\All2 (DenA γ) l' c2
 |0,l,l',ys,h,us,hu=>by
  simp only[Wc,Ab,Be]at h
  obtain⟨rfl,rfl⟩:=h
  exact⟨[],us,rfl,RowC.nil _ _,rfl,hu⟩
 |n+1,l,l',ys,h,us,hu=>by
  simp only[Wc]at h
  split at h
  ·rename_i y l1 h1
   split at h
   ·rename_i Z l2 h2
    simp only[Ab,Be]at h
    obtain⟨rfl,rfl⟩:=h
    obtain⟨c1,c2,rfl,r1,r2⟩:=Y9 hf h1 hu
    obtain⟨c3,c4,rfl,r3,r4,r5⟩:=zbv hf h2 r2
    exact⟨c1++c3,c4,by simp,by simpa using (RowC.single r1).append r3,by simp[r4],r5⟩
   ·cases h
  ·cases h
def zeo(P:Program)(el:TypeId)(k:Nat):Option (List Value):=bif Nat.beq k 0 then some []else(match zeroOf P el with
 |some z=>some ((Ex k).map (z.cells[· % z.cells.size]!)).toList
 |none=>none)
def qdh:List (Nat×AV)->List AV
 |[]=>[]
 |(_,v)::l=>v::qdh l
def Wd(P:Program)(tr:TypeId)(t:TypeId)(n:Nat)(ps:List (Nat×AV))(d:Nat)(C R:CS)(K:AV->CS->Option Nat->Prop):Prop:=
 match z4t P t with
 |some el=>match z8a P tr 8 el,zeo P el (n*qn P el)with
  |some ty,some zs=>bif Nat.beq (qn P el) (sz ty)then(bif Nat.ble (n*qn P el) 16777216 then(bif Nat.blt 0 (qn P el)then(bif ql d R then(match zox (λi=>some (i*qn P el,qn P el)) (zs.map .v) ps with
   |some r=>match Wc (frzL (W0 (qdh ps)) C++R) ty n r with
    |some (ys,[])=>K (.g (.a (.own d))) ((d,.row el ty ys)::qp d (frzL (W0 (qdh ps)) C)) (some d)
    |_=>False
   |none=>False)else False)else False)else False)else False
  |_,_=>False
 |none=>False
theorem zbb{Z:Array (Nat×Operand)}{o:Oper}(ho:o.op=.buildSlice t n Z){ps:List (Nat×AV)}{ρ:Operand->Option AV}(ap:zdc ρ Z.toList=some ps){K:AV->CS->Option Nat->Prop}
  (H:Wd P tr t n ps d C R K) {σ:Operand->Value} (I:Inv h0 W M0 (C++R) γ h) (hρ:∀x av,ρ x=some av->DenV γ av (σ x)):ExA P (execOp σ o) h (zbs h0 W M0 R γ K):=by
 unfold Wd at H
 split at H
 ·rename_i el am
  obtain⟨hu,ar⟩:=Jb am
  split at H
  ·rename_i ty zs ax aa
   cases hz:Nat.beq (qn P el) (sz ty)with
   |false=>rw[hz]at H;exact H.elim
   |true=>
   rw[hz]at H
   cases hb1:Nat.ble (n*qn P el) 16777216 with
   |false=>rw[hb1]at H;exact H.elim
   |true=>
   rw[hb1]at H
   cases hb2:Nat.blt 0 (qn P el)with
   |false=>rw[hb2]at H;exact H.elim
   |true=>
   rw[hb2]at H
   cases hR:ql d R with
   |false=>rw[hR]at H;exact H.elim
   |true=>
   rw[hR]at H
   simp only[cond_true]at H
   split at H
   ·rename_i r hr
    split at H
    ·rename_i ys an
     obtain⟨γ1,I1,g1⟩:=Inv.frzL (C:=C) (γ:=γ) (W0 (qdh ps)) I
     have aj:∀x av,ρ x=some av->DenV γ1 av (σ x):=λx av hx=>(hρ x av hx).gx g1 rfl
     obtain⟨ws,e1,e2⟩:=Wb hr (Zz γ1 zs) (zas aj ap)
     obtain⟨c1,c2,rfl,r3,r4,r5⟩:=zbv I1.fz an e2
     cases c2 with
     |cons _ _=>exact r5.elim
     |nil=>
     rw[A3]at *
     have ab:=Ah hz
     have ah:0<qn P el:=by simpa[Cu]using hb2
     have au:n*qn P el<=16777216:=BR hb1
     have hn:n<=n*qn P el:=Dk _ ah
     have af:c1.length=n*qn P el:=by rw[r3.1,r4,ab]
     intro B e
     refine .inl ⟨.slice (some ⟨h.size,0,none⟩) n n,e,h.push (.cells c1.toArray el),?_,_,_,_,zrx γ1 d ⟨some ⟨h.size,0,none⟩,n,n⟩,H,?_,?_,?_⟩
     ·have hq:=QExec.underlying (h:=h) hu B e
      have hs:=QExec.sizeOf (P:=P) (h:=h) (yw ar).choose_spec B e
      have e5:(Z.map λx=>(x.1,σ x.2)).toList=Z.toList.map λx=>(x.1,σ x.2):=by rw[C6]
      have e6:EA (λi=>some (i*qn P el,qn P el)) zs.toArray (Z.map λx=>(x.1,σ x.2)).toList=some c1.toArray:=by rw[e5];exact e1
      simp only[execOp,ho]
      refine Yi ?_
      unfold Instr.buildSlice
      rw[Sem.run_bind,hq]
      simp only[Result.andThen_ok]
      rw[Sem.run_bind,hs]
      simp only[Result.andThen_ok]
      rw[if_neg (by omega)]
      unfold zeo at aa
      by_cases ae:n*qn P el=0
      ·rw[if_pos ae]
       rw[ae]at aa ⊢
       simp at aa
       subst aa
       simp only[Sem.run_bind,Sem.run_pure,Result.andThen_ok]
       have e7:Array.map (λx=>(#[]:Array Value)[x % (#[]:Array Value).size]!) (Ex 0)=([]:List Value).toArray:=by simp
       rw[e7,e6]
       rfl
      ·rw[if_neg ae]
       have hb:Nat.beq (n*qn P el) 0=false:=by
        cases hh:Nat.beq (n*qn P el) 0 with
        |false=>rfl
        |true=>exact absurd (Ah hh) ae
       rw[hb]at aa
       simp only[cond_false]at aa
       split at aa
       ·rename_i z ai
        have ak:=Jd ai h B e
        simp only[Ab]at aa
        rw[Sem.run_bind,ak]
        simp only[Result.andThen_ok,Sem.run_bind,Sem.run_pure]
        have e7:Array.map (λx=>z.cells[x % z.cells.size]!) (Ex (n*qn P el))=zs.toArray:=by
         rw[<-aa]
        rw[e7,e6]
        rfl
       ·cases aa
     ·simp only[DenV,DenG,DenA,qy];rfl
     ·refine I1.newRow hR (by simp) (p:=none) (λi hi _=>by rw[BV,if_neg (by omega)]) (λb hb=>by cases hb) (cells:=c1) ⟨by rw[af,<-ab],.inr ⟨h.size,n,c1.toArray,rfl,I.size,yb _ _,Ac _,by unfold maxLen;omega,by rw[<-ab];simpa using af,?_⟩⟩ (λq hq=>.inr (by cases hq;rfl)) r3 (by omega) r4.symm
      rw[Ct]
      rw[<-ab];simp;omega
     ·exact⟨g1.1,λi hi=>⟨((Qa γ1 d _).2 i hi).1.trans (g1.2 i (by simp)).1,((Qa γ1 d _).2 i hi).2.trans (g1.2 i (by simp)).2⟩⟩
    ·exact H.elim
   ·exact H.elim
  ·exact H.elim
 ·exact H.elim
theorem Q2{n sz:Nat}{cells:List Value}(ha:Arr n h s.a cells)(hl:cells.length=s.len*sz)(Z:0<sz)(B:World)(d:Nat):
  (CQ sz s.len (.slice s.a s.len s.cap)).run P (mk B d h)=.ok cells.toArray (mk B d h):=by
 rcases ha with rfl|⟨b,o,e,_,hc⟩
 ·have h0:s.len=0:=by
   rcases Do s.len with h0|h0
   ·exact h0
   ·have:=Nat.mul_pos h0 Z;simp at hl;omega
  rw[h0]
  cases s.a with
  |none=>simp[CQ]
  |some p=>simp[CQ,loadCells,loadCellsFrom]
 ·rw[e]
  exact run_firstCells_some (mk B d h) sz s.len ⟨b,o,none⟩ s.len s.cap cells hl λj u hu=>by rw[zu];exact hc j u hu
theorem zo1{n sz:Nat}{cells:List Value}(ha:Arr n h s.a cells)(hl:cells.length=s.len*sz)(Z:0<sz)(h1:∀u∈cells,u.oneCell'=true){tx e':TypeId}(hk:P.underlying tx=some (.slice e'))(B:World)(d:Nat):
  Src P sz tx (slV s) s.len cells (mk B d h):=
 ⟨.inl ⟨e',hk⟩,λ_=>rfl,Q2 ha hl Z B d,Q2 ha hl Z B (d+1),hl,h1⟩
theorem zo2{g o:Nat}{Z:Array Value}{T:TypeId}(hg:h[g]?=some (.cells Z T (0,0))){vs:List Value}(hl:o+vs.length<=Z.size)(h1:∀u∈vs,u.oneCell'=true)(B:World)(d:Nat):
  ∃h',(storeCells ⟨g,o,none⟩ vs 0).run P (mk B d h)=.ok () (mk B d h')/\h'[g]?=some (.cells (Z.toList.take o++vs++Z.toList.drop (o+vs.length)).toArray T (0,0))/\h'.size=h.size/\∀j,j≠g->h'[j]?=h[j]?:=by
 obtain⟨h',r1,r2,r3,r4⟩:=Zt (P:=P) B d vs (o+0) h Z hg (by omega) h1
 exact⟨h',by rw[zbu];exact r1,r2,r3,r4⟩
theorem We{sz bytes:Nat}(T:ElemT P t e z sz bytes){base:Nat}(ae:xs.length=s.len*sz)(ab:∀B d,(CQ sz s.len (slV s)).run P (mk B d h)=.ok xs.toArray (mk B d h))(hs:∀B d,Src P sz tx x m news (mk B d h))(Z:(s.len+m)*bytes<=140737488355328)(am:s.len+m<=140737488355328)(ai:base<=h.size)(hg:s.cap<s.len+m)(B:World)(d:Nat):
  ∃c blk,(AB #[t,tx] ty #[slV s,x]).run P (mk B d h)=.ok (.slice (some ⟨h.size,0,none⟩) (s.len+m) c) (mk B (d+1) (h.push (.cells blk e)))/\s.len+m<=c/\c<=maxLen/\blk.size=c*sz/\blk.toList.take ((s.len+m)*sz)=xs++news:=by
 obtain⟨i,hi,hz,af,aj⟩:=T.info
 subst af
 subst aj
 have hS:=hs B d
 have aa:=hS.newsLen
 have hr:=run_append_grow_src (P:=P) (mk B d h) t tx ty e i z T.slice hi hz s.a s.len s.cap xs (ab B (d+1)) x m news hS hg (by omega) (growslice_fits (by omega) Z)
 have ak:=grownCap_ge (mk B d h) (s.len+m) s.cap e
 have ah:=grownCap_le_maxLen (mk B d h) (s.len+m) s.cap e (by unfold maxLen;omega)
 generalize grownCap (mk B d h) (s.len+m) s.cap e=c at *
 refine⟨c,_,hr,ak,ah,?_,?_⟩
 ·simp only[Array.size_append,Dx,size_zeroCells,Ag,T.zero,ae,aa,<-BU]
  congr 1
  omega
 ·simp only[Array.toList_append]
  have:(xs++news).length=(s.len+m)*i.size:=by rw[Ag,ae,aa,BU]
  rw[<-this]
  exact CH
theorem Q3{sz bytes:Nat}(T:ElemT P t e z sz bytes){h h':za}{B:World}(hS:Src P sz tx x m news (mk B d h))(Z:s.len+m<=s.cap)
  (aa:∀p,s.a=some p->(storeCells (p.add (s.len*sz)) news 0).run P (mk B d h)=.ok () (mk B d h')) (ab:s.a=none->h'=h):(AB #[t,tx] ty #[slV s,x]).run P (mk B d h)=.ok (.slice s.a (s.len+m) s.cap) (mk B d h'):=by
 obtain⟨i,hi,hz,ae,af⟩:=T.info
 subst ae
 have ht:=T.slice
 unfold slV
 rcases hS.kind with⟨e',hk⟩|hk
 ·cases ha:s.a with
  |none=>rw[ab ha];simp[AB,run_underlying ht,run_underlying hk,sizeOf,typeInfo,hi,hS.len,Z,hS.cells]
  |some p=>simp[AB,run_underlying ht,run_underlying hk,sizeOf,typeInfo,hi,hS.len,Z,hS.cells,aa p ha]
 ·cases ha:s.a with
  |none=>rw[ab ha];simp[AB,run_underlying ht,run_underlying hk,sizeOf,typeInfo,hi,hS.len,Z,hS.cells]
  |some p=>simp[AB,run_underlying ht,run_underlying hk,sizeOf,typeInfo,hi,hS.len,Z,hS.cells,aa p ha]
theorem zav{sz bytes:Nat}(T:ElemT P t e z sz bytes){base:Nat}(H:Owns h base e sz s xs)(hs:∀B d,Src P sz tx x m news (mk B d h))
  (ah:(s.len+m)*bytes<=140737488355328) (ak:s.len+m<=140737488355328) (ae:base<=h.size) {K:Value->za->Prop}
  (hK:∀(s':Sl) (h':za),s'.len=s.len+m->Owns h' base e sz s' (xs++news)->(∀i,i<h.size->(∀p,s.a=some p->i≠p.block)->h'[i]?=h[i]?)->h.size<=h'.size->(∀p',s'.a=some p'->(∃p,s.a=some p/\p'.block=p.block)\/p'.block=h.size)->K (slV s') h'):
  Z5 P (AB #[t,tx] ty #[slV s,x]) h K:=by
 intro B d
 have hS:=hs B d
 have ab:=hS.newsLen
 have af:=H.1
 have am:=H.arr
 by_cases aa:s.len+m<=s.cap
 ·rcases H.2 with⟨hv,aE⟩|⟨g,cap,an,hv,au,hg,aF,aB,aj,ai⟩
  ·simp only[AX]at hv
   obtain⟨e1,e2,e3⟩:=hv
   have hm:m=0:=by omega
   subst hm
   have hn:news=[]:=AO (by simpa using ab)
   subst hn
   have hr:=Q3 (P:=P) (ty:=ty) T (s:=s) (h':=h) hS aa (λp hp=>by rw[e1]at hp;cases hp) (λ_=>rfl)
   refine⟨_,d,h,hr,hK ⟨s.a,s.len+0,s.cap⟩ h rfl ?_ (λ_ _ _=>rfl) (Ac _) (λp' Z=>by rw[show s.a=none from e1]at Z;cases Z)⟩
   rw[A3]
   exact H
  ·simp only[AX]at hv
   obtain⟨e1,_,e3⟩:=hv
   have aA:h[g]?=some (.cells an e (0,0)):=hg
   have ay:(s.len+m)*sz<=cap*sz:=AP _ (by omega)
   rw[BU]at ay
   obtain⟨h',r1,r2,r3,r4⟩:=zo2 (P:=P) aA (o:=s.len*sz) (vs:=news) (by rw[aj];omega) hS.one B d
   have hr:=Q3 (P:=P) (ty:=ty) T (s:=s) (h':=h') hS aa (λp hp=>by
    rw[e1]at hp;cases hp;rw[zu,AK];exact r1) (λhn=>by rw[e1]at hn;cases hn)
   refine⟨_,d,h',hr,hK ⟨s.a,s.len+m,s.cap⟩ h' rfl ⟨?_,.inr ⟨g,cap,_,?_,au,r2,(by show s.len+m<=cap;omega),aB,?_,?_⟩⟩ (λi hi aC=>r4 i λe'=>aC _ e1 e') (by omega) (λp' Z=>.inl ⟨p',Z,rfl⟩)⟩
   ·rw[Ag,af,ab,BU]
   ·simp[e1,e3]
   ·simp only[Dx,Ag,Bb,AI,CM]
    rw[ab,aj]at *;omega
   ·simp only
    rw[ai]
    have:(xs++news).length=(s.len+m)*sz:=by rw[Ag,af,ab,BU]
    rw[<-this]
    exact CH
 ·obtain⟨c,blk,hr,ar,ap,ax,az⟩:=We (P:=P) (ty:=ty) (base:=base) T af (λB d=>Q2 am af T.pos B d) hs ah ak ae (by omega) B d
  refine⟨_,d+1,_,hr,hK ⟨some ⟨h.size,0,none⟩,s.len+m,c⟩ _ rfl ⟨?_,.inr ⟨h.size,c,blk,rfl,ae,yb _ _,ar,ap,ax,az⟩⟩ (λi hi _=>by rw[BV,if_neg (by omega)]) (by simp) (λp' Z=>.inr (by cases Z;rfl))⟩
  rw[Ag,af,ab,BU]
def zdf(s:Bt):List Int:=s.data.toList.map λb=>(b.toNat:Int)
def z8b:(ty:Ty)->Bt->Option (List (El ty))
 |.int .u8,s=>some (zdf s)
 |_,_=>none
def qac(P:Program)(cs:CS)(tx:TypeId)(ty:Ty):AV->Option (List (El ty))
 |.g (.a (.v (.string s)))=>match P.underlying tx with
  |some .string=>z8b ty s
  |_=>none
 |.g (.a (.v (.slice none 0 0)))=>match P.underlying tx with
  |some (.slice _)=>some []
  |_=>none
 |.g (.a aa)=>match P.underlying tx with
  |some (.slice _)=>match rowOf cs aa with
   |some r=>Z9 (.row r.1) (.row ty) r.2
   |none=>match aa with
    |.own c=>match Qz cs c with
     |some (.row _ t xs)=>Z9 (.row t) (.row ty) xs
     |_=>none
    |_=>none
  |_=>none
 |_=>none
theorem RowC.bytes(M:Fr)(s:Bt):RowC M (.int .u8) (zdf s) (byteCells s):=by
 have hl:(byteCells s).length=(zdf s).length:=by unfold byteCells zdf;simp
 refine⟨by rw[hl];simp[sz],λi hi=>?_⟩
 have Z:i<(byteCells s).length:=by rw[hl];exact hi
 have e:(byteCells s)[i]=.int .u8 (zdf s)[i]:=by simp only[byteCells,zdf,DR]
 have e2:((byteCells s).drop (i*1)).take 1=[(byteCells s)[i]]:=by
  rw[Cw,Ba Z];rfl
 show((byteCells s).drop (i*1)).take 1=[.int .u8 (zdf s)[i]]
 rw[e2,e]
theorem Q4{t t':Ty}{xs:List (El t)}{ys:List (El t')}(h:Z9 (.row t) (.row t') xs=some ys):∃e:t=t',ys=e ▸ xs:=by
 unfold Z9 at h
 split at h
 ·rename_i e
  have e':t=t':=by injection e
  subst e'
  simp only[Ab]at h
  exact⟨rfl,h.symm⟩
 ·cases h
theorem zt4{cs:CS}(I:Inv h0 W M0 cs γ h){ty:Ty}{av:AV}{ys:List (El ty)}(hs:qac P cs tx ty av=some ys)(ab:0<sz ty)(hd:DenV γ av u):
  ∃news,RowC γ.M ty ys news/\∀B d,Src P (sz ty) tx u ys.length news (mk B d h):=by
 have row:∀{t:Ty} {xs:List (El t)} {n:Nat} {s:Sl} {cells:List Value} {e':TypeId},Z9 (.row t) (.row ty) xs=some ys->P.underlying tx=some (.slice e')->u=slV s->s.len=xs.length->RowC γ.M t xs cells->Arr n h s.a cells ->
   ∃news,RowC γ.M ty ys news/\∀B d,Src P (sz ty) tx u ys.length news (mk B d h):=by
  intro t xs n s cells e' hc hu e hl hr ha
  obtain⟨e1,e2⟩:=Q4 hc
  subst e1
  simp only at e2
  subst e2
  refine⟨cells,hr,λB d=>?_⟩
  rw[e,<-hl]
  exact zo1 ha (by rw[hl];exact hr.1) ab hr.one hu B d
 unfold qac at hs
 split at hs
 ·rename_i s
  split at hs
  ·rename_i hu
   unfold z8b at hs
   split at hs
   case h_2=>cases hs
   simp only[Ab]at hs
   subst hs
   refine⟨byteCells s,RowC.bytes _ s,λB d=>?_⟩
   rw[show u=.string s from hd]
   have:=Src.ofString (P:=P) (mk B d h) hu s
   have e:(zdf s).length=s.size:=by unfold zdf;rw[AH,CM];rfl
   rw[e];exact this
  ·cases hs
 ·split at hs
  ·rename_i e' hu
   simp only[Ab]at hs
   subst hs
   refine⟨[],RowC.nil _ _,λB d=>?_⟩
   rw[show u=.slice none 0 0 from hd]
   exact Src.ofNil (mk B d h) hu 0
  ·cases hs
 ·rename_i aa _ _
  split at hs
  ·rename_i e' hu
   split at hs
   ·rename_i r hr
    obtain⟨s,e,hl,hn,cells,Z,af⟩:=(zc9 I hr hd).rowC I.ag
    exact row hs hu e hl Z af
   ·split at hs
    ·rename_i c _ _ _
     split at hs
     ·rename_i e t xs hc
      obtain⟨cells,ae,Z,hn,hl⟩:=I.den _ (qb hc)
      exact row hs hu (show u=slV _ from hd) hl Z ae.arr
     ·cases hs
    ·cases hs
  ·cases hs
 ·cases hs
def zgk(P:Program)(el:TypeId)(ty:Ty):Option Nat:=match P.info? el with
 |some i=>match i.zero with
  |some z=>bif (bif Nat.beq i.size (sz ty)then(bif Nat.beq z.cells.size i.size then(bif Nat.blt 0 i.size then Nat.blt 0 i.bytes else false)else false)else false)then some i.bytes else none
  |none=>none
 |none=>none
theorem zkp{t el:TypeId}{ty:Ty}(hu:P.underlying t=some (.slice el))(h:zgk P el ty=some b):(∃z,ElemT P t el z (sz ty) b)/\0<b:=by
 unfold zgk at h
 split at h
 ·rename_i i hi
  split at h
  ·rename_i z hz
   cases h1:Nat.beq i.size (sz ty)with
   |false=>rw[h1]at h;cases h
   |true=>
   cases h2:Nat.beq z.cells.size i.size with
   |false=>rw[h1,h2]at h;cases h
   |true=>
   cases h3:Nat.blt 0 i.size with
   |false=>rw[h1,h2,h3]at h;cases h
   |true=>
   cases h4:Nat.blt 0 i.bytes with
   |false=>rw[h1,h2,h3,h4]at h;cases h
   |true=>
   rw[h1,h2,h3,h4]at h
   simp only[cond_true,Ab]at h
   have e1:=Ah h1
   have e2:=Ah h2
   have e3:0<i.size:=by simpa[Cu]using h3
   have e4:0<i.bytes:=by simpa[Cu]using h4
   exact⟨⟨z,hu,⟨i,hi,hz,e1,h⟩,by rw[e2,e1],by rw[<-e1];exact e3⟩,by rw[<-h];exact e4⟩
  ·cases h
 ·cases h
def Xx(P:Program)(tr:TypeId)(t tx:TypeId)(bv sv:AV)(d:Nat)(C R:CS)(K:AV->CS->Option Nat->Prop):Prop:=
 match z4t P t with
 |some el=>match z8a P tr 8 el with
  |some ty=>match zgk P el ty,qac P (C++R) tx ty sv with
   |some b,some ys=>match bv with
    |.g (.a (.v (.slice none 0 0)))=>bif ql d R then(ys.length*b<=140737488355328/\K (.g (.a (.own d))) ((d,.row el ty ys)::qp d C) (some d))else False
    |.g (.a (.own c))=>match Qz C c with
     |some (.row e t' xs)=>match Z9 (.row t') (.row ty) xs with
      |some xs=>bif Nat.beq e el then(bif ql d R then((xs.length+ys.length)*b<=140737488355328/\K (.g (.a (.own d))) ((d,.row el ty (xs++ys))::qp d (J9 c C)) (some d))else False)else False
      |none=>False
     |_=>False
    |.g (.a (.dc t' xs))=>match Z9 (.row t') (.row ty) xs with
     |some xs=>(xs.length+ys.length)*b<=140737488355328/\K (.g (.a (.d (.row ty) (xs++ys)))) C none
     |none=>False
    |_=>False
   |_,_=>False
  |none=>False
 |none=>False
theorem zdg{n b k:Nat}(hb:0<b)(h:n*b<=k):n<=k:=CV (Dk _ hb) h
theorem zkq{tr t tx ty':TypeId}{bv sv:AV}{K:AV->CS->Option Nat->Prop}(H:Xx P tr t tx bv sv d C R K)(I:Inv h0 W M0 (C++R) γ h)
  {u v:Value} (ax:DenV γ bv u) (aO:DenV γ sv v):Z5 P (AB #[t,tx] ty' #[u,v]) h (zbs h0 W M0 R γ K):=by
 unfold Xx at H
 split at H
 ·rename_i el aI
  obtain⟨hu,a6⟩:=Jb aI
  split at H
  ·rename_i ty ba
   split at H
   ·rename_i b ys hb aV
    obtain⟨⟨z,T⟩,ap⟩:=zkp hu hb
    obtain⟨news,aj,ak⟩:=zt4 I aV T.pos aO
    split at H
    ·cases hR:ql d R with
     |false=>rw[hR]at H;exact H.elim
     |true=>
     rw[hR]at H
     obtain⟨ae,hK⟩:=H
     rw[show u=slV ⟨none,0,0⟩from ax]
     have af:=zdg ap ae
     refine zav T (Owns.nil h h0.size el (sz ty)) ak (by simpa using ae) (by simpa using af) I.size λs' h' hl am hk hs hp=>?_
     rw[A8]at am
     simp only[AK]at hl
     refine⟨_,_,_,zrx γ d s',hK,?_,I.newRow hR hs (p:=none) (λi hi _=>hk i hi (by simp)) (λb hb=>by cases hb) am (λq hq=>?_) aj af hl,Qa _ _ _⟩
     ·simp only[DenV,DenG,DenA,qy]
     ·rcases hp q hq with⟨p,hp,_⟩|hp
      ·simp at hp
      ·exact .inr hp
    ·rename_i c
     split at H
     ·rename_i e t' aQ hc
      split at H
      ·rename_i xs ah
       cases hee:Nat.beq e el with
       |false=>rw[hee]at H;exact H.elim
       |true=>
       rw[hee]at H
       cases hR:ql d R with
       |false=>rw[hR]at H;exact H.elim
       |true=>
       rw[hR]at H
       obtain⟨ae,hK⟩:=H
       have af:=zdg ap ae
       have an:=qb hc
       obtain⟨e1,e2⟩:=Q4 ah
       subst e1
       simp only at e2
       subst e2
       have e3:=Ah hee
       subst e3
       have aE:=I.den _ (Ar R an)
       obtain⟨cells,ai,aa,aG,Z⟩:=aE
       simp only at ai aa Z
       rw[show u=slV (γ.σ c)from ax]
       refine zav T ai ak (by rw[Z];exact ae) (by rw[Z];exact af) I.size λs' h' hl am hk hs hp=>?_
       have az:=I.sep _ (Ar R an)
       have aZ:=Q0 hR
       have aL:Inv h0 W M0 (J9 c C++R) γ h:=I.sub ((wu c C).append_right R)
       refine⟨_,_,_,zrx γ d s',hK,?_,aL.newRow hR hs (p:=(γ.σ c).a.map (·.block)) (λi hi ay=>hk i hi λp hp e=>ay (by rw[hp,e];rfl)) (λb hb=>?_) am (λq hq=>?_) (aa.append aj) (by rw[Ag];exact af) (by rw[hl,Z,Ag]),Qa _ _ _⟩
       ·simp only[DenV,DenG,DenA,qy]
       ·obtain⟨h1,h2⟩:=az b hb
        refine⟨?_,h2,λx hx aH=>?_⟩
        ·simp only[Cs]at hb
         obtain⟨p,hp,rfl⟩:=hb
         exact(ai.base_le p hp).1
        ·have aU:x∈C++R:=((wu c C).append_right R).subset hx
         have ay:x≠(c,Ch.row e t' xs):=by
          rintro rfl
          rcases Aw.1 hx with hx|hx
          ·exact(Yr hx).2 rfl
          ·have aA:=I.apart
           rw[CE]at aA
           exact aA.2.2 _ an _ hx b hb hb
         have hp:=@zc8 _ (λ(x y:Nat×Ch)=>∀b,blk γ x.1 x.2=some b->blk γ y.1 y.2≠some b) (λx y h b hb ar=>h b ar hb) _ I.apart
         exact hp aU (Ar R an) ay b aH hb
       ·rcases hp q hq with⟨p,hp,aY⟩|hp
        ·exact .inl (by rw[hp,aY];rfl)
        ·exact .inr hp
      ·exact H.elim
     ·exact H.elim
    ·rename_i t' aQ
     split at H
     ·rename_i xs ah
      obtain⟨ae,hK⟩:=H
      have af:=zdg ap ae
      obtain⟨e1,e2⟩:=Q4 ah
      subst e1
      simp only at e2
      subst e2
      obtain⟨s,e,a1,aC⟩:=(show ∃s:Sl,u=slV s/\s.cap=s.len/\Rd γ.M (.row t') xs [u]from ax)
      subst e
      obtain⟨s2,e,Z,aG,cells,aa,aF⟩:=aC.rowC I.ag
      have e':s=s2:=by cases s;cases s2;simp only[slV,AX]at e;simp[e]
      subst e'
      have au:cells.length=s.len*sz t':=by rw[Z];exact aa.1
      intro B dr
      by_cases hm:ys.length=0
      ·have aN:ys=[]:=AO hm
       subst aN
       have aT:news=[]:=AO (by rw[aj.1];simp)
       subst aT
       have hr:=Q3 (P:=P) (ty:=ty') T (s:=s) (h':=h) (ak B dr) (by simp;omega) (λp hp=>by simp[storeCells]) (λ_=>rfl)
       refine⟨_,dr,h,hr,_,C,none,γ,hK,?_,I,Gx.refl _ _⟩
       rw[A3]
       exact aC
      ·obtain⟨c,ab,hr,aP,a7,a8,aJ⟩:=We (P:=P) (ty:=ty') (base:=0) T au (λB d=>Q2 aF au T.pos B d) ak (by rw[Z];exact ae) (by rw[Z];exact af) (Cv _) (by omega) B dr
       have aS:γ.M h.size=none:=I.ag.none (Ac _)
       have hM:Fr.le γ.M (zfi γ h.size ab).M:=by
        intro b cc eM
        have:Nat.beq b h.size=false:=by
         cases hb:Nat.beq b h.size with
         |false=>rfl
         |true=>rw[Ah hb,aS]at eM;cases eM
        simp[zfi,this,eM]
       have aM:AgM (zfi γ h.size ab).M (h.push (.cells ab el)):=by
        intro b cc eM
        by_cases hb:b=h.size
        ·subst hb
         have:cc=ab:=by simp[zfi]at eM;exact eM.symm
         subst this
         exact⟨_,_,yb _ _⟩
        ·have:Nat.beq b h.size=false:=by
          cases ar:Nat.beq b h.size with
          |false=>rfl
          |true=>exact absurd (Ah ar) hb
         simp only[zfi,this,cond_false]at eM
         obtain⟨T',m,e'⟩:=I.ag b cc eM
         exact⟨T',m,by rw[BV,if_neg hb];exact e'⟩
       refine⟨_,dr+1,_,hr,_,C,none,zfi γ h.size ab,hK,?_,I.call (Keep.push h _ (Ac _)) hM (λb hb=>?_) aM,⟨hM,λ_ _=>⟨rfl,rfl⟩⟩⟩
       ·have aB:=((aa.append aj).mono hM).rd (b:=h.size) (o:=0) (c:=c) (cs:=ab) (by simp[zfi]) (by rw[Cc,Ag,<-Z];exact aJ) (by rw[Ag,<-Z];exact⟨by rw[Z];exact af,aP⟩)
        rw[Ag,<-Z]at aB
        exact aB
       ·have:Nat.beq b h.size=false:=by
         cases ar:Nat.beq b h.size with
         |false=>rfl
         |true=>have:=Ah ar;omega
        simp[this]
     ·exact H.elim
    ·exact H.elim
   ·exact H.elim
  ·exact H.elim
 ·exact H.elim
end
section
variable {cs C R:CS} {γ b:Gh} {h:za} {u:Value} {P:Program} {o:Oper} {σ:Operand -> Value} {n:Nat} {gl:Fr} {tr:TypeId} {c:zz} {a:Act} {S:List Nat}
variable {h0 : za} {W : Nat -> Prop} {M0 : Fr}
def qfr(ns:List Int):Bt:=ns.foldl (λr n=>r.push (A4 n.toNat)) ByteArray.empty
def qgb(t:Ty)(xs:List (El t)):Option (List Int):=Z9 (.row t) (.row (.int .u8)) xs
def zt5(cs:CS):AA->Option ((t:Ty)×List (El t))
 |.own c=>match Qz cs c with
  |some (.row _ t xs)=>some ⟨t,xs⟩
  |some (.fz t xs)=>some ⟨t,xs⟩
  |_=>none
 |aa=>rowOf cs aa
theorem zkr(I:Inv h0 W M0 cs γ h){aa:AA}{r:(t:Ty)×List (El t)}(hr:zt5 cs aa=some r)(hd:DenA γ aa u):
  ∃s:Sl,u=slV s/\s.len=r.2.length/\∃cells,RowC γ.M r.1 r.2 cells/\Arr h.size h s.a cells:=by
 unfold zt5 at hr
 split at hr
 ·split at hr
  ·rename_i c e t xs hc
   simp only[Ab]at hr
   subst hr
   obtain⟨cells,Z,ab,hn,hl⟩:=I.den _ (qb hc)
   exact⟨_,hd,hl,cells,ab,Z.arr⟩
  ·rename_i c t xs hc
   simp only[Ab]at hr
   subst hr
   have:Rd γ.M (.row t) xs [u]:=by rw[show u=_ from hd];exact I.den _ (qb hc)
   obtain⟨s,e,hl,hn,cells,h1,h2⟩:=this.rowC I.ag
   exact⟨s,e,hl,cells,h1,h2⟩
  ·cases hr
 ·obtain⟨s,e,hl,hn,cells,h1,h2⟩:=(zc9 I hr hd).rowC I.ag
  exact⟨s,e,hl,cells,h1,h2⟩
def zl7(P:Program)(s t:TypeId)(av:AV)(cs:CS)(K:AV->Prop):Prop:=
 match P.underlying s,P.underlying t with
 |some (.slice e),some .string=>match P.underlying e,av with
  |some (.int .u8),.g (.a aa)=>match zt5 cs aa with
   |some r=>match qgb r.1 r.2 with
    |some ns=>K (.g (.a (.v (.string (qfr ns)))))
    |none=>False
   |none=>False
  |_,_=>False
 |some (.int _),some .string=>match av with
  |.g (.a (.v (.int _ n)))=>K (.g (.a (.v (.string (Ep n)))))
  |_=>False
 |_,_=>False
theorem zzi{M:Fr}{k:IntKind}:∀{ns:List Int} {cells:List Value},RowC M (.int k) ns cells->cells=ns.map (Ey k)
 |ns,cells,H=>by
  apply BC
  intro i
  have hl:cells.length=ns.length:=by rw[H.1];simp[sz]
  rw[BN]
  by_cases hi:i<ns.length
  ·have:((cells.drop (i*1)).take 1)=[.int k ns[i]]:=H.2 i hi
   have e:cells[i]?=some (.int k ns[i]):=by
    have h2:((cells.drop (i*1)).take 1)[0]?=some (.int k ns[i]):=by rw[this];rfl
    rw[AL,if_pos (by omega),AQ]at h2
    simpa using h2
   rw[e,Aq hi];rfl
  ·rw[BS (by omega),BS (by omega)];rfl
theorem zr2{s t:TypeId}{x:Operand}(ho:o.op=.convert s t x){av:AV}{K:AV->Prop}(H:zl7 P s t av cs K)(I:Inv h0 W M0 cs γ h)(hd:DenV γ av (σ x)):
  ∃ae v,K ae/\DenV γ ae v/\QExec P (execOp σ o) h (.value v):=by
 have val:∀{v:Value},QExec P (convert s t (σ x)) h v->QExec P (execOp σ o) h (.value v):=λhq=>by
  simp only[execOp,ho];exact QExec.val hq
 unfold zl7 at H
 split at H
 ·rename_i e hs ht
  split at H
  ·rename_i aa he
   split at H
   ·rename_i r hr
    split at H
    ·rename_i ns aj
     refine⟨_,.string (qfr ns),H,rfl,val λB d=>?_⟩
     obtain⟨sl,e1,hl,cells,ab,af⟩:=zkr I hr hd
     obtain⟨tt,xs⟩:=r
     obtain⟨e2,e3⟩:=Q4 aj
     simp only at e2
     subst e2
     simp only at e3 hl ab
     subst e3
     have hc:=zzi ab
     subst hc
     have h1:=QExec.underlying (h:=h) hs B d
     have h2:=QExec.underlying (h:=h) ht B d
     have h3:=QExec.underlying (h:=h) he B d
     have Z:(Conv.bytesToString (σ x)).run P (mk B d h)=.ok (.string (qfr ns)) (mk B d h):=by
      rw[e1]
      unfold slV
      rcases af with ai|⟨b,o',e4,_,ak⟩
      ·have ah:ns=[]:=by simpa using ai
       subst ah
       simp only[AZ]at hl
       cases ha:sl.a with
       |none=>simp[Conv.bytesToString,qfr]
       |some p=>
        have:=run_bytesToString (P:=P) (mk B d h) p sl.len sl.cap [] (by rw[hl];simp[loadCells,loadCellsFrom])
        exact this
      ·rw[e4]
       refine run_bytesToString (mk B d h) ⟨b,o',none⟩ sl.len sl.cap ns ?_
       have:=Q2 (P:=P) (h:=h) (n:=b+1) (sz:=1) (s:=sl) (cells:=ns.map (Ey .u8)) (.inr ⟨b,o',e4,by omega,ak⟩) (by rw[hl];simp) (by omega) B d
       rw[e4]at this
       simpa[CQ]using this
     unfold convert
     rw[Sem.run_bind,h1]
     simp only[Result.andThen_ok]
     rw[Sem.run_bind,h2]
     simp only[Result.andThen_ok]
     rw[e1]at Z ⊢
     unfold slV at Z ⊢
     simp only[Sem.run_bind,h3,Result.andThen_ok]
     exact Z
    ·exact H.elim
   ·exact H.elim
  ·exact H.elim
 ·rename_i k hs ht
  split at H
  ·rename_i k' n
   refine⟨_,.string (Ep n),H,rfl,val λB d=>?_⟩
   have h1:=QExec.underlying (h:=h) hs B d
   have h2:=QExec.underlying (h:=h) ht B d
   have e:σ x=.int k' n:=hd
   unfold convert
   rw[Sem.run_bind,h1]
   simp only[Result.andThen_ok]
   rw[Sem.run_bind,h2,e]
   rfl
  ·exact H.elim
 ·exact H.elim
def qdi:BinOp->Option Bool
 |.eql=>some true
 |.neq=>some false
 |_=>none
def qgc(P:Program)(o:Oper)(ρ:Operand->Option AV)(cs:CS):Option (Bool×Nat):=match o.op with
 |.binOp op t x y _=>match qdi op,ρ x,ρ y with
  |some pol,some (.g (.a aa)),some (.g (.a (.v (.slice none 0 0))))=>match zt5 cs aa,P.underlying t with
   |some ⟨ty,xs⟩,some (.slice _)=>bif Nat.blt 0 (sz ty)then some (pol,xs.length)else none
   |_,_=>none
  |_,_,_=>none
 |_=>none
theorem zl8(op:BinOp)(t:TypeId)(x y:Operand)(a b:Option Addr)(l c l' c':Nat)(w:World):(eqGuard op t x y (.slice a l c) (.slice b l' c')).run P w=.ok () w:=by
 unfold eqGuard;cases op <;> rfl
theorem qad{ρ:Operand->Option AV}{af:Bool}(hn:qgc P o ρ (C++R)=some (af,n)){K:AV->CS->Option Nat->Prop}(H:∀b:Bool,(b=true->n=0)->K (.g (.a (.v (.bool (bif af then b else !b))))) C none)
  (I:Inv h0 W M0 (C++R) γ h) (hρ:∀x av,ρ x=some av->DenV γ av (σ x)):ExA P (execOp σ o) h (zbs h0 W M0 R γ K):=by
 unfold qgc at hn
 split at hn
 ·rename_i op t x y yt ho
  split at hn
  ·rename_i ai aa Z hx hy
   split at hn
   ·rename_i ty xs e hr hu
    cases hz:Nat.blt 0 (sz ty)with
    |false=>rw[hz]at hn;cases hn
    |true=>
     rw[hz]at hn
     simp only[cond_true,Ab,Be]at hn
     obtain⟨rfl,rfl⟩:=hn
     have aj:0<sz ty:=by simpa[Cu]using hz
     obtain⟨s,e1,hl,cells,ab,ah⟩:=zkr I hr (hρ _ _ hx)
     have e2:σ y=.slice none 0 0:=hρ _ _ hy
     have ae:s.a.isNone=true->xs.length=0:=by
      intro hs
      have hc:cells=[]:=by
       rcases ah with hc|⟨b,o,ha,_⟩
       ·exact hc
       ·rw[ha]at hs;cases hs
      have:=ab.1
      rw[hc]at this
      simp only[AZ]at this
      rcases Nat.mul_eq_zero.1 this.symm with h1|h1
      ·exact h1
      ·omega
     have hK:=H s.a.isNone ae
     intro B d
     refine .inl ⟨_,d,h,?_,_,C,none,γ,hK,rfl,I,Gx.refl _ _⟩
     simp only[execOp,ho]
     refine Yi ?_
     rw[e1,e2]
     simp only[slV]
     rw[Sem.run_bind,zl8]
     simp only[Result.andThen_ok]
     cases op <;> simp only[qdi,Ab]at Z <;> (try (cases Z;done)) <;> subst Z
     ·simp only[binOp,Sem.run_bind,run_equal_slice_nil _ t _ _ _ _ hu];rfl
     ·simp only[binOp,Sem.run_bind,run_equal_slice_nil _ t _ _ _ _ hu];rfl
   ·cases hn
  ·cases hn
 ·cases hn
def hA0(P:Program)(gl:Fr)(tr:TypeId)(o:Oper)(ρ:Operand->Option AV)(C R:CS)(K:AV->CS->Option Nat->Prop):Prop:=
 match o.op with
 |.alloc t=>match o.dst with
  |some d=>zza P t d C R K
  |none=>False
 |.box t x=>match o.dst,ρ x with
  |some d,some av=>match zwl av with
   |some l=>qga t d l C R K
   |none=>False
  |_,_=>False
 |.store t a x=>match ρ a,ρ x with
  |some (.g (.a aa)),some xv=>match zwl xv with
   |some l2=>zze P t aa l2 C R K
   |none=>False
  |_,_=>False
 |.buildSlice t n Z=>match o.dst,zdc ρ Z.toList with
  |some d,some ps=>Wd P tr t n ps d C R K
  |_,_=>False
 |.convert s t x=>bif isQ P o then qA P gl o ρ none (C++R) (λav=>K av C none)else(match ρ x with
  |some av=>zl7 P s t av (C++R) λab=>K ab C none
  |none=>False)
 |.call c=>match c.callee with
  |.builtin .append=>match c.args.toList,c.argTypes.toList,o.dst with
   |[s,x],[t,tx],some d=>match ρ s,ρ x with
    |some bv,some sv=>Xx P tr t tx bv sv d C R K
    |_,_=>False
   |_,_,_=>False
  |.builtin _=>qA P gl o ρ none (C++R) λav=>K av C none
  |_=>z99 P gl tr o ρ C R λav C'=>K av C' none
 |.range t x=>match o.dst,ρ x with
  |some d,some av=>zzg P t av d C R K
  |_,_=>False
 |.next x true=>match ρ x with
  |some av=>qab av C R K
  |none=>False
 |_=>qA P gl o ρ none (C++R) λav=>K av C none
theorem toList_eq{α:Type}{x:Array α}{l:List α}(h:x.toList=l):x=l.toArray:=by
 have:=congrArg List.toArray h;simpa using this
theorem qdj(ab:Fr.le gl M0){ρ:Operand->Option AV}{K:AV->CS->Option Nat->Prop}(H:hA0 P gl tr o ρ C R K)(I:Inv h0 W M0 (C++R) γ h)
  (hσ:∀f,σ (.func f)=.func (.func f) #[] #[]) (hρ:∀x av,ρ x=some av->DenV γ av (σ x)):ExA P (execOp σ o) h (zbs h0 W M0 R γ K):=by
 unfold hA0 at H
 split at H
 ·rename_i t ho
  split at H
  ·exact zzb ho H I
  ·exact H.elim
 ·rename_i t x ho
  split at H
  ·rename_i d av hd Z
   split at H
   ·rename_i l hl
    exact qaa ho H I (zda hl (hρ _ _ Z))
   ·exact H.elim
  ·exact H.elim
 ·rename_i t a x ho
  split at H
  ·rename_i aa xv ha hx
   split at H
   ·rename_i l hl
    exact zzf ho H I (zda hl (hρ _ _ hx)) (hρ _ _ ha)
   ·exact H.elim
  ·exact H.elim
 ·rename_i t n ah ho
  split at H
  ·rename_i d ps hd ak
   exact zbb ho ak H I hρ
  ·exact H.elim
 ·rename_i s t x ho
  cases hq:isQ P o with
  |true=>rw[hq]at H;exact z97 ab H I hρ
  |false=>
   rw[hq]at H
   simp only[cond_false]at H
   split at H
   ·rename_i av Z
    obtain⟨ai,v,h1,h2,h3⟩:=zr2 ho H I (hρ _ _ Z)
    exact λB d=>.inl ⟨v,d,h,h3 B d,ai,C,none,γ,h1,h2,I,Gx.refl _ _⟩
   ·exact H.elim
 ·rename_i c ho
  split at H
  ·rename_i hc
   split at H
   ·rename_i s x t tx d ae af hd
    split at H
    ·rename_i bv sv hs hx
     have aj:=zkq (ty':=o.type) H I (hρ _ _ hs) (hρ _ _ hx)
     intro B e
     obtain⟨v,d',h',r,hp⟩:=aj B e
     refine .inl ⟨v,d',h',?_,hp⟩
     have ee:execOp σ o=(AB c.argTypes o.type (c.args.map σ) >>= λx=>(Dc (Dl x):Sem Next)):=by
      simp only[execOp,ho,resolve,hc]
      rfl
     rw[ee,toList_eq ae,toList_eq af]
     refine Yi ?_
     simpa using r
    ·exact H.elim
   ·exact H.elim
  ·exact z97 ab H I hρ
  ·exact z4x ab H I hσ hρ
 ·rename_i t x ho
  split at H
  ·rename_i d av hd Z
   exact zzh ho H I (hρ _ _ Z)
  ·exact H.elim
 ·rename_i x ho
  split at H
  ·rename_i av Z
   exact z4y ho H I (hρ _ _ Z)
  ·exact H.elim
 ·exact z97 ab H I hρ
def hA(P:Program)(gl:Fr)(tr:TypeId)(o:Oper)(ρ:Operand->Option AV)(C R:CS)(K:AV->CS->Option Nat->Prop):Prop:=match qgc P o ρ (C++R)with
 |some (pol,n)=>∀b:Bool,(b=true->n=0)->K (.g (.a (.v (.bool (bif pol then b else !b))))) C none
 |none=>hA0 P gl tr o ρ C R K
theorem qgd(Z:Fr.le gl M0){ρ:Operand->Option AV}{K:AV->CS->Option Nat->Prop}(H:hA P gl tr o ρ C R K)(I:Inv h0 W M0 (C++R) γ h)
  (hσ:∀f,σ (.func f)=.func (.func f) #[] #[]) (hρ:∀x av,ρ x=some av->DenV γ av (σ x)):ExA P (execOp σ o) h (zbs h0 W M0 R γ K):=by
 unfold hA at H
 split at H
 ·rename_i aa n hn
  exact qad hn H I hρ
 ·exact qdj Z H I hσ hρ
def orA:Option AV->Option AV->Option AV
 |some v,_=>some v
 |none,w=>w
def qge(b:Bool)(x y:AV):Option AV:=match exV x,exV y with
 |some u,some v=>some (zwi (zyg b u v))
 |_,_=>match x,y with
  |.g (.a (.d t xs)),.g (.a (.d t' ys))=>match Z9 t' t ys with
   |some ys=>some (.g (.a (.d t (bif b then xs else ys))))
   |none=>none
  |_,_=>none
theorem z4z{b:Bool}{x y z:AV}(h:qge b x y=some z){u v:Value}(hx:b=true->DenV γ x u)(hy:b=false->DenV γ y v):DenV γ z (if b=true then u else v):=by
 unfold qge at h
 split at h
 ·rename_i p q hp hq
  simp only[Ab]at h
  subst h
  have e:(if b=true then u else v)=zyg b p q:=by
   rw[ztt]
   cases b with
   |true=>simp only[if_true];exact zry hp (hx rfl)
   |false=>simp only[A5,if_false];exact zry hq (hy rfl)
  rw[e];exact Ja γ _
 ·split at h
  ·rename_i t xs t' ys _
   split at h
   ·rename_i Z hc
    simp only[Ab]at h
    subst h
    cases b with
    |true=>exact hx rfl
    |false=>exact J8 hc (hy rfl)
   ·cases h
  ·cases h
def z5a(e:qj)(c:zz)(x a b:Operand)(K:AV->Prop):Prop:=
 match x with
 |.tmp s=>match zl2 e s with
  |some (cs,v)=>match zwj v with
   |some t=>bif suf cs c then(match orA (zfp e c a) (zfp e ((s,true)::cs) a),orA (zfp e c b) (zfp e ((s,false)::cs) b)with
    |some va,some vb=>match qge t va vb with
     |some z=>K z
     |none=>False
    |_,_=>False)else False
   |none=>False
  |none=>False
 |_=>False
theorem Wg{e:qj}{x a b:Operand}{K:AV->Prop}(H:z5a e c x a b K):
  ∃z,K z/\∀(n:Nat) (γ:Gh) (Z:Act),SatA n e γ Z->valid (zo Z) c->∃t,Z.eval x=.bool t/\DenV γ z (if t=true then Z.eval a else Z.eval b):=by
 unfold z5a at H
 split at H
 ·rename_i s
  split at H
  ·rename_i cs v hl
   split at H
   ·rename_i t ht
    cases hsf:suf cs c with
    |false=>rw[hsf]at H;exact H.elim
    |true=>
     rw[hsf]at H
     simp only[cond_true]at H
     split at H
     ·rename_i va vb ha hb
      split at H
      ·rename_i z hz
       refine⟨z,H,λn γ Z hs hv=>?_⟩
       have aa:=Y5 hsf hv
       have hx:zo Z s=.bool t:=zhe ht ((hs.all _ (Zy hl)).1 aa)
       refine⟨t,hx,z4z hz (λae=>?_) (λab=>?_)⟩
       ·unfold orA at ha
        split at ha
        ·rename_i w _ h1
         simp only[Ab]at ha;subst ha
         exact zq hs hv h1
        ·exact zq hs (c:=(s,true)::cs) ⟨by rw[hx,ae],aa⟩ ha
       ·unfold orA at hb
        split at hb
        ·rename_i w _ h1
         simp only[Ab]at hb;subst hb
         exact zq hs hv h1
        ·exact zq hs (c:=(s,false)::cs) ⟨by rw[hx,ab],aa⟩ hb
      ·exact H.elim
     ·exact H.elim
   ·exact H.elim
  ·exact H.elim
 ·exact H.elim
def opA(P:Program)(gl:Fr)(tr:TypeId)(o:Oper)(e:qj)(c:zz)(C R:CS)(K:AV->CS->Option Nat->Prop):Prop:=
 match o.op with
 |.pick x a b=>z5a e c x a b λav=>K av C none
 |_=>match Wa e c with
  |some none=>hA P gl tr o (zfp e c) C R K
  |some (some b)=>bif zg0 o then zwn P gl tr o (zfp e c) b (C++R) (λav=>K av C none)else qA P gl o (zfp e c) (some b) (C++R) (λav=>K av C none)
  |none=>False
theorem qae(Z:Fr.le gl M0){e:qj}{K:AV->CS->Option Nat->Prop}(H:opA P gl tr o e c C R K)(hs:SatA n e γ a)(I:Inv h0 W M0 (C++R) γ h)(hv:valid (zo a) c):
  ExA P (execOp a.eval o) h (zbs h0 W M0 R γ K):=by
 have hσ:∀f,a.eval (.func f)=.func (.func f) #[] #[]:=λ_=>rfl
 have hρ:∀x av,zfp e c x=some av->DenV γ av (a.eval x):=λx av hx=>zq hs hv hx
 unfold opA at H
 split at H
 ·rename_i x y z ho
  obtain⟨av,h1,h2⟩:=Wg H
  obtain⟨t,h3,h4⟩:=h2 n γ a hs hv
  refine λB d=>.inl ⟨_,d,h,?_,av,C,none,γ,h1,h4,I,Gx.refl _ _⟩
  simp only[execOp,ho,h3,asBool,Sem.run_bind,Sem.run_pure,Result.andThen_ok]
 ·split at H
  ·exact qgd Z H I hσ hρ
  ·rename_i b hb
   have hg:=xd hs hb hv
   cases hic:zg0 o with
   |true=>
    rw[hic]at H
    simp only[cond_true]at H
    obtain⟨f,args,h1,h2⟩:=(zbt (h0:=h0) (W:=W) (M0:=M0) H).2 hg Z γ h a.eval I hσ hρ
    refine λB d=>.inr (.inr ⟨f,args,h1 _,h2.mono ?_⟩)
    rintro v h' ⟨av,γ',g1,g2,g3,g4,_⟩
    exact⟨av,C,none,γ',g1,g2,g3,g4⟩
   |false=>
    rw[hic]at H
    simp only[cond_false]at H
    obtain⟨av,h1,h2⟩:=zgj (h0:=h0) (W:=W) (M0:=M0) Z H
    obtain⟨v,hd,hq⟩:=h2 hg γ h a.eval I hρ
    exact λB d=>.inl ⟨v,d,h,hq B d,av,C,none,γ,h1,hd,I,Gx.refl _ _⟩
  ·exact H.elim
theorem qdk{e:qj}{K:AV->CS->Option Nat->Prop}(H:opA P gl tr o e c C R K)(hs:SatA n e γ a)(hv:¬valid (zo a) c):∃av,K av C none:=by
 unfold opA at H
 split at H
 ·obtain⟨av,h1,_⟩:=Wg H
  exact⟨av,h1⟩
 ·split at H
  ·rename_i hg
   have:=zbp hs hg hv
   cases this
  ·rename_i b hb
   have Z:=zbp hs hb hv
   simp only[Ab]at Z
   cases hic:zg0 o with
   |true=>rw[hic]at H;simp only[cond_true]at H;exact(zbt (h0:=#[]) (W:=λ_=>False) (M0:=λ_=>none) H).1 Z
   |false=>
    rw[hic]at H
    simp only[cond_false]at H
    obtain⟨av,h1,_⟩:=zgj (h0:=#[]) (W:=λ_=>False) (M0:=gl) (Fr.le.refl _) H
    exact⟨av,h1⟩
  ·exact H.elim
def GxS(S:List Nat)(γ γ':Gh):Prop:=Fr.le γ.M γ'.M/\∀i,i∉S->γ'.β i=γ.β i/\γ'.σ i=γ.σ i
theorem GxS.refl(S:List Nat)(γ:Gh):GxS S γ γ:=⟨Fr.le.refl _,λ_ _=>⟨rfl,rfl⟩⟩
theorem GxS.trans{a b c:Gh}(h:GxS S a b)(k:GxS S b c):GxS S a c:=⟨h.1.trans k.1,λi hi=>⟨(k.2 i hi).1.trans (h.2 i hi).1,(k.2 i hi).2.trans (h.2 i hi).2⟩⟩
theorem GxS.mono{S S':List Nat}{a b:Gh}(h:GxS S a b)(hs:∀x∈S,x∈S'):GxS S' a b:=⟨h.1,λi hi=>h.2 i λhm=>hi (hs i hm)⟩
def qfs(c:Option Nat)(d:Option Nat):Bool:=match c,d with
 |none,_=>true
 |some x,some y=>Nat.beq x y
 |some _,none=>false
theorem Gx.toS{c d:Option Nat}{γ γ':Gh}(g:Gx c γ γ')(h:qfs c d=true)(hS:∀i,d=some i->i∈S):GxS S γ γ':=by
 refine⟨g.1,λi hi=>g.2 i λe=>?_⟩
 subst e
 cases d with
 |none=>cases h
 |some y=>
  have:i=y:=Ah h
  subst this
  exact hi (hS _ rfl)
def wRA(P:Program)(gl:Fr)(tr:TypeId)(n:Nat)(ops:Array Oper)(R:CS)(K:qj->CS->Prop):List Oper->qj->CS->Prop
 |[],e,C=>K (zfj e) C
 |o::rest,e,C=>match Ys ops e o.guard with
  |some c=>bif qk n c o.dst then opA P gl tr o e c C R (λav C' i=>bif qfs i o.dst then wRA P gl tr n ops R K rest (z4p (ztz i e) o.dst c av) C' else False)else False
  |none=>False
theorem zdh{P:Program}{gl:Fr}(af:Fr.le gl M0){tr:TypeId}{n:Nat}{ops:Array Oper}{R:CS}{K:qj->CS->Prop}{Q:Exit->Act->World->Prop}(B:World):
  ∀(l:List Oper) (e:qj) (C:CS) (γ:Gh) (h:za) (a:Act) (d:Nat),wRA P gl tr n ops R K l e C->SatA n e γ a->Inv h0 W M0 (C++R) γ h ->
   (∀e' C' γ' a' d' h',SatA n e' γ' a'->Inv h0 W M0 (C'++R) γ' h'->Same (y8 l) a a'->GxS (y8 l) γ γ'->K e' C'->Q .normal a' (mk B d' h'))->wpList P ops Q l a (mk B d h)
 |[],e,C,γ,h,a,d,H,hs,I,hQ=>hQ _ _ _ _ _ _ hs.clean I (Same.refl _ _) (GxS.refl _ _) H
 |o::rest,e,C,γ,h,a,d,H,hs,I,hQ=>by
  unfold wRA at H
  split at H
  ·rename_i c hc
   cases hd:qk n c o.dst with
   |false=>rw[hd]at H;exact H.elim
   |true=>
    rw[hd]at H
    simp only[cond_true]at H
    have hw:=xm hs hc
    have ab:∀i,o.dst=some i->i∈y8 (o::rest):=λi hi=>by simp[y8,hi]
    have Z:∀x∈y8 rest,x∈y8 (o::rest):=λx hx=>by
     unfold y8
     split
     ·exact Ae _ hx
     ·exact hx
    have aa:∀av u d' h' C' i γ',(valid (zo a) c->DenV γ' av u)->(¬valid (zo a) c->u=undef)->Inv h0 W M0 (C'++R) γ' h'->Gx i γ γ'->(bif qfs i o.dst then wRA P gl tr n ops R K rest (z4p (ztz i e) o.dst c av) C' else False) ->
      wpList P ops Q rest (a.put o.dst u) (mk B d' h'):=λav u d' h' C' i γ' h1 h2 I' g h3=>by
     cases hid:qfs i o.dst with
     |false=>rw[hid]at h3;exact h3.elim
     |true=>
      rw[hid]at h3
      exact zdh af B rest _ _ _ _ _ _ h3 ((hs.gx g).putO hd h1 h2) I' λe' ai ah a' aj ak q1 q2 q3 q4 q5=>
       hQ e' ai ah a' aj ak q1 q2 ((Same.put a o.dst u ab).trans (q3.mono Z)) ((g.toS hid ab).trans (q4.mono Z)) q5
    unfold wpList
    by_cases hv:valid (zo a) c
    ·rw[if_pos (hw.2 hv)]
     refine .inl ((qae af H hs I hv).upon B d ?_)
     rintro v d' h' ⟨av,C',i,γ',g1,g2,g3,g4⟩
     exact aa av v d' h' C' i γ' (λ_=>g2) (λae=>absurd hv ae) g3 g4 g1
    ·rw[if_neg (λhx=>hv (hw.1 hx))]
     obtain⟨av,hK⟩:=qdk H hs hv
     exact aa av undef d h C none γ (λae=>absurd ae hv) (λ_=>rfl) I (Gx.refl _ _) hK
  ·exact H.elim
end
section
variable {cs C R:CS} {γ:Gh} {h:za} {i:Nat} {e:TypeId} {t:Ty}
variable {h0 : za} {W : Nat -> Prop} {M0 : Fr}
inductive Shp where
 |dat (t:Ty)
 |own (e:TypeId) (t:Ty)
 deriving DecidableEq
@[reducible] def DS:Shp->Type
 |.dat t=>El t
 |.own _ t=>List (El t)
inductive SG where
 |one (s:Shp)
 |agg (l:List Shp)
structure AnnA where
 slots:List (Nat×SG)
 boxes:List (Nat×List Shp)
 ro:List Nat
 ids:List Nat
abbrev Dy:=(s:Shp)×DS s
@[reducible] def zwp:List Shp->Type->Type
 |[],X=>X
 |s::l,X=>DS s->zwp l X
def qaf(s s':Shp)(x:DS s):Option (DS s'):=if h:s=s' then some (h ▸ x)else none
def zzj{X:Type}:(l:List Shp)->zwp l X->(List Dy->X->Prop)->Prop
 |[],f,k=>k [] f
 |s::l,f,k=>∀x:DS s,zzj l (f x) λvs y=>k (⟨s,x⟩::vs) y
def zfq{X:Type}:(l:List Shp)->List Dy->zwp l X->Option X
 |[],[],f=>some f
 |s::l,d::ds,f=>match qaf d.1 s d.2 with
  |some x=>zfq l ds (f x)
  |none=>none
 |_,_,_=>none
def qdl{X:Type}:(l:List Shp)->(List Dy->X)->zwp l X
 |[],f=>f []
 |s::l,f=>λx=>qdl l λvs=>f (⟨s,x⟩::vs)
def zo3{X Y:Type}:(l:List Shp)->zwp l X->zwp l Y->zwp l (X×Y)
 |[],f,g=>(f,g)
 |_::l,f,g=>λx=>zo3 l (f x) (g x)
theorem zt6{s s':Shp}{x:DS s}{y:DS s'}(h:qaf s s' x=some y):(⟨s',y⟩:Dy)=⟨s,x⟩:=by
 unfold qaf at h
 split at h
 ·rename_i e
  subst e
  have h:=Au h
  rw[<-h]
 ·cases h
theorem zks{X:Type}:∀{l:List Shp} {vs:List Dy} {f:zwp l X} {x:X} {k:List Dy->X->Prop},zfq l vs f=some x->zzj l f k->k vs x
 |[],[],f,x,k,h,g=>by have h:=Au h;subst h;exact g
 |[],_::_,f,x,k,h,g=>by simp[zfq]at h
 |_::_,[],f,x,k,h,g=>by simp[zfq]at h
 |s::l,d::ds,f,x,k,h,g=>by
  simp only[zfq]at h
  split at h
  ·rename_i y hy
   have:=zks h (g y)
   rw[zt6 hy]at this
   exact this
  ·cases h
theorem zo4{X:Type}:∀{l:List Shp} {vs:List Dy} {f:List Dy->X} {x:X},zfq l vs (qdl l f)=some x->x=f vs
 |[],[],f,x,h=>(Au h).symm
 |[],_::_,f,x,h=>by simp[zfq]at h
 |_::_,[],f,x,h=>by simp[zfq]at h
 |s::l,d::ds,f,x,h=>by
  simp only[zfq,qdl]at h
  split at h
  ·rename_i y hy
   have:=zo4 h
   rw[zt6 hy]at this
   exact this
  ·cases h
theorem zo5{X:Type}:∀{l:List Shp} {f:List Dy->X} {k:List Dy->X->Prop},(∀vs,k vs (f vs))->zzj l (qdl l f) k
 |[],_,_,h=>h []
 |_::_,_,_,h=>λ_=>zo5 λ_=>h _
structure Pl where
 id:Nat
 s:Shp
 a:AA
def plL(base:Nat):List Shp->List AA->Option (List Pl)
 |[],[]=>some []
 |s::ss,a::as=>match plL (base+1) ss as with
  |some l=>some (⟨base,s,a⟩::l)
  |none=>none
 |_,_=>none
def zhk(e:qj):List (Nat×SG)->Option (List Pl)
 |[]=>some []
 |(i,sg)::l=>match zl2 e i,zhk e l with
  |some ([],.g x),some r=>match sg,x with
   |.one s,.a a=>some (⟨100000+64*i,s,a⟩::r)
   |.agg ss,.agg as=>match plL (100000+64*i) ss as with
    |some q=>some (q++r)
    |none=>none
   |_,_=>none
  |_,_=>none
def zhl(C:CS):List (Nat×List Shp)->Option (List Pl)
 |[]=>some []
 |(c,ss)::l=>match Qz C c,zhl C l with
  |some (.box as),some r=>match plL (1000000+64*c) ss as with
   |some q=>some (q++r)
   |none=>none
  |_,_=>none
def qdm:SG->List Shp
 |.one s=>[s]
 |.agg l=>l
def zt7:List (Nat×SG)->List Shp
 |[]=>[]
 |(_,sg)::l=>qdm sg++zt7 l
def zzk:List (Nat×List Shp)->List Shp
 |[]=>[]
 |(_,ss)::l=>ss++zzk l
def zbw(J:AnnA):List Shp:=zt7 J.slots++zzk J.boxes
def zwq:List Pl->List Nat
 |[]=>[]
 |⟨_,.dat _,.own c⟩::l=>c::zwq l
 |_::l=>zwq l
def qdn(c:Nat):List Pl->Bool
 |[]=>false
 |p::l=>bif (bif Nat.beq p.id c then true else zwf c p.a)then true else qdn c l
def zl9(R:CS):List Pl->CS->Option CS
 |[],C=>some C
 |p::l,C=>match p.s with
  |.dat _=>zl9 R l C
  |.own e t=>bif qdn p.id l then none else(match p.a with
   |.own c=>match Qz C c with
    |some (.row e' t' xs)=>match Z9 (.row t') (.row t) xs with
     |some ys=>bif Nat.beq e e' then(bif Nat.beq c p.id then zl9 R l C else(bif ql p.id R then zl9 R l ((p.id,.row e t ys)::qp p.id (J9 c C))else none))else none
     |none=>none
    |_=>none
   |.v (.slice none 0 0)=>bif ql p.id R then zl9 R l ((p.id,.row e t [])::qp p.id C)else none
   |_=>none)
theorem zkt(I:Inv h0 W M0 cs γ h){x y:Nat×Ch}(hx:x∈cs)(hy:y∈cs)(aa:x≠y):∀b,blk γ x.1 x.2=some b->blk γ y.1 y.2≠some b:=
 @zc8 _ (λ(x y:Nat×Ch)=>∀b,blk γ x.1 x.2=some b->blk γ y.1 y.2≠some b) (λx y h b hb Z=>h b Z hb) _ I.apart _ _ hx hy aa
theorem Inv.rename(I:Inv h0 W M0 (C++R) γ h){c i:Nat}(hR:ql i R=true){xs:List (El t)}(hc:(c,Ch.row e t xs)∈C):
  Inv h0 W M0 ((i,.row e t xs)::qp i (J9 c C)++R) (zrx γ i (γ.σ c)) h:=by
 have aa:(qp i (J9 c C)++R).Sublist (C++R):=(((j9 i _).trans (wu c C))).append_right R
 have Z:(c,Ch.row e t xs)∈C++R:=Ar R hc
 have ae:∀x∈qp i (J9 c C)++R,∀b,blk γ c (.row e t xs)=some b->blk γ x.1 x.2≠some b:=by
  intro x hx b hb af
  have ah:x≠(c,Ch.row e t xs):=by
   rintro rfl
   rcases Aw.1 hx with hx|hx
   ·exact(Yr ((j9 i _).subset hx)).2 rfl
   ·have ab:=I.apart
    rw[CE]at ab
    exact ab.2.2 _ hc _ hx b hb hb
  exact zkt I (aa.subset hx) Z ah b af hb
 have hI:Inv h0 W M0 (qp i (J9 c C)++R) (zrx γ i (γ.σ c)) h:=
  I.rest aa (Qa γ i _) (zbo hR) (λx hx b hb=>⟨rfl,(I.sep x (aa.subset hx) b hb).2⟩) I.ag (λ_ _ _=>rfl) (Ac _) (λ_ _=>rfl)
 obtain⟨cells,h1,h2,h3,h4⟩:=I.den _ Z
 have eb:∀b,blk (zrx γ i (γ.σ c)) i (.row e t xs)=some b->blk γ c (.row e t xs)=some b:=λb hb=>by simpa[blk,qy]using hb
 refine hI.cons ⟨cells,by rw[qy];exact h1,h2,h3,by rw[qy];exact h4⟩ (λb hb=>I.sep _ Z b (eb b hb)) (λb hb x hx e'=>?_)
 rw[zkk (Qa γ i _) _ (zbo hR x hx).1]at e'
 exact ae x hx b (eb b hb) e'
theorem Inv.nilRow(I:Inv h0 W M0 (C++R) γ h)(hR:ql i R=true)(e:TypeId)(t:Ty):
  Inv h0 W M0 ((i,.row e t [])::qp i C++R) (zrx γ i ⟨none,0,0⟩) h:=by
 have Z:=(j9 i C).append_right R
 have hI:Inv h0 W M0 (qp i C++R) (zrx γ i ⟨none,0,0⟩) h:=
  I.rest Z (Qa γ i _) (zbo hR) (λx hx b hb=>⟨rfl,(I.sep x (Z.subset hx) b hb).2⟩) I.ag (λ_ _ _=>rfl) (Ac _) (λ_ _=>rfl)
 refine hI.cons ⟨[],by rw[qy];exact Owns.nil _ _ _ _,RowC.nil _ _,by simp,by rw[qy];rfl⟩ (λb hb=>by simp[blk,qy]at hb) (λb hb=>by simp[blk,qy]at hb)
theorem zt8{c:Nat}:∀{l:List Pl},qdn c l=false->∀p∈l,p.id≠c/\zwf c p.a=false
 |[],_,p,hp=>by cases hp
 |q::l,h,p,hp=>by
  simp only[qdn]at h
  cases hq:(bif Nat.beq q.id c then true else zwf c q.a)with
  |true=>rw[hq]at h;cases h
  |false=>
   rw[hq]at h
   rcases Af.1 hp with rfl|hp
   ·cases hb:Nat.beq p.id c with
    |true=>rw[hb]at hq;cases hq
    |false=>rw[hb]at hq;exact⟨λe=>by rw[e]at hb;simp at hb,hq⟩
   ·exact zt8 h p hp
def zwr:List Pl->List Nat
 |[]=>[]
 |p::l=>p.id::zwr l
theorem zbx{R:CS}{h:za}:∀{l:List Pl} {C C1:CS} {γ:Gh},zl9 R l C=some C1->Inv h0 W M0 (C++R) γ h ->
  ∃γ1,Inv h0 W M0 (C1++R) γ1 h/\GxS (zwr l) γ γ1/\(γ1.M=γ.M/\γ1.β=γ.β)/\∀p∈l,∀e t,p.s=.own e t->∀u,DenA γ p.a u->DenA γ1 (.own p.id) u
 |[],C,C1,γ,hn,I=>by
  simp only[zl9,Ab]at hn
  subst hn
  exact⟨γ,I,GxS.refl _ _,⟨rfl,rfl⟩,λp hp=>by cases hp⟩
 |p::l,C,C1,γ,hn,I=>by
  have tl:∀{S:List Nat} {a b:Gh},GxS (zwr l) a b->GxS (zwr (p::l)) a b:=λg=>g.mono λx hx=>Ae _ hx
  have aa:∀s,GxS (zwr (p::l)) γ (zrx γ p.id s):=λs=>⟨Fr.le.refl _,λi hi=>(Qa γ p.id s).2 i (by
   simp only[zwr,Af,not_or]at hi;intro e;simp only[Ab]at e;exact hi.1 e.symm)⟩
  simp only[zl9]at hn
  split at hn
  ·rename_i t hs
   obtain⟨γ1,I1,g1,m1,h1⟩:=zbx hn I
   exact⟨γ1,I1,tl (S:=[]) g1,m1,λq hq e t' Z=>by
    rcases Af.1 hq with rfl|hq
    ·rw[hs]at Z;cases Z
    ·exact h1 q hq e t' Z⟩
  ·rename_i e t hs
   cases hm:qdn p.id l with
   |true=>rw[hm]at hn;cases hn
   |false=>
    rw[hm]at hn
    simp only[cond_false]at hn
    have af:=zt8 hm
    have fin:∀{C2:CS} {γ2:Gh},zl9 R l C2=some C1->Inv h0 W M0 (C2++R) γ2 h->GxS (zwr (p::l)) γ γ2->(γ2.M=γ.M/\γ2.β=γ.β)->(∀i,i≠p.id->γ2.σ i=γ.σ i/\γ2.β i=γ.β i)->(∀u,DenA γ p.a u->DenA γ2 (.own p.id) u) ->
      ∃γ1,Inv h0 W M0 (C1++R) γ1 h/\GxS (zwr (p::l)) γ γ1/\(γ1.M=γ.M/\γ1.β=γ.β)/\∀q∈p::l,∀e t,q.s=.own e t->∀u,DenA γ q.a u->DenA γ1 (.own q.id) u:=by
     intro C2 γ2 ak I2 g2 m2 ab aj
     obtain⟨γ1,I1,g1,m1,h1⟩:=zbx ak I2
     refine⟨γ1,I1,g2.trans (tl (S:=[]) g1),⟨m1.1.trans m2.1,m1.2.trans m2.2⟩,λq hq e' t' Z u hu=>?_⟩
     rcases Af.1 hq with rfl|hq
     ·have h2:=aj u hu
      have ai:q.id∉zwr l:=by
       intro hi
       have:∀{l:List Pl},q.id∈zwr l->∃p∈l,p.id=q.id:=by
        intro l
        induction l with
        |nil=>intro h;cases h
        |cons x l ih=>
         intro h
         simp only[zwr,Af]at h
         rcases h with h|h
         ·exact⟨x,Aj,h.symm⟩
         ·obtain⟨y,hy,e⟩:=ih h;exact⟨y,Ae _ hy,e⟩
       obtain⟨y,hy,e⟩:=this hi
       exact(af y hy).1 e
      rw[show u=_ from h2]
      simp only[DenA,(g1.2 _ ai).2]
     ·refine h1 q hq e' t' Z u ?_
      have gx:Gx (some p.id) γ γ2:=⟨by rw[m2.1];exact Fr.le.refl _,λi hi=>by
       have:=ab i (λe=>hi (by rw[e]))
       exact⟨this.2,this.1⟩⟩
      exact hu.gx gx (af q hq).2
    split at hn
    ·rename_i c ha
     split at hn
     ·rename_i e' t' xs hc
      split at hn
      ·rename_i ys ae
       obtain⟨e1,e2⟩:=Q4 ae
       subst e1
       simp only at e2
       subst e2
       cases hee:Nat.beq e e' with
       |false=>rw[hee]at hn;cases hn
       |true=>
        rw[hee]at hn
        have:=Ah hee
        subst this
        simp only[cond_true]at hn
        cases hci:Nat.beq c p.id with
        |true=>
         rw[hci]at hn
         simp only[cond_true]at hn
         have ah:=Ah hci
         exact fin hn I (GxS.refl _ _) ⟨rfl,rfl⟩ (λ_ _=>⟨rfl,rfl⟩) (λu hu=>by rw[ha,ah]at hu;exact hu)
        |false=>
         rw[hci]at hn
         simp only[cond_false]at hn
         cases hR:ql p.id R with
         |false=>rw[hR]at hn;cases hn
         |true=>
          rw[hR]at hn
          simp only[cond_true]at hn
          refine fin hn (I.rename hR (qb hc)) (aa _) ⟨rfl,rfl⟩ (λi hi=>?_) (λu hu=>?_)
          ·have:=(Qa γ p.id (γ.σ c)).2 i (by simp;exact λe=>hi e.symm)
           exact⟨this.2,this.1⟩
          ·rw[ha]at hu
           rw[show u=_ from hu]
           simp only[DenA,qy]
      ·cases hn
     ·cases hn
    ·rename_i ha
     cases hR:ql p.id R with
     |false=>rw[hR]at hn;cases hn
     |true=>
      rw[hR]at hn
      simp only[cond_true]at hn
      refine fin hn (I.nilRow hR e t) (aa _) ⟨rfl,rfl⟩ (λi hi=>?_) (λu hu=>?_)
      ·have:=(Qa γ p.id ⟨none,0,0⟩).2 i (by simp;exact λe=>hi e.symm)
       exact⟨this.2,this.1⟩
      ·rw[ha]at hu
       rw[show u=_ from hu]
       simp only[DenA,qy]
       rfl
    ·cases hn
def qdo(Z cs:CS)(p:Pl):Option Dy:=match p.s with
 |.dat t=>match zje Z t p.a with
  |some x=>some ⟨.dat t,x⟩
  |none=>none
 |.own e t=>match Qz cs p.id with
  |some (.row e' t' xs)=>match Z9 (.row t') (.row t) xs with
   |some ys=>bif Nat.beq e e' then some ⟨.own e t,ys⟩else none
   |none=>none
  |_=>none
def zws(Z cs:CS):List Pl->Option (List Dy)
 |[]=>some []
 |p::l=>match qdo Z cs p,zws Z cs l with
  |some d,some v=>some (d::v)
  |_,_=>none
def qft(i:Nat):Dy->AA
 |⟨.dat t,x⟩=>match Y8 t x with
  |[a]=>a
  |_=>.v undef
 |⟨.own _ _,_⟩=>.own i
def qfu:Nat->List Dy->List AA
 |_,[]=>[]
 |i,d::l=>qft i d::qfu (i+1) l
def qcr(i:Nat):Dy->CS
 |⟨.own e t,xs⟩=>[(i,.row e t xs)]
 |_=>[]
def zwt:Nat->List Dy->CS
 |_,[]=>[]
 |i,d::l=>qcr i d++zwt (i+1) l
theorem zt9{x:El t}{u:Value}(h:Rd γ.M t x [u]):DenA γ (qft i ⟨.dat t,x⟩) u:=by
 have hd:=xb (γ:=γ) h
 unfold qft
 match hx:Y8 t x,hd with
 |[a],hd=>simp only[hx];exact hd.1
 |[],hd=>exact hd.elim
 |_::_::_,hd=>exact hd.2.elim
theorem zwu{t':Ty}{xs:List (El t')}{ys:List (El t)}(h:Z9 (.row t') (.row t) xs=some ys):Ch.row e t' xs=Ch.row e t ys:=by
 obtain⟨e1,e2⟩:=Q4 h
 subst e1
 simp only at e2
 rw[e2]
theorem zo6{Z cs:CS}{p:Pl}{l:List Pl}{v:List Dy}(h:zws Z cs (p::l)=some v):∃d w,v=d::w/\zws Z cs l=some w /\
  ((∃t x,p.s=.dat t/\d=⟨.dat t,x⟩/\zje Z t p.a=some x)\/(∃e t xs,p.s=.own e t/\d=⟨.own e t,xs⟩/\(p.id,Ch.row e t xs)∈cs)):=by
 simp only[zws]at h
 split at h
 ·rename_i d w h1 h2
  have h:=Au h
  refine⟨d,w,h.symm,h2,?_⟩
  unfold qdo at h1
  split at h1
  ·rename_i t hs
   split at h1
   ·rename_i y hy
    exact .inl ⟨t,y,hs,(Au h1).symm,hy⟩
   ·cases h1
  ·rename_i e t hs
   split at h1
   ·rename_i e' t' xs hf
    split at h1
    ·rename_i ys hc
     cases he:Nat.beq e e' with
     |false=>rw[he]at h1;cases h1
     |true=>
      rw[he]at h1
      refine .inr ⟨e,t,ys,hs,(Au (show some (⟨.own e t,ys⟩:Dy)=some d from h1)).symm,?_⟩
      have:=qb hf
      rw[zwu hc,<-Ah he]at this
      exact this
    ·cases h1
   ·cases h1
 ·cases h
theorem Wh{Z cs:CS}:∀{q r:List Pl} {v:List Dy},zws Z cs (q++r)=some v->∃v1 v2,v=v1++v2/\v1.length=q.length/\zws Z cs q=some v1/\zws Z cs r=some v2
 |[],r,v,h=>⟨[],v,rfl,rfl,rfl,h⟩
 |p::q,r,v,h=>by
  simp only[AE,zws]at h
  split at h
  ·rename_i d w h1 h2
   have h:=Au h
   obtain⟨v1,v2,rfl,e1,e2,e3⟩:=Wh h2
   exact⟨d::v1,v2,by rw[<-h];rfl,by simp[e1],by simp only[zws,h1,e2],e3⟩
  ·cases h
theorem zo7{base:Nat}:∀{ss:List Shp} {as:List AA} {l:List Pl},plL base ss as=some l->l.length=ss.length/\∀{γ γ1:Gh} {aa Z:CS} {v:List Dy} {us:List Value},z3x γ aa->γ1.M=γ.M->zws aa Z l=some v ->
   (∀p∈l,∀e t,p.s=.own e t->∀u,DenA γ p.a u->DenA γ1 (.own p.id) u)->All2 (DenA γ) as us->All2 (DenA γ1) (qfu base v) us/\∀x∈zwt base v,x∈Z:=by
 intro ss
 induction ss generalizing base with
 |nil=>
  intro as l h
  cases as with
  |nil=>
   simp only[plL,Ab]at h
   subst h
   refine⟨rfl,λhf hM hd ho hu=>?_⟩
   have hd:=Au hd
   subst hd
   refine⟨?_,λx hx=>by cases hx⟩
   rename_i us
   cases us with
   |nil=>trivial
   |cons _ _=>exact hu.elim
  |cons a as=>simp[plL]at h
 |cons s ss ih=>
  intro as l h
  cases as with
  |nil=>simp[plL]at h
  |cons a as=>
   simp only[plL]at h
   split at h
   ·rename_i l' hl
    simp only[Ab]at h
    subst h
    obtain⟨e1,ih⟩:=ih hl
    refine⟨by simp[e1],λ {γ γ1 aa Z v us} hf hM hd ho hu=>?_⟩
    obtain⟨d,w,rfl,h2,h3⟩:=zo6 hd
    cases us with
    |nil=>exact hu.elim
    |cons u us=>
     obtain⟨i1,i2⟩:=ih hf hM h2 (λp hp=>ho p (Ae _ hp)) hu.2
     rcases h3 with⟨t,x,hs,rfl,hc⟩|⟨e,t,xs,hs,rfl,hm⟩
     ·have:=js hf hc hu.1
      rw[<-hM]at this
      refine⟨⟨zt9 this,i1⟩,λy hy=>i2 y ?_⟩
      simpa[zwt,qcr]using hy
     ·refine⟨⟨ho _ Aj e t hs u hu.1,i1⟩,λy hy=>?_⟩
      simp only[zwt,qcr,AE,A8,Af]at hy
      rcases hy with rfl|hy
      ·exact hm
      ·exact i2 y hy
   ·cases h
def zby:List (Nat×SG)->List Dy->qj
 |[],_=>[]
 |(i,.one _)::l,d::ds=>(i,[],.g (.a (qft (100000+64*i) d)))::zby l ds
 |(_,.one _)::_,[]=>[]
 |(i,.agg ss)::l,ds=>(i,[],.g (.agg (qfu (100000+64*i) (ds.take ss.length))))::zby l (ds.drop ss.length)
def Wi:List (Nat×SG)->List Dy->CS
 |[],_=>[]
 |(i,.one _)::l,d::ds=>qcr (100000+64*i) d++Wi l ds
 |(_,.one _)::_,[]=>[]
 |(i,.agg ss)::l,ds=>zwt (100000+64*i) (ds.take ss.length)++Wi l (ds.drop ss.length)
def zma:List (Nat×List Shp)->List Dy->CS
 |[],_=>[]
 |(c,ss)::l,ds=>(c,.box (qfu (1000000+64*c) (ds.take ss.length)))::(zwt (1000000+64*c) (ds.take ss.length)++zma l (ds.drop ss.length))
def zr3:List (Nat×SG)->Nat
 |[]=>0
 |(_,.one _)::l=>1+zr3 l
 |(_,.agg ss)::l=>ss.length+zr3 l
def z8c(J:AnnA)(ds:List Dy):qj:=zby J.slots ds
def chJ(J:AnnA)(ds:List Dy):CS:=Wi J.slots ds++zma J.boxes (ds.drop (zr3 J.slots))
theorem Wj{e:qj}{n:Nat}{a:Act}:∀{ss:List (Nat×SG)} {l:List Pl},zhk e ss=some l->l.length=zr3 ss/\∀{γ γ1:Gh} {ae ab:CS} {v w:List Dy},SatA n e γ a->z3x γ ae->γ1.M=γ.M->zws ae ab l=some v ->
   (∀p∈l,∀e t,p.s=.own e t->∀u,DenA γ p.a u->DenA γ1 (.own p.id) u)->(∀x∈zby ss (v++w),zl3 γ1 (zo a) x)/\∀x∈Wi ss (v++w),x∈ab
 |[],l,h=>by
  simp only[zhk,Ab]at h
  subst h
  refine⟨rfl,λ_ _ _ hd _=>?_⟩
  have hd:=Au hd
  subst hd
  exact⟨λx hx=>(by cases hx),λx hx=>(by cases hx)⟩
 |(i,sg)::ss,l,h=>by
  simp only[zhk]at h
  split at h
  ·rename_i x r hl hr
   split at h
   ·rename_i s aa
    simp only[Ab]at h
    subst h
    obtain⟨e1,ih⟩:=Wj (n:=n) (a:=a) hr
    refine⟨by simp[e1,zr3];omega,λ {γ γ1 ae ab v w} hs hf hM hd ho=>?_⟩
    obtain⟨d,v',rfl,h2,h3⟩:=zo6 hd
    obtain⟨i1,i2⟩:=ih (w:=w) hs hf hM h2 (λp hp=>ho p (Ae _ hp))
    have Z:DenA γ aa (zo a i):=(hs.all _ (Zy hl)).1 trivial
    rcases h3 with⟨t,x,af,rfl,hc⟩|⟨e',t,xs,af,rfl,hm⟩
    ·have:=js hf hc Z
     rw[<-hM]at this
     refine⟨λy hy=>?_,λy hy=>?_⟩
     ·simp only[AE,zby,Af]at hy
      rcases hy with rfl|hy
      ·exact⟨λ_=>zt9 this,λhn=>absurd trivial hn⟩
      ·exact i1 y hy
     ·simp only[AE,Wi,qcr,A8]at hy
      exact i2 y hy
    ·refine⟨λy hy=>?_,λy hy=>?_⟩
     ·simp only[AE,zby,Af]at hy
      rcases hy with rfl|hy
      ·exact⟨λ_=>ho _ Aj e' t af _ Z,λhn=>absurd trivial hn⟩
      ·exact i1 y hy
     ·simp only[AE,Wi,qcr,A8,Af]at hy
      rcases hy with rfl|hy
      ·exact hm
      ·exact i2 y hy
   ·rename_i ah as
    split at h
    ·rename_i q hq
     simp only[Ab]at h
     subst h
     obtain⟨e1,ih⟩:=Wj (n:=n) (a:=a) hr
     obtain⟨e2,hp⟩:=zo7 hq
     refine⟨by simp[e1,e2,zr3],λ {γ γ1 ae ab v w} hs hf hM hd ho=>?_⟩
     obtain⟨v1,v2,rfl,l1,d1,d2⟩:=Wh hd
     obtain⟨i1,i2⟩:=ih (w:=w) hs hf hM d2 (λp hp=>ho p (Ay _ hp))
     obtain⟨us,hu,Z⟩:=(show ∃us,zo a i=.agg us.toArray/\All2 (DenA γ) as us from(hs.all _ (Zy hl)).1 trivial)
     obtain⟨p1,p2⟩:=hp hf hM d1 (λp hp=>ho p (Ar _ hp)) Z
     have et:(v1++v2++w).take ah.length=v1:=by rw[<-e2,<-l1,AM,CH]
     have ed:(v1++v2++w).drop ah.length=v2++w:=by rw[<-e2,<-l1,AM,DD]
     refine⟨λy hy=>?_,λy hy=>?_⟩
     ·simp only[zby,et,ed,Af]at hy
      rcases hy with rfl|hy
      ·exact⟨λ_=>⟨us,hu,p1⟩,λhn=>absurd trivial hn⟩
      ·exact i1 y hy
     ·simp only[Wi,et,ed,Aw]at hy
      rcases hy with hy|hy
      ·exact p2 y hy
      ·exact i2 y hy
    ·cases h
   ·cases h
  ·cases h
theorem zdi{C0:CS}:∀{bs:List (Nat×List Shp)} {l:List Pl},zhl C0 bs=some l->∀{R:CS} {γ γ1:Gh} {aa Z:CS} {v:List Dy} {h:za},Inv h0 W M0 (C0++R) γ h->z3x γ aa->γ1.M=γ.M->γ1.β=γ.β->zws aa Z l=some v ->
   (∀p∈l,∀e t,p.s=.own e t->∀u,DenA γ p.a u->DenA γ1 (.own p.id) u) ->
   ∀x∈zma bs v,x∈Z\/(DenC h0.size γ1 h x.1 x.2/\(∃as,(x.1,Ch.box as)∈C0)/\(∃as,x.2=Ch.box as)/\∃ss,(x.1,ss)∈bs)
 |[],l,hp,R,γ,γ1,aa,Z,v,h,I,hf,hM,hβ,hd,ho,x,hx=>by cases hx
 |(c,ss)::bs,l,hp,R,γ,γ1,aa,Z,v,h,I,hf,hM,hβ,hd,ho,x,hx=>by
  simp only[zhl]at hp
  split at hp
  ·rename_i as r hc hr
   split at hp
   ·rename_i q hq
    simp only[Ab]at hp
    subst hp
    obtain⟨e2,ae⟩:=zo7 hq
    obtain⟨v1,v2,rfl,l1,d1,d2⟩:=Wh hd
    obtain⟨us,eb,ab⟩:=I.den _ (Ar R (qb hc))
    obtain⟨p1,p2⟩:=ae hf hM d1 (λp hp=>ho p (Ar _ hp)) ab
    have et:(v1++v2).take ss.length=v1:=by rw[<-e2,<-l1,CH]
    have ed:(v1++v2).drop ss.length=v2:=by rw[<-e2,<-l1,DD]
    simp only[zma,et,ed,Af,Aw]at hx
    rcases hx with rfl|hx|hx
    ·exact .inr ⟨⟨us,by rw[hβ];exact eb,p1⟩,⟨as,qb hc⟩,⟨_,rfl⟩,ss,Aj⟩
    ·exact .inl (p2 x hx)
    ·rcases zdi hr I hf hM hβ d2 (λp hp=>ho p (Ay _ hp)) x hx with h1|⟨h1,h2,h3,s',h4⟩
     ·exact .inl h1
     ·exact .inr ⟨h1,h2,h3,s',Ae _ h4⟩
   ·cases hp
  ·cases hp
def zhm(C:CS):List (Nat×List Shp)->Bool
 |[]=>true
 |(c,_)::l=>match Qz C c with
  |some (.box _)=>zhm C l
  |_=>false
theorem zhn{C:CS}:∀{l:List (Nat×List Shp)},zhm C l=true->∀c ss,(c,ss)∈l->∃as,(c,Ch.box as)∈C
 |[],_,c,ss,h=>by cases h
 |(c',ss')::l,hb,c,ss,h=>by
  simp only[zhm]at hb
  split at hb
  ·rename_i as hf
   rcases Af.1 h with h|h
   ·cases h;exact⟨as,qb hf⟩
   ·exact zhn hb c ss h
  ·cases hb
def zwv:CS->Bool
 |[]=>true
 |(c,_)::l=>bif zzd c l then zwv l else false
theorem zku:∀{l:CS},zwv l=true->l.Pairwise λx y=>x.1≠y.1
 |[],_=>.nil
 |(c,k)::l,h=>by
  simp only[zwv]at h
  cases hn:zzd c l with
  |false=>rw[hn]at h;cases h
  |true=>
   rw[hn]at h
   exact BH.2 ⟨λy hy e=>zau hn y hy e.symm,zku h⟩
def allIn(S:List Nat):List Nat->Bool
 |[]=>true
 |i::l=>bif memN S i then allIn S l else false
theorem zo8{l:List Nat}(h:memN l i=true):i∈l:=by
 induction l with
 |nil=>cases h
 |cons j l ih=>
  simp only[memN]at h
  cases hb:Nat.beq i j with
  |true=>rw[Ah hb];exact Aj
  |false=>rw[hb]at h;exact Ae _ (ih h)
theorem zo9{S:List Nat}:∀{l:List Nat},allIn S l=true->∀i∈l,i∈S
 |[],_,i,h=>by cases h
 |j::l,hl,i,h=>by
  simp only[allIn]at hl
  cases hm:memN S j with
  |false=>rw[hm]at hl;cases hl
  |true=>
   rw[hm]at hl
   rcases Af.1 h with rfl|h
   ·exact zo8 hm
   ·exact zo9 hl i h
theorem Inv.pick{C F R:CS}(I:Inv h0 W M0 (C++R) γ h)(hnd:zwv F=true)(hsrc:∀x∈F,DenC h0.size γ h x.1 x.2/\∃k,(x.1,k)∈C/\blk γ x.1 k=blk γ x.1 x.2):Inv h0 W M0 (F++R) γ h where
 ag:=I.ag
 frame:=I.frame
 size:=I.size
 old:=I.old
 le:=I.le
 den:=λx hx=>by
  rcases Aw.1 hx with hx|hx
  ·exact(hsrc x hx).1
  ·exact I.den x (Ay _ hx)
 sep:=λx hx b hb=>by
  rcases Aw.1 hx with hx|hx
  ·obtain⟨_,k,hk,e⟩:=hsrc x hx
   exact I.sep _ (Ar _ hk) b (by rw[e];exact hb)
  ·exact I.sep x (Ay _ hx) b hb
 apart:=by
  have hI:=I.apart
  rw[CE]at hI ⊢
  refine⟨(zku hnd).imp_of_mem λ {x y} hx hy hne b hb hb'=>?_,hI.2.1,λx hx y hy b hb=>?_⟩
  ·obtain⟨_,k,hk,e⟩:=hsrc x hx
   obtain⟨_,k',hk',e'⟩:=hsrc y hy
   exact zkt I (Ar R hk) (Ar R hk') (λe2=>hne (Prod.mk.inj e2).1) b (by rw[e];exact hb) (by rw[e'];exact hb')
  ·obtain⟨_,k,hk,e⟩:=hsrc x hx
   exact hI.2.2 _ hk y hy b (by rw[e];exact hb)
def xtr(J:AnnA)(R:CS)(e:qj)(C:CS):Option (List Dy):=
 match zhk e J.slots,zhl C J.boxes with
 |some ps,some pb=>match zhl (frzL (zwq (ps++pb)) C) J.boxes with
  |some Z=>match zl9 R (ps++Z) (frzL (zwq (ps++pb)) C)with
   |some C1=>bif zhm C1 J.boxes then(bif allIn J.ids (zwr (ps++Z))then(match zws (frzL (zwq (ps++pb)) C++R) C1 (ps++Z)with
    |some ds=>bif zwv (chJ J ds)then some ds else none
    |none=>none)else none)else none
   |none=>none
  |none=>none
 |_,_=>none
theorem zho{J:AnnA}{e:qj}{ds:List Dy}(hx:xtr J R e C=some ds){n:Nat}{a:Act}(hs:SatA n e γ a)(I:Inv h0 W M0 (C++R) γ h):
  ∃γ1,Inv h0 W M0 (chJ J ds++R) γ1 h/\GxS J.ids γ γ1/\∀x∈z8c J ds,zl3 γ1 (zo a) x:=by
 unfold xtr at hx
 split at hx
 ·rename_i ps pb aj am
  split at hx
  ·rename_i ak aa
   split at hx
   ·rename_i C1 ab
    cases hbi:zhm C1 J.boxes with
    |false=>rw[hbi]at hx;cases hx
    |true=>
    rw[hbi]at hx
    cases hai:allIn J.ids (zwr (ps++ak))with
    |false=>rw[hai]at hx;cases hx
    |true=>
    rw[hai]at hx
    simp only[cond_true]at hx
    split at hx
    ·rename_i Z af
     cases hnd:zwv (chJ J Z)with
     |false=>rw[hnd]at hx;cases hx
     |true=>
     rw[hnd]at hx
     have hx:=Au (show some Z=some ds from hx)
     subst hx
     obtain⟨γ0,I0,g0⟩:=Inv.frzL (C:=C) (γ:=γ) (zwq (ps++pb)) I
     have ai:=hs.gx0 g0
     obtain⟨γ1,I1,g1,⟨hM,hβ⟩,ho⟩:=zbx ab I0
     obtain⟨v1,v2,rfl,l1,d1,d2⟩:=Wh af
     obtain⟨e1,ah⟩:=Wj (n:=n) (a:=a) aj
     obtain⟨f1,f2⟩:=ah (w:=v2) ai I0.fz hM d1 (λp hp=>ho p (Ar _ hp))
     have ae:=zdi aa I0 I0.fz hM hβ d2 (λp hp=>ho p (Ay _ hp))
     have ed:(v1++v2).drop (zr3 J.slots)=v2:=by rw[<-e1,<-l1,DD]
     have gS:GxS J.ids γ γ1:=⟨g0.1.trans g1.1,λi hi=>by
      have h2:=g1.2 i (λhm=>hi (zo9 hai i hm))
      have h1:=g0.2 i (by simp)
      exact⟨h2.1.trans h1.1,h2.2.trans h1.2⟩⟩
     refine⟨γ1,I1.pick hnd λx hx=>?_,gS,f1⟩
     unfold chJ at hx
     rw[ed]at hx
     rcases Aw.1 hx with hx|hx
     ·have:=f2 x hx
      exact⟨I1.den x (Ar _ this),x.2,this,rfl⟩
     ·rcases ae x hx with h1|⟨h1,_,⟨as,h2⟩,ss,h3⟩
      ·exact⟨I1.den x (Ar _ h1),x.2,h1,rfl⟩
      ·obtain⟨an,h4⟩:=zhn hbi _ _ h3
       exact⟨h1,_,h4,by rw[h2];rfl⟩
    ·cases hx
   ·cases hx
  ·cases hx
 ·cases hx
theorem zzl{α:Type}{R:α->α->Prop}(hs:∀x y,R x y->R y x){l l':List α}(p:l.Perm l'):l.Pairwise R->l'.Pairwise R:=by
 induction p with
 |nil=>exact id
 |cons x p ih=>intro h;rw[BH]at h ⊢;exact⟨λy hy=>h.1 y (p.symm.subset hy),ih h.2⟩
 |swap x y l=>
  intro h
  simp only[BH,Af]at h ⊢
  obtain⟨h1,h2,h3⟩:=h
  exact⟨λz hz=>by rcases hz with rfl|hz;exact hs _ _ (h1 _ (.inl rfl));exact h2 z hz,λz hz=>h1 z (.inr hz),h3⟩
 |trans _ _ Z aa=>exact λh=>aa (Z h)
theorem Inv.perm{cs cs':CS}(I:Inv h0 W M0 cs γ h)(p:cs.Perm cs'):Inv h0 W M0 cs' γ h where
 ag:=I.ag
 frame:=I.frame
 size:=I.size
 old:=I.old
 le:=I.le
 den:=λx hx=>I.den x (p.symm.subset hx)
 sep:=λx hx=>I.sep x (p.symm.subset hx)
 apart:=zzl (λx y h b hb hb'=>h b hb' hb) p I.apart
end
section
variable {P:Program} {gl:Fr}
variable {h0 : za} {W : Nat -> Prop} {M0 : Fr}
def z5b(P:Program)(gl:Fr)(o:Oper)(e:qj)(c:zz)(cs:CS)(K:AV->Prop):Prop:=
 match o.op with
 |.pick x a b=>z5a e c x a b K
 |_=>match Wa e c with
  |some g=>qA P gl o (zfp e c) g cs K
  |none=>False
def wQA(P:Program)(gl:Fr)(n:Nat)(ops:Array Oper)(cs:CS)(K:qj->Prop):List Oper->qj->Prop
 |[],e=>K e
 |o::rest,e=>match Ys ops e o.guard with
  |some c=>bif qk n c o.dst then z5b P gl o e c cs λv=>wQA P gl n ops cs K rest (z4p e o.dst c v)else False
  |none=>False
theorem zkv(Z:Fr.le gl M0){o:Oper}{e:qj}{c:zz}{cs:CS}{K:AV->Prop}(H:z5b P gl o e c cs K):∃av,K av/\∀(n:Nat) (γ:Gh) (a:Act) (h:za),SatA n e γ a->Inv h0 W M0 cs γ h->valid (zo a) c->∃v,DenV γ av v/\QExec P (execOp a.eval o) h (.value v):=by
 unfold z5b at H
 split at H
 ·rename_i x y z ho
  obtain⟨av,h1,h2⟩:=Wg H
  refine⟨av,h1,λn γ a h hs I hv=>?_⟩
  obtain⟨t,h3,h4⟩:=h2 n γ a hs hv
  refine⟨_,h4,λB d=>?_⟩
  simp only[execOp,ho,h3,asBool,Sem.run_bind,Sem.run_pure,Result.andThen_ok]
 ·split at H
  ·rename_i g hg
   obtain⟨av,h1,h2⟩:=zgj (h0:=h0) (W:=W) (M0:=M0) Z H
   exact⟨av,h1,λn γ a h hs I hv=>h2 (xd hs hg hv) γ h a.eval I λx av hx=>zq hs hv hx⟩
  ·exact H.elim
theorem zhp{P:Program}{gl:Fr}(af:Fr.le gl M0){n:Nat}{ops:Array Oper}{cs:CS}{K:qj->Prop}{Q:Act->Prop}{γ:Gh}{h:za}(I:Inv h0 W M0 cs γ h)(B:World)(d:Nat):
  ∀(l:List Oper) (e:qj) (a:Act),wQA P gl n ops cs K l e->SatA n e γ a->(∀e' a',SatA n e' γ a'->Same (y8 l) a a'->K e'->Q a')->wpStill P ops (mk B d h) Q l a
 |[],e,a,H,hs,hQ=>hQ _ _ hs (Same.refl _ _) H
 |o::rest,e,a,H,hs,hQ=>by
  unfold wQA at H
  split at H
  ·rename_i c hc
   cases hd:qk n c o.dst with
   |false=>rw[hd]at H;exact H.elim
   |true=>
    rw[hd]at H
    simp only[cond_true]at H
    have hw:=xm hs hc
    have ae:∀i,o.dst=some i->i∈y8 (o::rest):=λi hi=>by simp[y8,hi]
    have aa:∀x∈y8 rest,x∈y8 (o::rest):=λx hx=>by
     unfold y8
     split
     ·exact Ae _ hx
     ·exact hx
    obtain⟨av,hK,hy⟩:=zkv (h0:=h0) (W:=W) (M0:=M0) af H
    have Z:∀u,(valid (zo a) c->DenV γ av u)->(¬valid (zo a) c->u=undef)->wpStill P ops (mk B d h) Q rest (a.put o.dst u):=λu h1 h2=>
     zhp af I B d rest _ _ hK (hs.putO hd h1 h2) λe' a' q1 q2 q3=>hQ e' a' q1 ((Same.put a o.dst u ae).trans (q2.mono aa)) q3
    unfold wpStill
    by_cases hv:valid (zo a) c
    ·rw[if_pos (hw.2 hv)]
     unfold Oper.still
     obtain⟨v,h1,h2⟩:=hy n γ a h hs I hv
     rw[h2 B d,Oper.stillUpon_value]
     exact Z v (λ_=>h1) (λab=>absurd hv ab)
    ·rw[if_neg (λhx=>hv (hw.1 hx))]
     exact Z undef (λab=>absurd ab hv) (λ_=>rfl)
  ·exact H.elim
abbrev zzm:=List (Nat×Nat)
def zr4(P:Program)(gl:Fr)(tr:TypeId)(n:Nat)(tl:zzm)(id:Nat)(ops:Array Oper)(Z:Bool)(R:CS)(K:qj->CS->Prop)(e:qj)(C:CS):Prop:=
 bif Z then(match zyq tl id with
  |none=>bif Region.lexB .any ops then wQA P gl n ops (C++R) (λe'=>K (zfj e') C) ops.toList e else False
  |some m=>bif Region.lexTailB .any ops m then wQA P gl n ops (C++R) (λe'=>wRA P gl tr n ops R K (ops.toList.drop m) e' C) (ops.toList.take m) e else False)
 else wRA P gl tr n ops R K ops.toList e C
theorem zmb(hm:P.follows .mixedOrders=true)(ab:Fr.le gl M0){tr:TypeId}{n:Nat}{tl:zzm}{id:Nat}{ops:Array Oper}{aa:Bool}{R C:CS}{K:qj->CS->Prop}{e:qj}
  (H:zr4 P gl tr n tl id ops aa R K e C) {γ:Gh} {h:za} (B:World) (d:Nat) {a:Act} (hs:SatA n e γ a) (I:Inv h0 W M0 (C++R) γ h) {Q:Exit->Act->World->Prop}
  (hQ:∀e' C' γ' a' d' h',SatA n e' γ' a'->Inv h0 W M0 (C'++R) γ' h'->Same (y8 ops.toList) a a'->GxS (y8 ops.toList) γ γ'->K e' C'->Q .normal a' (mk B d' h')):(Eo id ops aa).wp P Q a (mk B d h):=by
 unfold zr4 at H
 cases aa with
 |false=>exact wp_region_list (zdh ab B _ _ _ _ _ _ _ H hs I hQ)
 |true=>
  simp only[cond_true]at H
  split at H
  ·cases hB:Region.lexB .any ops with
   |false=>rw[hB]at H;exact H.elim
   |true=>
    rw[hB]at H
    refine wp_region_still hm hB ?_
    exact zhp ab I B (d+1) _ _ _ H hs λe' a' q1 q2 q3=>hQ _ _ _ _ _ _ q1.clean I q2 (GxS.refl _ _) q3
  ·rename_i m _
   cases hB:Region.lexTailB .any ops m with
   |false=>rw[hB]at H;exact H.elim
   |true=>
    rw[hB]at H
    have Z:y8 ops.toList=y8 (ops.toList.take m)++y8 (ops.toList.drop m):=by rw[<-Zn,BQ]
    have:=wp_region_still_tail (id:=id) (Q:=Q) (a:=a) (w:=mk B d h) (l:=ops.toList) m hm (by simpa using hB) (by
     simp only[Array.toArray_toList]
     refine zhp ab I B (d+1) _ _ _ H hs λe' a' q1 q2 q3=>?_
     refine zdh ab B _ _ _ _ _ _ (d+1) q3 q1 I λaj af ae ak ah ai q4 q5 q6 q7 q8=>hQ aj af ae ak ah ai q4 q5 ?_ ?_ q8
     ·rw[Z]
      exact(q2.mono λx hx=>Ar _ hx).trans (q6.mono λx hx=>Ay _ hx)
     ·rw[Z]
      exact q7.mono λx hx=>Ay _ hx)
    simpa using this
end
end Go.X
end
